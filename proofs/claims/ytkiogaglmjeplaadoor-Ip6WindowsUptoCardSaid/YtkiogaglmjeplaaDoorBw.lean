/- WRITTEN BY a program of this session (vc.py): for each Go function the condition that is enough for its contract, and the theorem that it is. -/
import Derived.Test.YtkiogaglmjeplaaDoorProg
import Derived.Test.YtkiogaglmjeplaaDoorBq
import Derived.Test.YtkiogaglmjeplaaDoorBt
import Derived.Test.YtkiogaglmjeplaaDoorBe
import Derived.Test.YtkiogaglmjeplaaDoorBv
namespace Go.Proofs.YtkiogaglmjeplaaDoor
open Go.Eng
namespace N6

set_option maxRecDepth 100000 in
def weirlaw7_Ip6Short_J255 (R : Ending → World → Prop) (aheadn : Nat) (lA2 : Option Addr) (ln2 : Nat) (lc2 : Nat) (q : Int) (w4 : World) : Prop :=
  SliceVC lA2 ln2 lc2 1 (some (aheadn : Int)) (some q) none fun sA sn sc =>
  Calls Tryd.prog 13 #[.slice sA sn sc] w4 (onRet (fun r_ w5 => Ip6V.ex fun h => ∃ x1 : Int, r_ = .tuple #[h.val, .int .i64 x1] ∧
  NewVC w5 (.cells (Ip6V.z : Ip6V).cells.toArray 30) fun g1 w6 =>
  Stores ⟨g1, 0, none⟩ 0 h.cells w6 fun w7 =>
  Calls Tryd.prog 15 #[.slice lA2 ln2 lc2, .int .i64 (aheadn : Int), .int .i64 q] w7 (onRet (fun r_1 w8 => ∃ (xA : Option Addr) (xn xc : Nat), r_1 = .slice xA xn xc ∧
  Calls Tryd.prog 14 #[.slice xA xn xc] w8 (onRet (fun r_2 w9 => Ip6V.ex fun h1 => ∃ x11 : Int, r_2 = .tuple #[h1.val, .int .i64 x11] ∧
  NewVC w9 (.cells (Ip6V.z : Ip6V).cells.toArray 30) fun g2 w10 =>
  Stores ⟨g2, 0, none⟩ 0 h1.cells w10 fun w11 =>
  Calls Tryd.prog 16 #[] w11 (onRet (fun r_3 w12 => ∃ x : Bool, r_3 = .bool x ∧
  Br x
    (Calls Tryd.prog 17 #[.int .i64 x1] w12 (onRet (fun r_4 w13 => ∃ x2 : Int, r_4 = .int .i64 x2 ∧
    Br (decide (x2 = x11))
      (Ip6V.ex fun h2 => CellsAt w13 ⟨g1, 0, none⟩ 0 h2.cells ∧
      Ip6V.ex fun h3 => CellsAt w13 ⟨g2, 0, none⟩ 0 h3.cells ∧
      Calls Tryd.prog 18 #[h2.val, h3.val] w13 (onRet (fun r_5 w14 => ∃ x3 : Bool, r_5 = .bool x3 ∧
      R (.returned (.bool x3)) w14)
        (fun ch5 w14 => R (.panicked ch5) w14)))
      (R (.returned (.bool false)) w13))
      (fun ch4 w13 => R (.panicked ch4) w13)))
    (R (.returned (.bool false)) w12))
    (fun ch3 w12 => R (.panicked ch3) w12)))
    (fun ch2 w9 => R (.panicked ch2) w9)))
    (fun ch1 w8 => R (.panicked ch1) w8)))
    (fun ch w5 => R (.panicked ch) w5))
set_option maxRecDepth 100000 in
def weirlaw7_Ip6Short_VC (bA : Option Addr) (bn : Nat) (bc : Nat) (aheadA : Option Addr) (aheadn : Nat) (aheadc : Nat) (behindA : Option Addr) (behindn : Nat) (behindc : Nat) (n : Int) (w : World) (R : Ending → World → Prop) : Prop :=
  AppVC Tryd.prog #[22, 22] 22 (.slice none 0 0) (.slice aheadA aheadn aheadc) w fun lA ln lc w1 =>
  AppVC Tryd.prog #[22, 22] 22 (.slice lA ln lc) (.slice bA bn bc) w1 fun lA1 ln1 lc1 w2 =>
  AppVC Tryd.prog #[22, 22] 22 (.slice lA1 ln1 lc1) (.slice behindA behindn behindc) w2 fun lA2 ln2 lc2 w3 =>
  JoinVC (S := Int) (fun J255 =>
      Br (decide ((0 : Int) ≤ n))
        (Br (decide (n < (bn : Int)))
        (J255 (IntKind.i64.wrap ((aheadn : Int) + n)) w3)
        (J255 (IntKind.i64.wrap ((aheadn : Int) + (bn : Int))) w3))
        (J255 (IntKind.i64.wrap ((aheadn : Int) + (bn : Int))) w3))
    (fun s_ w4 => weirlaw7_Ip6Short_J255 R aheadn lA2 ln2 lc2 s_ w4)
def weirlaw7_Ip6Short_H : Hints := [(255, [(11, .int .i64)])]
set_option maxRecDepth 100000 in
theorem weirlaw7_Ip6Short_of (bA : Option Addr) (bn : Nat) (bc : Nat) (aheadA : Option Addr) (aheadn : Nat) (aheadc : Nat) (behindA : Option Addr) (behindn : Nat) (behindc : Nat) (n : Int) (w : World) (R : Ending → World → Prop) (hvc_ : weirlaw7_Ip6Short_VC bA bn bc aheadA aheadn aheadc behindA behindn behindc n w R) :
    Calls Tryd.prog 3 #[.slice bA bn bc, .slice aheadA aheadn aheadc, .slice behindA behindn behindc, .int .i64 n] w R :=
  calls_of_wpc callOk mixedOk (H := weirlaw7_Ip6Short_H) (args := [.slice bA bn bc, .slice aheadA aheadn aheadc, .slice behindA behindn behindc, .int .i64 n]) (fn := Tryd.f3) (c := bodyOf Tryd.f3) Tryd.func3 rfl (Nat.le_of_ble_eq_true rfl)
    (Eq.mp (by kernel_rfl : weirlaw7_Ip6Short_VC bA bn bc aheadA aheadn aheadc behindA behindn behindc n w R = wpc Tryd.prog callF Tryd.f3.ntmps weirlaw7_Ip6Short_H 1 (bodyOf Tryd.f3) (argEnv 0 [.slice bA bn bc, .slice aheadA aheadn aheadc, .slice behindA behindn behindc, .int .i64 n]) [] w (finish Tryd.prog callF Tryd.f3.results.toList R)) hvc_)

set_option maxRecDepth 100000 in
def weirlaw7_Ip6Unlike_VC (g : Ip6V) (h : Ip6V) (w : World) (R : Ending → World → Prop) : Prop :=
  NewVC w (.cells g.cells.toArray 30) fun g1 w1 =>
  NewVC w1 (.cells h.cells.toArray 30) fun g2 w2 =>
  Ip6V.ex fun h1 => CellsAt w2 ⟨g1, 0, none⟩ 0 h1.cells ∧
  Calls Tryd.prog 19 #[h1.val] w2 (onRet (fun r_ w3 => ∃ (x0A : Option Addr) (x0n x0c : Nat), ∃ x1 : Int, r_ = .tuple #[.slice x0A x0n x0c, .int .i64 x1] ∧
  Ip6V.ex fun h2 => CellsAt w3 ⟨g2, 0, none⟩ 0 h2.cells ∧
  Calls Tryd.prog 19 #[h2.val] w3 (onRet (fun r_1 w4 => ∃ (x0A1 : Option Addr) (x0n1 x0c1 : Nat), ∃ x11 : Int, r_1 = .tuple #[.slice x0A1 x0n1 x0c1, .int .i64 x11] ∧
  DrawVC w4 fun S1 w5 =>
  Calls Tryd.prog 16 #[] w5 (onRet (fun r_2 w6 => ∃ x : Bool, r_2 = .bool x ∧
  S1 w6 ∧
  Br x
    (Calls Tryd.prog 17 #[.int .i64 x1] w6 (onRet (fun r_3 w7 => ∃ x2 : Int, r_3 = .int .i64 x2 ∧
    S1 w7 ∧
    Br (decide (x2 ≠ 0))
      (R (.returned (.bool true)) w7)
      (Calls Tryd.prog 17 #[.int .i64 x11] w7 (onRet (fun r_4 w8 => ∃ x3 : Int, r_4 = .int .i64 x3 ∧
      S1 w8 ∧
      Br (decide (x3 ≠ 0))
        (R (.returned (.bool true)) w8)
        (Ip6V.ex fun h3 => (∀ w' : World, S1 w' → CellsAt w' ⟨g1, 0, none⟩ 0 h3.cells) ∧
        Ip6V.ex fun h4 => (∀ w' : World, S1 w' → CellsAt w' ⟨g2, 0, none⟩ 0 h4.cells) ∧
        Calls Tryd.prog 20 #[.slice x0A x0n x0c, .slice x0A1 x0n1 x0c1] w8 (onRet (fun r_5 w9 => ∃ x4 : Bool, r_5 = .bool x4 ∧
        S1 w9 ∧
        Calls Tryd.prog 18 #[h3.val, h4.val] w9 (onRet (fun r_6 w10 => ∃ x5 : Bool, r_6 = .bool x5 ∧
        S1 w10 ∧
        R (.returned (.bool (x4 == x5))) w10)
          (fun _ _ => False)))
          (fun _ _ => False))))
        (fun _ _ => False))))
      (fun _ _ => False)))
    (R (.returned (.bool false)) w6))
    (fun _ _ => False)))
    (fun ch1 w4 => R (.panicked ch1) w4)))
    (fun ch w3 => R (.panicked ch) w3))
def weirlaw7_Ip6Unlike_H : Hints := []
set_option maxRecDepth 100000 in
theorem weirlaw7_Ip6Unlike_of (g : Ip6V) (h : Ip6V) (w : World) (R : Ending → World → Prop) (hvc_ : weirlaw7_Ip6Unlike_VC g h w R) :
    Calls Tryd.prog 4 #[g.val, h.val] w R :=
  calls_of_wpc callOk mixedOk (H := weirlaw7_Ip6Unlike_H) (args := [g.val, h.val]) (fn := Tryd.f4) (c := bodyOf Tryd.f4) Tryd.func4 rfl (Nat.le_of_ble_eq_true rfl)
    (Eq.mp (by kernel_rfl : weirlaw7_Ip6Unlike_VC g h w R = wpc Tryd.prog callF Tryd.f4.ntmps weirlaw7_Ip6Unlike_H 1 (bodyOf Tryd.f4) (argEnv 0 [g.val, h.val]) [] w (finish Tryd.prog callF Tryd.f4.results.toList R)) hvc_)

set_option maxRecDepth 100000 in
def weirlaw7_Ip6Canon_VC (bA : Option Addr) (bn : Nat) (bc : Nat) (w : World) (R : Ending → World → Prop) : Prop :=
  Calls Tryd.prog 13 #[.slice bA bn bc] w (onRet (fun r_ w1 => Ip6V.ex fun h => ∃ x1 : Int, r_ = .tuple #[h.val, .int .i64 x1] ∧
  NewVC w1 (.cells (Ip6V.z : Ip6V).cells.toArray 30) fun g1 w2 =>
  Stores ⟨g1, 0, none⟩ 0 h.cells w2 fun w3 =>
  Calls Tryd.prog 17 #[.int .i64 x1] w3 (onRet (fun r_1 w4 => ∃ x : Int, r_1 = .int .i64 x ∧
  Br (decide (x ≠ 0))
    (Calls Tryd.prog 16 #[] w4 (onRet (fun r_2 w5 => ∃ x2 : Bool, r_2 = .bool x2 ∧
    Br x2
      (Ip6V.ex fun h1 => CellsAt w5 ⟨g1, 0, none⟩ 0 h1.cells ∧
      Calls Tryd.prog 18 #[h1.val, (Ip6V.z : Ip6V).val] w5 (onRet (fun r_3 w6 => ∃ x3 : Bool, r_3 = .bool x3 ∧
      Br x3
        (Calls Tryd.prog 37 #[.slice bA bn bc] w6 (onRet (fun r_4 w7 => ∃ x4 : Bool, r_4 = .bool x4 ∧
        R (.returned (.bool (!x4))) w7)
          (fun ch4 w7 => R (.panicked ch4) w7)))
        (R (.returned (.bool false)) w6))
        (fun ch3 w6 => R (.panicked ch3) w6)))
      (R (.returned (.bool false)) w5))
      (fun ch2 w5 => R (.panicked ch2) w5)))
    (Ip6V.ex fun h2 => CellsAt w4 ⟨g1, 0, none⟩ 0 h2.cells ∧
  Calls Tryd.prog 19 #[h2.val] w4 (onRet (fun r_5 w8 => ∃ (x0A : Option Addr) (x0n x0c : Nat), ∃ x11 : Int, r_5 = .tuple #[.slice x0A x0n x0c, .int .i64 x11] ∧
  DrawVC w8 fun S1 w9 =>
  Calls Tryd.prog 17 #[.int .i64 x11] w9 (onRet (fun r_6 w10 => ∃ x5 : Int, r_6 = .int .i64 x5 ∧
  S1 w10 ∧
  Br (decide (x5 ≠ 0))
    (R (.returned (.bool false)) w10)
    (Ip6V.ex fun h3 => (∀ w' : World, S1 w' → CellsAt w' ⟨g1, 0, none⟩ 0 h3.cells) ∧
    Calls Tryd.prog 38 #[h3.val] w10 (onRet (fun r_7 w11 => ∃ x6 : Int, r_7 = .int .i64 x6 ∧
    S1 w11 ∧
    Calls Tryd.prog 17 #[.int .i64 x6] w11 (onRet (fun r_8 w12 => ∃ x7 : Int, r_8 = .int .i64 x7 ∧
    S1 w12 ∧
    Br (decide (x7 ≠ 0))
      (R (.returned (.bool false)) w12)
      (Br (decide ((bn : Int) < 40))
        (R (.returned (.bool false)) w12)
        (IdxVC bA bn 1 4 fun a =>
        ∃ x8 : Int, (∀ w' : World, S1 w' → w'.cell? a = some (.int .u8 x8)) ∧
        IdxVC bA bn 1 5 fun a1 =>
        ∃ x9 : Int, (∀ w' : World, S1 w' → w'.cell? a1 = some (.int .u8 x9)) ∧
        Br (decide ((x0n : Int) ≠ IntKind.i64.wrap (IntKind.i64.wrap (40 + IntKind.i64.wrap (256 * IntKind.i64.wrap x8)) + IntKind.i64.wrap x9)))
          (R (.returned (.bool false)) w12)
          (Br (decide ((bn : Int) < (x0n : Int)))
    (R (.returned (.bool false)) w12)
    (Calls Tryd.prog 13 #[.slice x0A x0n x0c] w12 (onRet (fun r_9 w13 => Ip6V.ex fun h4 => ∃ x12 : Int, r_9 = .tuple #[h4.val, .int .i64 x12] ∧
  NewVC w13 (.cells (Ip6V.z : Ip6V).cells.toArray 30) fun g2 w14 =>
  Stores ⟨g2, 0, none⟩ 0 h4.cells w14 fun w15 =>
  Calls Tryd.prog 17 #[.int .i64 x12] w15 (onRet (fun r_10 w16 => ∃ x10 : Int, r_10 = .int .i64 x10 ∧
  Br (decide (x10 ≠ 0))
    (R (.returned (.bool false)) w16)
    (Ip6V.ex fun h5 => CellsAt w16 ⟨g2, 0, none⟩ 0 h5.cells ∧
    Ip6V.ex fun h6 => CellsAt w16 ⟨g1, 0, none⟩ 0 h6.cells ∧
    Calls Tryd.prog 18 #[h5.val, h6.val] w16 (onRet (fun r_11 w17 => ∃ x13 : Bool, r_11 = .bool x13 ∧
    Br (!x13)
      (R (.returned (.bool false)) w17)
      (Calls Tryd.prog 37 #[.slice x0A x0n x0c] w17 (onRet (fun r_12 w18 => ∃ x14 : Bool, r_12 = .bool x14 ∧
      Br (!x14)
    (R (.returned (.bool false)) w18)
    (Calls Tryd.prog 16 #[] w18 (onRet (fun r_13 w19 => ∃ x15 : Bool, r_13 = .bool x15 ∧
  Br x15
    (Calls Tryd.prog 37 #[.slice bA bn bc] w19 (onRet (fun r_14 w20 => ∃ x16 : Bool, r_14 = .bool x16 ∧
    Calls Tryd.prog 20 #[.slice bA bn bc, .slice x0A x0n x0c] w20 (onRet (fun r_15 w21 => ∃ x17 : Bool, r_15 = .bool x17 ∧
    R (.returned (.bool (x16 == x17))) w21)
      (fun ch15 w21 => R (.panicked ch15) w21)))
      (fun ch14 w20 => R (.panicked ch14) w20)))
    (R (.returned (.bool false)) w19))
    (fun ch13 w19 => R (.panicked ch13) w19))))
        (fun ch12 w18 => R (.panicked ch12) w18))))
      (fun ch11 w17 => R (.panicked ch11) w17))))
    (fun ch10 w16 => R (.panicked ch10) w16)))
    (fun ch9 w13 => R (.panicked ch9) w13)))))))
      (fun _ _ => False)))
      (fun _ _ => False))))
    (fun _ _ => False)))
    (fun ch5 w8 => R (.panicked ch5) w8))))
    (fun ch1 w4 => R (.panicked ch1) w4)))
    (fun ch w1 => R (.panicked ch) w1))
def weirlaw7_Ip6Canon_H : Hints := []
set_option maxRecDepth 100000 in
theorem weirlaw7_Ip6Canon_of (bA : Option Addr) (bn : Nat) (bc : Nat) (w : World) (R : Ending → World → Prop) (hvc_ : weirlaw7_Ip6Canon_VC bA bn bc w R) :
    Calls Tryd.prog 9 #[.slice bA bn bc] w R :=
  calls_of_wpc callOk mixedOk (H := weirlaw7_Ip6Canon_H) (args := [.slice bA bn bc]) (fn := Tryd.f9) (c := bodyOf Tryd.f9) Tryd.func9 rfl (Nat.le_of_ble_eq_true rfl)
    (Eq.mp (by kernel_rfl : weirlaw7_Ip6Canon_VC bA bn bc w R = wpc Tryd.prog callF Tryd.f9.ntmps weirlaw7_Ip6Canon_H 1 (bodyOf Tryd.f9) (argEnv 0 [.slice bA bn bc]) [] w (finish Tryd.prog callF Tryd.f9.results.toList R)) hvc_)

set_option maxRecDepth 100000 in
def weirlaw7_Ip6Back_VC (h : Ip6V) (w : World) (R : Ending → World → Prop) : Prop :=
  NewVC w (.cells h.cells.toArray 30) fun g1 w1 =>
  Ip6V.ex fun h1 => CellsAt w1 ⟨g1, 0, none⟩ 0 h1.cells ∧
  Calls Tryd.prog 38 #[h1.val] w1 (onRet (fun r_ w2 => ∃ x : Int, r_ = .int .i64 x ∧
  Ip6V.ex fun h2 => CellsAt w2 ⟨g1, 0, none⟩ 0 h2.cells ∧
  Calls Tryd.prog 19 #[h2.val] w2 (onRet (fun r_1 w3 => ∃ (x0A : Option Addr) (x0n x0c : Nat), ∃ x1 : Int, r_1 = .tuple #[.slice x0A x0n x0c, .int .i64 x1] ∧
  Ip6V.ex fun h3 => CellsAt w3 ⟨g1, 0, none⟩ 0 h3.cells ∧
  Calls Tryd.prog 39 #[h3.val] w3 (onRet (fun r_2 w4 => ∃ x2 : Int, r_2 = .int .i64 x2 ∧
  Calls Tryd.prog 17 #[.int .i64 x] w4 (onRet (fun r_3 w5 => ∃ x3 : Int, r_3 = .int .i64 x3 ∧
  Calls Tryd.prog 17 #[.int .i64 x1] w5 (onRet (fun r_4 w6 => ∃ x4 : Int, r_4 = .int .i64 x4 ∧
  Br (decide (x3 ≠ x4))
    (R (.returned (.bool false)) w6)
    (Br (decide (x2 ≠ (x0n : Int)))
    (R (.returned (.bool false)) w6)
    (Calls Tryd.prog 17 #[.int .i64 x] w6 (onRet (fun r_5 w7 => ∃ x5 : Int, r_5 = .int .i64 x5 ∧
  Br (decide (x5 ≠ 0))
    (Calls Tryd.prog 16 #[] w7 (onRet (fun r_6 w8 => ∃ x6 : Bool, r_6 = .bool x6 ∧
    Br x6
      (R (.returned (.bool (decide (x2 = 0)))) w8)
      (R (.returned (.bool false)) w8))
      (fun ch6 w8 => R (.panicked ch6) w8)))
    (Calls Tryd.prog 13 #[.slice x0A x0n x0c] w7 (onRet (fun r_7 w9 => Ip6V.ex fun h4 => ∃ x11 : Int, r_7 = .tuple #[h4.val, .int .i64 x11] ∧
  NewVC w9 (.cells (Ip6V.z : Ip6V).cells.toArray 30) fun g2 w10 =>
  Stores ⟨g2, 0, none⟩ 0 h4.cells w10 fun w11 =>
  Calls Tryd.prog 16 #[] w11 (onRet (fun r_8 w12 => ∃ x7 : Bool, r_8 = .bool x7 ∧
  Br x7
    (Calls Tryd.prog 17 #[.int .i64 x11] w12 (onRet (fun r_9 w13 => ∃ x8 : Int, r_9 = .int .i64 x8 ∧
    Br (decide (x8 = 0))
      (Ip6V.ex fun h5 => CellsAt w13 ⟨g2, 0, none⟩ 0 h5.cells ∧
      Ip6V.ex fun h6 => CellsAt w13 ⟨g1, 0, none⟩ 0 h6.cells ∧
      Calls Tryd.prog 18 #[h5.val, h6.val] w13 (onRet (fun r_10 w14 => ∃ x9 : Bool, r_10 = .bool x9 ∧
      Br x9
        (Calls Tryd.prog 37 #[.slice x0A x0n x0c] w14 (onRet (fun r_11 w15 => ∃ x10 : Bool, r_11 = .bool x10 ∧
        R (.returned (.bool x10)) w15)
          (fun ch11 w15 => R (.panicked ch11) w15)))
        (R (.returned (.bool false)) w14))
        (fun ch10 w14 => R (.panicked ch10) w14)))
      (R (.returned (.bool false)) w13))
      (fun ch9 w13 => R (.panicked ch9) w13)))
    (R (.returned (.bool false)) w12))
    (fun ch8 w12 => R (.panicked ch8) w12)))
    (fun ch7 w9 => R (.panicked ch7) w9))))
    (fun ch5 w7 => R (.panicked ch5) w7)))))
    (fun ch4 w6 => R (.panicked ch4) w6)))
    (fun ch3 w5 => R (.panicked ch3) w5)))
    (fun ch2 w4 => R (.panicked ch2) w4)))
    (fun ch1 w3 => R (.panicked ch1) w3)))
    (fun ch w2 => R (.panicked ch) w2))
def weirlaw7_Ip6Back_H : Hints := []
set_option maxRecDepth 100000 in
theorem weirlaw7_Ip6Back_of (h : Ip6V) (w : World) (R : Ending → World → Prop) (hvc_ : weirlaw7_Ip6Back_VC h w R) :
    Calls Tryd.prog 10 #[h.val] w R :=
  calls_of_wpc callOk mixedOk (H := weirlaw7_Ip6Back_H) (args := [h.val]) (fn := Tryd.f10) (c := bodyOf Tryd.f10) Tryd.func10 rfl (Nat.le_of_ble_eq_true rfl)
    (Eq.mp (by kernel_rfl : weirlaw7_Ip6Back_VC h w R = wpc Tryd.prog callF Tryd.f10.ntmps weirlaw7_Ip6Back_H 1 (bodyOf Tryd.f10) (argEnv 0 [h.val]) [] w (finish Tryd.prog callF Tryd.f10.results.toList R)) hvc_)

set_option maxRecDepth 100000 in
def weirlaw7_Ip6Hops_L508 (R : Ending → World → Prop) (x1 : Int) (g1 : Nat) (lA : Option Addr) (ln : Nat) (lc : Nat) (x : Bool) (J127 : (Int → World → Prop)) (n1 : Int) (w6 : World) (K508 : (Int → World → Prop)) : Prop :=
  Br (decide (n1 < 300))
    (Calls Tryd.prog 40 #[.slice lA ln lc] w6 (onRet (fun r_2 w7 => ∃ x2 : Int, r_2 = .int .i64 x2 ∧
    Calls Tryd.prog 17 #[.int .i64 x2] w7 (onRet (fun r_3 w8 => ∃ x3 : Int, r_3 = .int .i64 x3 ∧
    Br (decide (x3 = 0))
    (Calls Tryd.prog 17 #[.int .i64 x1] w8 (onRet (fun r_4 w9 => ∃ x4 : Int, r_4 = .int .i64 x4 ∧
  Br (decide (x4 = 0))
    (Calls Tryd.prog 13 #[.slice lA ln lc] w9 (onRet (fun r_5 w10 => Ip6V.ex fun h1 => ∃ x11 : Int, r_5 = .tuple #[h1.val, .int .i64 x11] ∧
    NewVC w10 (.cells (Ip6V.z : Ip6V).cells.toArray 30) fun g2 w11 =>
    Stores ⟨g2, 0, none⟩ 0 h1.cells w11 fun w12 =>
    ∃ x5 : Int, w12.cell? ⟨g1, 2, none⟩ = some (.int .i64 x5) ∧
    SetVC w12 ⟨g1, 2, none⟩ (.int .i64 (IntKind.i64.wrap (x5 - 1))) fun w13 =>
    Calls Tryd.prog 17 #[.int .i64 x11] w13 (onRet (fun r_6 w14 => ∃ x6 : Int, r_6 = .int .i64 x6 ∧
    Br (decide (x6 ≠ 0))
      (R (.returned (.bool false)) w14)
      (Ip6V.ex fun h2 => CellsAt w14 ⟨g2, 0, none⟩ 0 h2.cells ∧
      Ip6V.ex fun h3 => CellsAt w14 ⟨g1, 0, none⟩ 0 h3.cells ∧
      Calls Tryd.prog 18 #[h2.val, h3.val] w14 (onRet (fun r_7 w15 => ∃ x7 : Bool, r_7 = .bool x7 ∧
      Br (!x7)
        (R (.returned (.bool false)) w15)
        (Calls Tryd.prog 37 #[.slice lA ln lc] w15 (onRet (fun r_8 w16 => ∃ x8 : Bool, r_8 = .bool x8 ∧
        Br (!(x8 == x))
      (R (.returned (.bool false)) w16)
      (K508 (IntKind.i64.wrap (n1 + 1)) w16))
          (fun ch8 w16 => R (.panicked ch8) w16))))
        (fun ch7 w15 => R (.panicked ch7) w15))))
      (fun ch6 w14 => R (.panicked ch6) w14)))
      (fun ch5 w10 => R (.panicked ch5) w10)))
    (K508 (IntKind.i64.wrap (n1 + 1)) w9))
    (fun ch4 w9 => R (.panicked ch4) w9)))
    (J127 n1 w8))
      (fun ch3 w8 => R (.panicked ch3) w8)))
      (fun ch2 w7 => R (.panicked ch2) w7)))
    (J127 n1 w6)
set_option maxRecDepth 100000 in
def weirlaw7_Ip6Hops_J1023 (R : Ending → World → Prop) (bA : Option Addr) (bn : Nat) (bc : Nat) (lA : Option Addr) (ln : Nat) (lc : Nat) (n : Int) (want : Int) (w21 : World) : Prop :=
  DrawVC w21 fun S1 w22 =>
  Br (decide (n ≠ want))
    (R (.returned (.bool false)) w22)
    (IdxVC lA ln 1 7 fun a4 =>
    ∃ x16 : Int, (∀ w' : World, S1 w' → w'.cell? a4 = some (.int .u8 x16)) ∧
    IdxVC bA bn 1 7 fun a5 =>
    ∃ x17 : Int, (∀ w' : World, S1 w' → w'.cell? a5 = some (.int .u8 x17)) ∧
    Br (decide (IntKind.i64.wrap x16 ≠ IntKind.i64.wrap (IntKind.i64.wrap x17 - want)))
    (R (.returned (.bool false)) w22)
    (IdxVC bA bn 1 7 fun a6 =>
  ∃ x18 : Int, w22.cell? a6 = some (.int .u8 x18) ∧
  IdxVC lA ln 1 7 fun a7 =>
  SetVC w22 a7 (.int .u8 x18) fun w23 =>
  Calls Tryd.prog 16 #[] w23 (onRet (fun r_11 w24 => ∃ x19 : Bool, r_11 = .bool x19 ∧
  Br x19
    (Calls Tryd.prog 20 #[.slice lA ln lc, .slice bA bn bc] w24 (onRet (fun r_12 w25 => ∃ x20 : Bool, r_12 = .bool x20 ∧
    R (.returned (.bool x20)) w25)
      (fun ch12 w25 => R (.panicked ch12) w25)))
    (R (.returned (.bool false)) w24))
    (fun ch11 w24 => R (.panicked ch11) w24))))
set_option maxRecDepth 100000 in
def weirlaw7_Ip6Hops_J510 (R : Ending → World → Prop) (bA : Option Addr) (bn : Nat) (bc : Nat) (lA : Option Addr) (ln : Nat) (lc : Nat) (n : Int) (t72_ : Bool) (w18 : World) : Prop :=
  Br t72_
    (Calls Tryd.prog 16 #[] w18 (onRet (fun r_9 w19 => ∃ x12 : Bool, r_9 = .bool x12 ∧
    Br x12
      (Br (decide (n = 0))
        (Calls Tryd.prog 20 #[.slice lA ln lc, .slice bA bn bc] w19 (onRet (fun r_10 w20 => ∃ x13 : Bool, r_10 = .bool x13 ∧
        R (.returned (.bool x13)) w20)
          (fun ch10 w20 => R (.panicked ch10) w20)))
        (R (.returned (.bool false)) w19))
      (R (.returned (.bool false)) w19))
      (fun ch9 w19 => R (.panicked ch9) w19)))
    (JoinVC (S := Int) (fun J1023 =>
      IdxVC bA bn 1 7 fun a2 =>
      ∃ x14 : Int, w18.cell? a2 = some (.int .u8 x14) ∧
      Br (decide ((0 : Int) < x14))
        (IdxVC bA bn 1 7 fun a3 =>
        ∃ x15 : Int, w18.cell? a3 = some (.int .u8 x15) ∧
        J1023 (IntKind.i64.wrap (IntKind.i64.wrap x15 - 1)) w18)
        (J1023 0 w18))
    (fun s_ w21 => weirlaw7_Ip6Hops_J1023 R bA bn bc lA ln lc n s_ w21))
set_option maxRecDepth 100000 in
def weirlaw7_Ip6Hops_J127 (R : Ending → World → Prop) (bA : Option Addr) (bn : Nat) (bc : Nat) (lA : Option Addr) (ln : Nat) (lc : Nat) (n : Int) (w17 : World) : Prop :=
  JoinVC (S := Bool) (fun J510 =>
      Br (decide ((bn : Int) < 40))
        (J510 true w17)
        (IdxVC bA bn 1 0 fun a =>
        ∃ x9 : Int, w17.cell? a = some (.int .u8 x9) ∧
        Br (decide (x9 < 96))
          (J510 true w17)
          (IdxVC bA bn 1 0 fun a1 =>
          ∃ x10 : Int, w17.cell? a1 = some (.int .u8 x10) ∧
          J510 (decide ((111 : Int) < x10)) w17)))
    (fun s_ w18 => weirlaw7_Ip6Hops_J510 R bA bn bc lA ln lc n s_ w18)
set_option maxRecDepth 100000 in
def weirlaw7_Ip6Hops_VC (bA : Option Addr) (bn : Nat) (bc : Nat) (w : World) (R : Ending → World → Prop) : Prop :=
  Calls Tryd.prog 13 #[.slice bA bn bc] w (onRet (fun r_ w1 => Ip6V.ex fun h => ∃ x1 : Int, r_ = .tuple #[h.val, .int .i64 x1] ∧
  NewVC w1 (.cells (Ip6V.z : Ip6V).cells.toArray 30) fun g1 w2 =>
  Stores ⟨g1, 0, none⟩ 0 h.cells w2 fun w3 =>
  AppVC Tryd.prog #[22, 22] 22 (.slice none 0 0) (.slice bA bn bc) w3 fun lA ln lc w4 =>
  Calls Tryd.prog 37 #[.slice bA bn bc] w4 (onRet (fun r_1 w5 => ∃ x : Bool, r_1 = .bool x ∧
  JoinVC (S := Int) (fun J127 =>
      LoopVC (S := Int) (fun s_ w6 K508 => weirlaw7_Ip6Hops_L508 R x1 g1 lA ln lc x J127 s_ w6 K508) 0 w5)
    (fun s_ w17 => weirlaw7_Ip6Hops_J127 R bA bn bc lA ln lc s_ w17))
    (fun ch1 w5 => R (.panicked ch1) w5)))
    (fun ch w1 => R (.panicked ch) w1))
def weirlaw7_Ip6Hops_H : Hints := [(508, [(7, .int .i64)]), (127, [(7, .int .i64)]), (510, [(72, .bool)]), (1023, [(10, .int .i64)])]
set_option maxRecDepth 100000 in
theorem weirlaw7_Ip6Hops_of (bA : Option Addr) (bn : Nat) (bc : Nat) (w : World) (R : Ending → World → Prop) (hvc_ : weirlaw7_Ip6Hops_VC bA bn bc w R) :
    Calls Tryd.prog 11 #[.slice bA bn bc] w R :=
  calls_of_wpc callOk mixedOk (H := weirlaw7_Ip6Hops_H) (args := [.slice bA bn bc]) (fn := Tryd.f11) (c := bodyOf Tryd.f11) Tryd.func11 rfl (Nat.le_of_ble_eq_true rfl)
    (Eq.mp (by kernel_rfl : weirlaw7_Ip6Hops_VC bA bn bc w R = wpc Tryd.prog callF Tryd.f11.ntmps weirlaw7_Ip6Hops_H 1 (bodyOf Tryd.f11) (argEnv 0 [.slice bA bn bc]) [] w (finish Tryd.prog callF Tryd.f11.results.toList R)) hvc_)

set_option maxRecDepth 100000 in
def weirlaw7_Ip6Links_J31 (R : Ending → World → Prop) (lA : Option Addr) (ln : Nat) (lc : Nat) (next : Int) (dataA : Option Addr) (datan : Nat) (datac : Nat) (x0A : Option Addr) (x0n : Nat) (x0c : Nat) (kind : Int) (w4 : World) : Prop :=
  AppVC Tryd.prog #[22, 22] 22 (.slice none 0 0) (.slice x0A x0n x0c) w4 fun lA1 ln1 lc1 w5 =>
  AppVC Tryd.prog #[22, 22] 22 (.slice lA1 ln1 lc1) (.slice dataA datan datac) w5 fun lA2 ln2 lc2 w6 =>
  Br (decide ((65495 : Int) < (ln2 : Int)))
    (Calls Tryd.prog 16 #[] w6 (onRet (fun r_3 w7 => ∃ x4 : Bool, r_3 = .bool x4 ∧
    R (.returned (.bool x4)) w7)
      (fun ch3 w7 => R (.panicked ch3) w7)))
    (Calls Tryd.prog 24 #[.int .i64 kind, .slice lA2 ln2 lc2] w6 (onRet (fun r_4 w8 => ∃ (x0A1 : Option Addr) (x0n1 x0c1 : Nat), ∃ x11 : Int, ∃ (x2A : Option Addr) (x2n x2c : Nat), ∃ x31 : Int, r_4 = .tuple #[.slice x0A1 x0n1 x0c1, .int .i64 x11, .slice x2A x2n x2c, .int .i64 x31] ∧
  Calls Tryd.prog 17 #[.int .i64 x31] w8 (onRet (fun r_5 w9 => ∃ x5 : Int, r_5 = .int .i64 x5 ∧
  Br (decide (x5 ≠ 0))
    (R (.returned (.bool false)) w9)
    (Calls Tryd.prog 26 #[.slice x0A1 x0n1 x0c1, .slice lA ln lc] w9 (onRet (fun r_6 w10 => ∃ x6 : Bool, r_6 = .bool x6 ∧
    Br (!x6)
      (R (.returned (.bool false)) w10)
      (Br (decide (x11 ≠ next))
        (R (.returned (.bool false)) w10)
        (Calls Tryd.prog 20 #[.slice x2A x2n x2c, .slice dataA datan datac] w10 (onRet (fun r_7 w11 => ∃ x7 : Bool, r_7 = .bool x7 ∧
        Br (!x7)
    (R (.returned (.bool false)) w11)
    (Calls Tryd.prog 27 #[] w11 (onRet (fun r_8 w12 => Ip6V.ex fun h => ∃ (x1A : Option Addr) (x1n x1c : Nat), r_8 = .tuple #[h.val, .slice x1A x1n x1c] ∧
  NewVC w12 (.cells (Ip6V.z : Ip6V).cells.toArray 30) fun g1 w13 =>
  Stores ⟨g1, 0, none⟩ 0 h.cells w13 fun w14 =>
  SetVC w14 ⟨g1, 37, none⟩ (.slice lA ln lc) fun w15 =>
  SetVC w15 ⟨g1, 42, none⟩ (.int .i64 next) fun w16 =>
  SetVC w16 ⟨g1, 43, none⟩ (.slice dataA datan datac) fun w17 =>
  Ip6V.ex fun h1 => CellsAt w17 ⟨g1, 0, none⟩ 0 h1.cells ∧
  Calls Tryd.prog 19 #[h1.val] w17 (onRet (fun r_9 w18 => ∃ (x0A2 : Option Addr) (x0n2 x0c2 : Nat), ∃ x12 : Int, r_9 = .tuple #[.slice x0A2 x0n2 x0c2, .int .i64 x12] ∧
  Calls Tryd.prog 16 #[] w18 (onRet (fun r_10 w19 => ∃ x8 : Bool, r_10 = .bool x8 ∧
  Br x8
    (Calls Tryd.prog 17 #[.int .i64 x12] w19 (onRet (fun r_11 w20 => ∃ x9 : Int, r_11 = .int .i64 x9 ∧
    Br (decide (x9 = 0))
      (Br (decide ((x0n2 : Int) = IntKind.i64.wrap (40 + (ln2 : Int))))
        (SliceVC x0A2 x0n2 x0c2 1 (some 40) none none fun sA sn sc =>
        Calls Tryd.prog 20 #[.slice sA sn sc, .slice lA2 ln2 lc2] w20 (onRet (fun r_12 w21 => ∃ x10 : Bool, r_12 = .bool x10 ∧
        Br x10
          (IdxVC x0A2 x0n2 1 6 fun a1 =>
          ∃ x13 : Int, w21.cell? a1 = some (.int .u8 x13) ∧
          R (.returned (.bool (decide (IntKind.i64.wrap x13 = kind)))) w21)
          (R (.returned (.bool false)) w21))
          (fun ch12 w21 => R (.panicked ch12) w21)))
        (R (.returned (.bool false)) w20))
      (R (.returned (.bool false)) w20))
      (fun ch11 w20 => R (.panicked ch11) w20)))
    (R (.returned (.bool false)) w19))
    (fun ch10 w19 => R (.panicked ch10) w19)))
    (fun ch9 w18 => R (.panicked ch9) w18)))
    (fun ch8 w12 => R (.panicked ch8) w12))))
          (fun ch7 w11 => R (.panicked ch7) w11)))))
      (fun ch6 w10 => R (.panicked ch6) w10))))
    (fun ch5 w9 => R (.panicked ch5) w9)))
    (fun ch4 w8 => R (.panicked ch4) w8)))
set_option maxRecDepth 100000 in
def weirlaw7_Ip6Links_VC (lA : Option Addr) (ln : Nat) (lc : Nat) (next : Int) (dataA : Option Addr) (datan : Nat) (datac : Nat) (w : World) (R : Ending → World → Prop) : Prop :=
  Calls Tryd.prog 25 #[.slice lA ln lc, .int .i64 next] w (onRet (fun r_ w1 => ∃ (x0A : Option Addr) (x0n x0c : Nat), ∃ x1 : Int, r_ = .tuple #[.slice x0A x0n x0c, .int .i64 x1] ∧
  Calls Tryd.prog 17 #[.int .i64 x1] w1 (onRet (fun r_1 w2 => ∃ x : Int, r_1 = .int .i64 x ∧
  Br (decide (x ≠ 0))
    (Calls Tryd.prog 16 #[] w2 (onRet (fun r_2 w3 => ∃ x2 : Bool, r_2 = .bool x2 ∧
    Br x2
      (R (.returned (.bool (decide ((x0n : Int) = 0)))) w3)
      (R (.returned (.bool false)) w3))
      (fun ch2 w3 => R (.panicked ch2) w3)))
    (JoinVC (S := Int) (fun J31 =>
      Br (decide ((0 : Int) < (ln : Int)))
        (IdxVC lA ln 3 0 fun a =>
        ∃ x3 : Int, w2.cell? a = some (.int .i64 x3) ∧
        J31 x3 w2)
        (J31 next w2))
    (fun s_ w4 => weirlaw7_Ip6Links_J31 R lA ln lc next dataA datan datac x0A x0n x0c s_ w4)))
    (fun ch1 w2 => R (.panicked ch1) w2)))
    (fun ch w1 => R (.panicked ch) w1))
def weirlaw7_Ip6Links_H : Hints := [(31, [(9, .int .i64)])]
set_option maxRecDepth 100000 in
theorem weirlaw7_Ip6Links_of (lA : Option Addr) (ln : Nat) (lc : Nat) (next : Int) (dataA : Option Addr) (datan : Nat) (datac : Nat) (w : World) (R : Ending → World → Prop) (hvc_ : weirlaw7_Ip6Links_VC lA ln lc next dataA datan datac w R) :
    Calls Tryd.prog 6 #[.slice lA ln lc, .int .i64 next, .slice dataA datan datac] w R :=
  calls_of_wpc callOk mixedOk (H := weirlaw7_Ip6Links_H) (args := [.slice lA ln lc, .int .i64 next, .slice dataA datan datac]) (fn := Tryd.f6) (c := bodyOf Tryd.f6) Tryd.func6 rfl (Nat.le_of_ble_eq_true rfl)
    (Eq.mp (by kernel_rfl : weirlaw7_Ip6Links_VC lA ln lc next dataA datan datac w R = wpc Tryd.prog callF Tryd.f6.ntmps weirlaw7_Ip6Links_H 1 (bodyOf Tryd.f6) (argEnv 0 [.slice lA ln lc, .int .i64 next, .slice dataA datan datac]) [] w (finish Tryd.prog callF Tryd.f6.results.toList R)) hvc_)

set_option maxRecDepth 100000 in
def weirlaw7_ofBytes_VC (o : Op7V) (w : World) (R : Ending → World → Prop) : Prop :=
  NewVC w (.cells o.cells.toArray 90) fun g1 w1 =>
  ∃ x : Int, w1.cell? ⟨g1, 0, none⟩ = some (.int .i64 x) ∧
  Br (decide (x = 1))
    (∃ (xA : Option Addr) (xn xc : Nat), w1.cell? ⟨g1, 1, none⟩ = some (.slice xA xn xc) ∧
    Calls Tryd.prog 13 #[.slice xA xn xc] w1 (onRet (fun r_ w2 => Ip6V.ex fun h => ∃ x1 : Int, r_ = .tuple #[h.val, .int .i64 x1] ∧
    NewVC w2 (.cells (Ip6V.z : Ip6V).cells.toArray 30) fun g2 w3 =>
    Stores ⟨g2, 0, none⟩ 0 h.cells w3 fun w4 =>
    ∃ (xA1 : Option Addr) (xn1 xc1 : Nat), w4.cell? ⟨g1, 1, none⟩ = some (.slice xA1 xn1 xc1) ∧
    Calls Tryd.prog 14 #[.slice xA1 xn1 xc1] w4 (onRet (fun r_1 w5 => Ip6V.ex fun h1 => ∃ x11 : Int, r_1 = .tuple #[h1.val, .int .i64 x11] ∧
    NewVC w5 (.cells (Ip6V.z : Ip6V).cells.toArray 30) fun g3 w6 =>
    Stores ⟨g3, 0, none⟩ 0 h1.cells w6 fun w7 =>
    Ip6V.ex fun h2 => CellsAt w7 ⟨g2, 0, none⟩ 0 h2.cells ∧
    Ip6V.ex fun h3 => CellsAt w7 ⟨g3, 0, none⟩ 0 h3.cells ∧
    Calls Tryd.prog 18 #[h2.val, h3.val] w7 (onRet (fun r_2 w8 => ∃ x2 : Bool, r_2 = .bool x2 ∧
    Br x2
      (Calls Tryd.prog 17 #[.int .i64 x1] w8 (onRet (fun r_3 w9 => ∃ x3 : Int, r_3 = .int .i64 x3 ∧
      R (.returned (.bool (decide (x3 = x11)))) w9)
        (fun ch3 w9 => R (.panicked ch3) w9)))
      (R (.returned (.bool false)) w8))
      (fun ch2 w8 => R (.panicked ch2) w8)))
      (fun ch1 w5 => R (.panicked ch1) w5)))
      (fun ch w2 => R (.panicked ch) w2)))
    (Br (decide (x = 2))
      (∃ (xA2 : Option Addr) (xn2 xc2 : Nat), w1.cell? ⟨g1, 1, none⟩ = some (.slice xA2 xn2 xc2) ∧
      Calls Tryd.prog 37 #[.slice xA2 xn2 xc2] w1 (onRet (fun r_4 w10 => ∃ x4 : Bool, r_4 = .bool x4 ∧
      ∃ (xA3 : Option Addr) (xn3 xc3 : Nat), w10.cell? ⟨g1, 1, none⟩ = some (.slice xA3 xn3 xc3) ∧
      Calls Tryd.prog 66 #[.slice xA3 xn3 xc3] w10 (onRet (fun r_5 w11 => ∃ x5 : Bool, r_5 = .bool x5 ∧
      R (.returned (.bool (x4 == x5))) w11)
        (fun ch5 w11 => R (.panicked ch5) w11)))
        (fun ch4 w10 => R (.panicked ch4) w10)))
      (∃ x6 : Int, w1.cell? ⟨g1, 46, none⟩ = some (.int .i64 x6) ∧
  ∃ (xA4 : Option Addr) (xn4 xc4 : Nat), w1.cell? ⟨g1, 1, none⟩ = some (.slice xA4 xn4 xc4) ∧
  Calls Tryd.prog 24 #[.int .i64 x6, .slice xA4 xn4 xc4] w1 (onRet (fun r_6 w12 => ∃ (x0A : Option Addr) (x0n x0c : Nat), ∃ x12 : Int, ∃ (x2A : Option Addr) (x2n x2c : Nat), ∃ x31 : Int, r_6 = .tuple #[.slice x0A x0n x0c, .int .i64 x12, .slice x2A x2n x2c, .int .i64 x31] ∧
  ∃ x7 : Int, w12.cell? ⟨g1, 46, none⟩ = some (.int .i64 x7) ∧
  ∃ (xA5 : Option Addr) (xn5 xc5 : Nat), w12.cell? ⟨g1, 1, none⟩ = some (.slice xA5 xn5 xc5) ∧
  Calls Tryd.prog 67 #[.int .i64 x7, .slice xA5 xn5 xc5] w12 (onRet (fun r_7 w13 => ∃ (x0A1 : Option Addr) (x0n1 x0c1 : Nat), ∃ x13 : Int, ∃ (x2A1 : Option Addr) (x2n1 x2c1 : Nat), ∃ x32 : Int, r_7 = .tuple #[.slice x0A1 x0n1 x0c1, .int .i64 x13, .slice x2A1 x2n1 x2c1, .int .i64 x32] ∧
  Calls Tryd.prog 26 #[.slice x0A x0n x0c, .slice x0A1 x0n1 x0c1] w13 (onRet (fun r_8 w14 => ∃ x8 : Bool, r_8 = .bool x8 ∧
  Br x8
    (Br (decide (x12 = x13))
      (Calls Tryd.prog 20 #[.slice x2A x2n x2c, .slice x2A1 x2n1 x2c1] w14 (onRet (fun r_9 w15 => ∃ x9 : Bool, r_9 = .bool x9 ∧
      Br x9
        (Calls Tryd.prog 17 #[.int .i64 x31] w15 (onRet (fun r_10 w16 => ∃ x10 : Int, r_10 = .int .i64 x10 ∧
        R (.returned (.bool (decide (x10 = x32)))) w16)
          (fun ch10 w16 => R (.panicked ch10) w16)))
        (R (.returned (.bool false)) w15))
        (fun ch9 w15 => R (.panicked ch9) w15)))
      (R (.returned (.bool false)) w14))
    (R (.returned (.bool false)) w14))
    (fun ch8 w14 => R (.panicked ch8) w14)))
    (fun ch7 w13 => R (.panicked ch7) w13)))
    (fun ch6 w12 => R (.panicked ch6) w12))))
def weirlaw7_ofBytes_H : Hints := []
set_option maxRecDepth 100000 in
theorem weirlaw7_ofBytes_of (o : Op7V) (w : World) (R : Ending → World → Prop) (hvc_ : weirlaw7_ofBytes_VC o w R) :
    Calls Tryd.prog 41 #[o.val] w R :=
  calls_of_wpc callOk mixedOk (H := weirlaw7_ofBytes_H) (args := [o.val]) (fn := Tryd.f41) (c := bodyOf Tryd.f41) Tryd.func41 rfl (Nat.le_of_ble_eq_true rfl)
    (Eq.mp (by kernel_rfl : weirlaw7_ofBytes_VC o w R = wpc Tryd.prog callF Tryd.f41.ntmps weirlaw7_ofBytes_H 1 (bodyOf Tryd.f41) (argEnv 0 [o.val]) [] w (finish Tryd.prog callF Tryd.f41.results.toList R)) hvc_)

set_option maxRecDepth 100000 in
def weirlaw7_ofValues_VC (o : Op7V) (w : World) (R : Ending → World → Prop) : Prop :=
  NewVC w (.cells o.cells.toArray 90) fun g1 w1 =>
  ∃ x : Int, w1.cell? ⟨g1, 0, none⟩ = some (.int .i64 x) ∧
  Br (decide (x = 4))
    (Ip6V.ex fun h => CellsAt w1 ⟨g1, 2, none⟩ 0 h.cells ∧
    Calls Tryd.prog 19 #[h.val] w1 (onRet (fun r_ w2 => ∃ (x0A : Option Addr) (x0n x0c : Nat), ∃ x1 : Int, r_ = .tuple #[.slice x0A x0n x0c, .int .i64 x1] ∧
    Ip6V.ex fun h1 => CellsAt w2 ⟨g1, 2, none⟩ 0 h1.cells ∧
    Calls Tryd.prog 33 #[h1.val] w2 (onRet (fun r_1 w3 => ∃ (x0A1 : Option Addr) (x0n1 x0c1 : Nat), ∃ x11 : Int, r_1 = .tuple #[.slice x0A1 x0n1 x0c1, .int .i64 x11] ∧
    Calls Tryd.prog 20 #[.slice x0A x0n x0c, .slice x0A1 x0n1 x0c1] w3 (onRet (fun r_2 w4 => ∃ x2 : Bool, r_2 = .bool x2 ∧
    Br x2
      (Calls Tryd.prog 17 #[.int .i64 x1] w4 (onRet (fun r_3 w5 => ∃ x3 : Int, r_3 = .int .i64 x3 ∧
      R (.returned (.bool (decide (x3 = x11)))) w5)
        (fun ch3 w5 => R (.panicked ch3) w5)))
      (R (.returned (.bool false)) w4))
      (fun ch2 w4 => R (.panicked ch2) w4)))
      (fun ch1 w3 => R (.panicked ch1) w3)))
      (fun ch w2 => R (.panicked ch) w2)))
    (Br (decide (x = 5))
      (Ip6V.ex fun h2 => CellsAt w1 ⟨g1, 2, none⟩ 0 h2.cells ∧
      Calls Tryd.prog 38 #[h2.val] w1 (onRet (fun r_4 w6 => ∃ x4 : Int, r_4 = .int .i64 x4 ∧
      Ip6V.ex fun h3 => CellsAt w6 ⟨g1, 2, none⟩ 0 h3.cells ∧
      Calls Tryd.prog 68 #[h3.val] w6 (onRet (fun r_5 w7 => ∃ x5 : Int, r_5 = .int .i64 x5 ∧
      Calls Tryd.prog 17 #[.int .i64 x4] w7 (onRet (fun r_6 w8 => ∃ x6 : Int, r_6 = .int .i64 x6 ∧
      R (.returned (.bool (decide (x6 = x5)))) w8)
        (fun ch6 w8 => R (.panicked ch6) w8)))
        (fun ch5 w7 => R (.panicked ch5) w7)))
        (fun ch4 w6 => R (.panicked ch4) w6)))
      (Br (decide (x = 6))
        (Ip6V.ex fun h4 => CellsAt w1 ⟨g1, 2, none⟩ 0 h4.cells ∧
        Calls Tryd.prog 39 #[h4.val] w1 (onRet (fun r_7 w9 => ∃ x7 : Int, r_7 = .int .i64 x7 ∧
        Ip6V.ex fun h5 => CellsAt w9 ⟨g1, 2, none⟩ 0 h5.cells ∧
        Calls Tryd.prog 69 #[h5.val] w9 (onRet (fun r_8 w10 => ∃ x8 : Int, r_8 = .int .i64 x8 ∧
        R (.returned (.bool (decide (x7 = x8)))) w10)
          (fun ch8 w10 => R (.panicked ch8) w10)))
          (fun ch7 w9 => R (.panicked ch7) w9)))
        (∃ (xA : Option Addr) (xn xc : Nat), w1.cell? ⟨g1, 39, none⟩ = some (.slice xA xn xc) ∧
  ∃ x9 : Int, w1.cell? ⟨g1, 46, none⟩ = some (.int .i64 x9) ∧
  Calls Tryd.prog 25 #[.slice xA xn xc, .int .i64 x9] w1 (onRet (fun r_9 w11 => ∃ (x0A2 : Option Addr) (x0n2 x0c2 : Nat), ∃ x12 : Int, r_9 = .tuple #[.slice x0A2 x0n2 x0c2, .int .i64 x12] ∧
  ∃ (xA1 : Option Addr) (xn1 xc1 : Nat), w11.cell? ⟨g1, 39, none⟩ = some (.slice xA1 xn1 xc1) ∧
  ∃ x10 : Int, w11.cell? ⟨g1, 46, none⟩ = some (.int .i64 x10) ∧
  Calls Tryd.prog 59 #[.slice xA1 xn1 xc1, .int .i64 x10] w11 (onRet (fun r_10 w12 => ∃ (x0A3 : Option Addr) (x0n3 x0c3 : Nat), ∃ x13 : Int, r_10 = .tuple #[.slice x0A3 x0n3 x0c3, .int .i64 x13] ∧
  Calls Tryd.prog 20 #[.slice x0A2 x0n2 x0c2, .slice x0A3 x0n3 x0c3] w12 (onRet (fun r_11 w13 => ∃ x14 : Bool, r_11 = .bool x14 ∧
  Br x14
    (Calls Tryd.prog 17 #[.int .i64 x12] w13 (onRet (fun r_12 w14 => ∃ x15 : Int, r_12 = .int .i64 x15 ∧
    R (.returned (.bool (decide (x15 = x13)))) w14)
      (fun ch12 w14 => R (.panicked ch12) w14)))
    (R (.returned (.bool false)) w13))
    (fun ch11 w13 => R (.panicked ch11) w13)))
    (fun ch10 w12 => R (.panicked ch10) w12)))
    (fun ch9 w11 => R (.panicked ch9) w11)))))
def weirlaw7_ofValues_H : Hints := []
set_option maxRecDepth 100000 in
theorem weirlaw7_ofValues_of (o : Op7V) (w : World) (R : Ending → World → Prop) (hvc_ : weirlaw7_ofValues_VC o w R) :
    Calls Tryd.prog 42 #[o.val] w R :=
  calls_of_wpc callOk mixedOk (H := weirlaw7_ofValues_H) (args := [o.val]) (fn := Tryd.f42) (c := bodyOf Tryd.f42) Tryd.func42 rfl (Nat.le_of_ble_eq_true rfl)
    (Eq.mp (by kernel_rfl : weirlaw7_ofValues_VC o w R = wpc Tryd.prog callF Tryd.f42.ntmps weirlaw7_ofValues_H 1 (bodyOf Tryd.f42) (argEnv 0 [o.val]) [] w (finish Tryd.prog callF Tryd.f42.results.toList R)) hvc_)

set_option maxRecDepth 100000 in
def weirlaw7_placed_VC (at_ : Int) (n : Int) (w : World) (R : Ending → World → Prop) : Prop :=
  DivVC n (
  Br (decide (Int.tmod at_ n < 0))
    (R (.returned (.int .i64 (IntKind.i64.wrap (Int.tmod at_ n + n)))) w)
    (R (.returned (.int .i64 (Int.tmod at_ n))) w))
def weirlaw7_placed_H : Hints := []
set_option maxRecDepth 100000 in
theorem weirlaw7_placed_of (at_ : Int) (n : Int) (w : World) (R : Ending → World → Prop) (hvc_ : weirlaw7_placed_VC at_ n w R) :
    Calls Tryd.prog 71 #[.int .i64 at_, .int .i64 n] w R :=
  calls_of_wpc callOk mixedOk (H := weirlaw7_placed_H) (args := [.int .i64 at_, .int .i64 n]) (fn := Tryd.f71) (c := bodyOf Tryd.f71) Tryd.func71 rfl (Nat.le_of_ble_eq_true rfl)
    (Eq.mp (by kernel_rfl : weirlaw7_placed_VC at_ n w R = wpc Tryd.prog callF Tryd.f71.ntmps weirlaw7_placed_H 1 (bodyOf Tryd.f71) (argEnv 0 [.int .i64 at_, .int .i64 n]) [] w (finish Tryd.prog callF Tryd.f71.results.toList R)) hvc_)

set_option maxRecDepth 100000 in
def weirlaw7_put_VC (lA : Option Addr) (ln : Nat) (_lc : Nat) (at_ : Int) (by_ : Int) (w : World) (R : Ending → World → Prop) : Prop :=
  Br (decide ((0 : Int) < (ln : Int)))
    (Calls Tryd.prog 71 #[.int .i64 at_, .int .i64 (ln : Int)] w (onRet (fun r_ w1 => ∃ x : Int, r_ = .int .i64 x ∧
    IdxVC lA ln 1 x fun a =>
    SetVC w1 a (.int .u8 (IntKind.u8.wrap by_)) fun w2 =>
    R (.returned (.tuple #[])) w2)
      (fun ch w1 => R (.panicked ch) w1)))
    (R (.returned (.tuple #[])) w)
def weirlaw7_put_H : Hints := []
set_option maxRecDepth 100000 in
theorem weirlaw7_put_of (lA : Option Addr) (ln : Nat) (lc : Nat) (at_ : Int) (by_ : Int) (w : World) (R : Ending → World → Prop) (hvc_ : weirlaw7_put_VC lA ln lc at_ by_ w R) :
    Calls Tryd.prog 70 #[.slice lA ln lc, .int .i64 at_, .int .i64 by_] w R :=
  calls_of_wpc callOk mixedOk (H := weirlaw7_put_H) (args := [.slice lA ln lc, .int .i64 at_, .int .i64 by_]) (fn := Tryd.f70) (c := bodyOf Tryd.f70) Tryd.func70 rfl (Nat.le_of_ble_eq_true rfl)
    (Eq.mp (by kernel_rfl : weirlaw7_put_VC lA ln lc at_ by_ w R = wpc Tryd.prog callF Tryd.f70.ntmps weirlaw7_put_H 1 (bodyOf Tryd.f70) (argEnv 0 [.slice lA ln lc, .int .i64 at_, .int .i64 by_]) [] w (finish Tryd.prog callF Tryd.f70.results.toList R)) hvc_)

set_option maxRecDepth 100000 in
def weirlaw7_turned_J511 (R : Ending → World → Prop) (h : Option Addr) (g1 : Nat) (x7 : Int) (x14 : Int)  (w19 : World) : Prop :=
  ∃ x18 : Int, w19.cell? ⟨g1, 0, none⟩ = some (.int .i64 x18) ∧
  Br (decide (x18 = 5))
    (DrawVC w19 fun S7 w20 =>
    NilVC h fun p9 =>
    ∃ (xA13 : Option Addr) (xn13 xc13 : Nat), (∀ w' : World, S7 w' → w'.cell? (p9.add 37) = some (.slice xA13 xn13 xc13)) ∧
    IdxVC xA13 xn13 3 x7 fun a6 =>
    ∃ (xA14 : Option Addr) (xn14 xc14 : Nat), (∀ w' : World, S7 w' → w'.cell? (a6.add 1) = some (.slice xA14 xn14 xc14)) ∧
    ∃ x19 : Int, (∀ w' : World, S7 w' → w'.cell? ⟨g1, 2, none⟩ = some (.int .i64 x19)) ∧
    IdxVC xA14 xn14 2 x14 fun a7 =>
    SetVC w20 a7 (.int .i64 x19) fun w21 =>
    R (.returned (.tuple #[])) w21)
    (R (.returned (.tuple #[])) w19)
set_option maxRecDepth 100000 in
def weirlaw7_turned_J63 (R : Ending → World → Prop) (h : Option Addr) (g1 : Nat) (x7 : Int)  (w14 : World) : Prop :=
  NilVC h fun p6 =>
  ∃ (xA6 : Option Addr) (xn6 xc6 : Nat), w14.cell? (p6.add 37) = some (.slice xA6 xn6 xc6) ∧
  IdxVC xA6 xn6 3 x7 fun a2 =>
  ∃ (xA7 : Option Addr) (xn7 xc7 : Nat), w14.cell? (a2.add 1) = some (.slice xA7 xn7 xc7) ∧
  Br (decide ((xn7 : Int) = 0))
    (R (.returned (.tuple #[])) w14)
    (DrawVC w14 fun S5 w15 =>
  ∃ x13 : Int, (∀ w' : World, S5 w' → w'.cell? ⟨g1, 2, none⟩ = some (.int .i64 x13)) ∧
  NilVC h fun p7 =>
  ∃ (xA8 : Option Addr) (xn8 xc8 : Nat), (∀ w' : World, S5 w' → w'.cell? (p7.add 37) = some (.slice xA8 xn8 xc8)) ∧
  IdxVC xA8 xn8 3 x7 fun a3 =>
  ∃ (xA9 : Option Addr) (xn9 xc9 : Nat), (∀ w' : World, S5 w' → w'.cell? (a3.add 1) = some (.slice xA9 xn9 xc9)) ∧
  Calls Tryd.prog 71 #[.int .i64 x13, .int .i64 (xn9 : Int)] w15 (onRet (fun r_4 w16 => ∃ x14 : Int, r_4 = .int .i64 x14 ∧
  S5 w16 ∧
  JoinVC (S := Unit) (fun J511 =>
      ∃ x15 : Int, w16.cell? ⟨g1, 0, none⟩ = some (.int .i64 x15) ∧
      Br (decide (x15 = 3))
        (DrawVC w16 fun S6 w17 =>
        NilVC h fun p8 =>
        ∃ (xA10 : Option Addr) (xn10 xc10 : Nat), (∀ w' : World, S6 w' → w'.cell? (p8.add 37) = some (.slice xA10 xn10 xc10)) ∧
        IdxVC xA10 xn10 3 x7 fun a4 =>
        ∃ (xA11 : Option Addr) (xn11 xc11 : Nat), (∀ w' : World, S6 w' → w'.cell? (a4.add 1) = some (.slice xA11 xn11 xc11)) ∧
        IdxVC xA11 xn11 2 x14 fun a5 =>
        ∃ (xA12 : Option Addr) (xn12 xc12 : Nat), (∀ w' : World, S6 w' → w'.cell? (a5.add 1) = some (.slice xA12 xn12 xc12)) ∧
        ∃ x16 : Int, (∀ w' : World, S6 w' → w'.cell? ⟨g1, 1, none⟩ = some (.int .i64 x16)) ∧
        ∃ x17 : Int, (∀ w' : World, S6 w' → w'.cell? ⟨g1, 2, none⟩ = some (.int .i64 x17)) ∧
        Calls Tryd.prog 70 #[.slice xA12 xn12 xc12, .int .i64 x16, .int .i64 x17] w17 (onRet (fun r_5 w18 => r_5 = .tuple #[] ∧
        J511 () w18)
          (fun _ _ => False)))
        (J511 () w16))
    (fun _ w19 => weirlaw7_turned_J511 R h g1 x7 x14 w19))
    (fun _ _ => False)))
set_option maxRecDepth 100000 in
def weirlaw7_turned_J31 (R : Ending → World → Prop) (h : Option Addr) (g1 : Nat) (x7 : Int)  (w11 : World) : Prop :=
  JoinVC (S := Unit) (fun J63 =>
      ∃ x11 : Int, w11.cell? ⟨g1, 0, none⟩ = some (.int .i64 x11) ∧
      Br (decide (x11 = 4))
        (DrawVC w11 fun S4 w12 =>
        NilVC h fun p5 =>
        ∃ (xA5 : Option Addr) (xn5 xc5 : Nat), (∀ w' : World, S4 w' → w'.cell? (p5.add 37) = some (.slice xA5 xn5 xc5)) ∧
        ∃ x12 : Int, (∀ w' : World, S4 w' → w'.cell? ⟨g1, 2, none⟩ = some (.int .i64 x12)) ∧
        IdxVC xA5 xn5 3 x7 fun a1 =>
        SetVC w12 a1 (.int .i64 x12) fun w13 =>
        J63 () w13)
        (J63 () w11))
    (fun _ w14 => weirlaw7_turned_J63 R h g1 x7 w14)
set_option maxRecDepth 100000 in
def weirlaw7_turned_J3 (R : Ending → World → Prop) (h : Option Addr) (g1 : Nat)  (w6 : World) : Prop :=
  NilVC h fun p2 =>
  ∃ (xA1 : Option Addr) (xn1 xc1 : Nat), w6.cell? (p2.add 37) = some (.slice xA1 xn1 xc1) ∧
  Br (decide ((xn1 : Int) = 0))
    (R (.returned (.tuple #[])) w6)
    (DrawVC w6 fun S2 w7 =>
  ∃ x6 : Int, (∀ w' : World, S2 w' → w'.cell? ⟨g1, 1, none⟩ = some (.int .i64 x6)) ∧
  NilVC h fun p3 =>
  ∃ (xA2 : Option Addr) (xn2 xc2 : Nat), (∀ w' : World, S2 w' → w'.cell? (p3.add 37) = some (.slice xA2 xn2 xc2)) ∧
  Calls Tryd.prog 71 #[.int .i64 x6, .int .i64 (xn2 : Int)] w7 (onRet (fun r_2 w8 => ∃ x7 : Int, r_2 = .int .i64 x7 ∧
  S2 w8 ∧
  JoinVC (S := Unit) (fun J31 =>
      ∃ x8 : Int, w8.cell? ⟨g1, 0, none⟩ = some (.int .i64 x8) ∧
      Br (decide (x8 = 2))
        (DrawVC w8 fun S3 w9 =>
        NilVC h fun p4 =>
        ∃ (xA3 : Option Addr) (xn3 xc3 : Nat), (∀ w' : World, S3 w' → w'.cell? (p4.add 37) = some (.slice xA3 xn3 xc3)) ∧
        IdxVC xA3 xn3 3 x7 fun a =>
        ∃ (xA4 : Option Addr) (xn4 xc4 : Nat), (∀ w' : World, S3 w' → w'.cell? (a.add 2) = some (.slice xA4 xn4 xc4)) ∧
        ∃ x9 : Int, (∀ w' : World, S3 w' → w'.cell? ⟨g1, 2, none⟩ = some (.int .i64 x9)) ∧
        ∃ x10 : Int, (∀ w' : World, S3 w' → w'.cell? ⟨g1, 1, none⟩ = some (.int .i64 x10)) ∧
        Calls Tryd.prog 70 #[.slice xA4 xn4 xc4, .int .i64 x9, .int .i64 x10] w9 (onRet (fun r_3 w10 => r_3 = .tuple #[] ∧
        J31 () w10)
          (fun _ _ => False)))
        (J31 () w8))
    (fun _ w11 => weirlaw7_turned_J31 R h g1 x7 w11))
    (fun _ _ => False)))
set_option maxRecDepth 100000 in
def weirlaw7_turned_VC (h : Option Addr) (bA : Option Addr) (bn : Nat) (bc : Nat) (t : TurnV) (w : World) (R : Ending → World → Prop) : Prop :=
  NewVC w (.cells t.cells.toArray 95) fun g1 w1 =>
  JoinVC (S := Unit) (fun J3 =>
      ∃ x : Int, w1.cell? ⟨g1, 0, none⟩ = some (.int .i64 x) ∧
      Br (decide (x = 0))
        (∃ x1 : Int, w1.cell? ⟨g1, 1, none⟩ = some (.int .i64 x1) ∧
        ∃ x2 : Int, w1.cell? ⟨g1, 2, none⟩ = some (.int .i64 x2) ∧
        Calls Tryd.prog 70 #[.slice bA bn bc, .int .i64 x1, .int .i64 x2] w1 (onRet (fun r_ w2 => r_ = .tuple #[] ∧
        J3 () w2)
          (fun ch w2 => R (.panicked ch) w2)))
        (Br (decide (x = 1))
          (DrawVC w1 fun S1 w3 =>
          NilVC h fun p =>
          ∃ (xA : Option Addr) (xn xc : Nat), (∀ w' : World, S1 w' → w'.cell? (p.add 43) = some (.slice xA xn xc)) ∧
          ∃ x3 : Int, (∀ w' : World, S1 w' → w'.cell? ⟨g1, 1, none⟩ = some (.int .i64 x3)) ∧
          ∃ x4 : Int, (∀ w' : World, S1 w' → w'.cell? ⟨g1, 2, none⟩ = some (.int .i64 x4)) ∧
          Calls Tryd.prog 70 #[.slice xA xn xc, .int .i64 x3, .int .i64 x4] w3 (onRet (fun r_1 w4 => r_1 = .tuple #[] ∧
          J3 () w4)
            (fun _ _ => False)))
          (Br (decide (x = 6))
            (∃ x5 : Int, w1.cell? ⟨g1, 2, none⟩ = some (.int .i64 x5) ∧
            NilVC h fun p1 =>
            SetVC w1 (p1.add 42) (.int .i64 x5) fun w5 =>
            J3 () w5)
            (J3 () w1))))
    (fun _ w6 => weirlaw7_turned_J3 R h g1 w6)
def weirlaw7_turned_H : Hints := [(3, []), (31, []), (63, []), (511, [])]
set_option maxRecDepth 100000 in
theorem weirlaw7_turned_of (h : Option Addr) (bA : Option Addr) (bn : Nat) (bc : Nat) (t : TurnV) (w : World) (R : Ending → World → Prop) (hvc_ : weirlaw7_turned_VC h bA bn bc t w R) :
    Calls Tryd.prog 43 #[.pointer h, .slice bA bn bc, t.val] w R :=
  calls_of_wpc callOk mixedOk (H := weirlaw7_turned_H) (args := [.pointer h, .slice bA bn bc, t.val]) (fn := Tryd.f43) (c := bodyOf Tryd.f43) Tryd.func43 rfl (Nat.le_of_ble_eq_true rfl)
    (Eq.mp (by kernel_rfl : weirlaw7_turned_VC h bA bn bc t w R = wpc Tryd.prog callF Tryd.f43.ntmps weirlaw7_turned_H 1 (bodyOf Tryd.f43) (argEnv 0 [.pointer h, .slice bA bn bc, t.val]) [] w (finish Tryd.prog callF Tryd.f43.results.toList R)) hvc_)

set_option maxRecDepth 100000 in
def weirlaw7_Ip6Again_J256496235 (R : Ending → World → Prop) (g6 : Nat) (J8015507 : (Bool → World → Prop)) (t50_ : Bool) (w19 : World) : Prop :=
  Br t50_
    (Op7V.ex fun h7 => CellsAt w19 ⟨g6, 0, none⟩ 0 h7.cells ∧
    Calls Tryd.prog 42 #[h7.val] w19 (onRet (fun r_3 w20 => ∃ x1 : Bool, r_3 = .bool x1 ∧
    J8015507 x1 w20)
      (fun ch3 w20 => R (.panicked ch3) w20)))
    (J8015507 true w19)
set_option maxRecDepth 100000 in
def weirlaw7_Ip6Again_J64124058 (R : Ending → World → Prop) (g6 : Nat) (k : Int) (J8015507 : (Bool → World → Prop)) (t44_ : Bool) (w17 : World) : Prop :=
  Br t44_
    (Op7V.ex fun h6 => CellsAt w17 ⟨g6, 0, none⟩ 0 h6.cells ∧
    Calls Tryd.prog 41 #[h6.val] w17 (onRet (fun r_2 w18 => ∃ x : Bool, r_2 = .bool x ∧
    J8015507 x w18)
      (fun ch2 w18 => R (.panicked ch2) w18)))
    (JoinVC (S := Bool) (fun J256496235 =>
        Br (decide (k = 4))
          (J256496235 (decide (k = 4)) w17)
          (Br (decide (k = 5))
            (J256496235 (decide (k = 5)) w17)
            (Br (decide (k = 6))
              (J256496235 (decide (k = 6)) w17)
              (J256496235 (decide (k = 8)) w17))))
      (fun s_ w19 => weirlaw7_Ip6Again_J256496235 R g6 J8015507 s_ w19))
set_option maxRecDepth 100000 in
def weirlaw7_Ip6Again_J8015507 (R : Ending → World → Prop) (g2 : Nat) (lA : Option Addr) (ln : Nat) (lc : Nat) (g4 : Nat) (lA1 : Option Addr) (ln1 : Nat) (lc1 : Nat) (k : Int) (K125242 : (Int → World → Prop)) (ok : Bool) (w21 : World) : Prop :=
  Br (!ok)
    (R (.returned (.bool false)) w21)
    (Ip6V.ex fun h8 => CellsAt w21 ⟨g2, 0, none⟩ 0 h8.cells ∧
    Ip6V.ex fun h9 => CellsAt w21 ⟨g4, 0, none⟩ 0 h9.cells ∧
    Calls Tryd.prog 18 #[h8.val, h9.val] w21 (onRet (fun r_4 w22 => ∃ x2 : Bool, r_4 = .bool x2 ∧
    Br (!x2)
      (R (.returned (.bool false)) w22)
      (Calls Tryd.prog 20 #[.slice lA ln lc, .slice lA1 ln1 lc1] w22 (onRet (fun r_5 w23 => ∃ x3 : Bool, r_5 = .bool x3 ∧
      Br (!x3)
    (R (.returned (.bool false)) w23)
    (K125242 (IntKind.i64.wrap (k + 1)) w23))
        (fun ch5 w23 => R (.panicked ch5) w23))))
      (fun ch4 w22 => R (.panicked ch4) w22)))
set_option maxRecDepth 100000 in
def weirlaw7_Ip6Again_L125242 (R : Ending → World → Prop) (turnsA : Option Addr) (turnsn : Nat) (g2 : Nat) (lA : Option Addr) (ln : Nat) (lc : Nat) (i : Int) (K122 : (Int → World → Prop)) (g4 : Nat) (lA1 : Option Addr) (ln1 : Nat) (lc1 : Nat) (g6 : Nat) (k : Int) (w15 : World) (K125242 : (Int → World → Prop)) : Prop :=
  Br (decide (k ≤ 8))
    (SetVC w15 ⟨g6, 0, none⟩ (.int .i64 k) fun w16 =>
  JoinVC (S := Bool) (fun J8015507 =>
      JoinVC (S := Bool) (fun J64124058 =>
          Br (decide (k = 1))
            (J64124058 (decide (k = 1)) w16)
            (Br (decide (k = 2))
              (J64124058 (decide (k = 2)) w16)
              (J64124058 (decide (k = 7)) w16)))
        (fun s_ w17 => weirlaw7_Ip6Again_J64124058 R g6 k J8015507 s_ w17))
    (fun s_ w21 => weirlaw7_Ip6Again_J8015507 R g2 lA ln lc g4 lA1 ln1 lc1 k K125242 s_ w21))
    (Br (decide (i < (turnsn : Int)))
    (IdxVC turnsA turnsn 3 i fun a =>
    TurnV.ex fun h10 => CellsAt w15 a 0 h10.cells ∧
    Calls Tryd.prog 43 #[.pointer (some ⟨g2, 0, none⟩), .slice lA ln lc, h10.val] w15 (onRet (fun r_6 w24 => r_6 = .tuple #[] ∧
    K122 (IntKind.i64.wrap (i + 1)) w24)
      (fun ch6 w24 => R (.panicked ch6) w24)))
    (K122 (IntKind.i64.wrap (i + 1)) w15))
set_option maxRecDepth 100000 in
def weirlaw7_Ip6Again_L122 (R : Ending → World → Prop) (n : Int) (turnsA : Option Addr) (turnsn : Nat) (g2 : Nat) (lA : Option Addr) (ln : Nat) (lc : Nat) (i : Int) (w7 : World) (K122 : (Int → World → Prop)) : Prop :=
  Br (decide (i ≤ (turnsn : Int)))
    (Ip6V.ex fun h3 => CellsAt w7 ⟨g2, 0, none⟩ 0 h3.cells ∧
  Calls Tryd.prog 28 #[h3.val] w7 (onRet (fun r_1 w8 => Ip6V.ex fun h4 => r_1 = h4.val ∧
  NewVC w8 (.cells (Ip6V.z : Ip6V).cells.toArray 30) fun g4 w9 =>
  Stores ⟨g4, 0, none⟩ 0 h4.cells w9 fun w10 =>
  NewVC w10 (.cells #[] 5) fun g5 w11 =>
  AppVC Tryd.prog #[22, 22] 22 (.slice (some ⟨g5, 0, none⟩) 0 0) (.slice lA ln lc) w11 fun lA1 ln1 lc1 w12 =>
  Ip6V.ex fun h5 => CellsAt w12 ⟨g2, 0, none⟩ 0 h5.cells ∧
  NewVC w12 (.cells (Op7V.z : Op7V).cells.toArray 90) fun g6 w13 =>
  Stores ⟨g6, 0, none⟩ 0 [.int .i64 0, .slice lA ln lc, .int .i64 h5.cls, .int .i64 h5.flow, .int .i64 h5.hop, .int .i64 h5.src.v, .int .u8 h5.src.a0, .int .u8 h5.src.a1, .int .u8 h5.src.a2, .int .u8 h5.src.a3, .int .u8 h5.src.a4, .int .u8 h5.src.a5, .int .u8 h5.src.a6, .int .u8 h5.src.a7, .int .u8 h5.src.a8, .int .u8 h5.src.a9, .int .u8 h5.src.a10, .int .u8 h5.src.a11, .int .u8 h5.src.a12, .int .u8 h5.src.a13, .int .u8 h5.src.a14, .int .u8 h5.src.a15, .int .i64 h5.dst.v, .int .u8 h5.dst.a0, .int .u8 h5.dst.a1, .int .u8 h5.dst.a2, .int .u8 h5.dst.a3, .int .u8 h5.dst.a4, .int .u8 h5.dst.a5, .int .u8 h5.dst.a6, .int .u8 h5.dst.a7, .int .u8 h5.dst.a8, .int .u8 h5.dst.a9, .int .u8 h5.dst.a10, .int .u8 h5.dst.a11, .int .u8 h5.dst.a12, .int .u8 h5.dst.a13, .int .u8 h5.dst.a14, .int .u8 h5.dst.a15, .slice h5.exts.A h5.exts.n h5.exts.k, .bool h5.frag.has, .bool h5.frag.more, .int .i64 h5.frag.id, .int .i64 h5.frag.off, .int .i64 h5.next, .slice h5.data.A h5.data.n h5.data.k, .int .i64 n] w13 fun w14 =>
  LoopVC (S := Int) (fun s_ w15 K125242 => weirlaw7_Ip6Again_L125242 R turnsA turnsn g2 lA ln lc i K122 g4 lA1 ln1 lc1 g6 s_ w15 K125242) 1 w14)
    (fun ch1 w8 => R (.panicked ch1) w8)))
    (Calls Tryd.prog 16 #[] w7 (onRet (fun r_7 w25 => ∃ x4 : Bool, r_7 = .bool x4 ∧
  R (.returned (.bool x4)) w25)
    (fun ch7 w25 => R (.panicked ch7) w25)))
set_option maxRecDepth 100000 in
def weirlaw7_Ip6Again_VC (h : Ip6V) (bA : Option Addr) (bn : Nat) (bc : Nat) (n : Int) (turnsA : Option Addr) (turnsn : Nat) (_turnsc : Nat) (w : World) (R : Ending → World → Prop) : Prop :=
  NewVC w (.cells h.cells.toArray 30) fun g1 w1 =>
  Ip6V.ex fun h1 => CellsAt w1 ⟨g1, 0, none⟩ 0 h1.cells ∧
  Calls Tryd.prog 28 #[h1.val] w1 (onRet (fun r_ w2 => Ip6V.ex fun h2 => r_ = h2.val ∧
  NewVC w2 (.cells (Ip6V.z : Ip6V).cells.toArray 30) fun g2 w3 =>
  Stores ⟨g2, 0, none⟩ 0 h2.cells w3 fun w4 =>
  NewVC w4 (.cells #[] 5) fun g3 w5 =>
  AppVC Tryd.prog #[22, 22] 22 (.slice (some ⟨g3, 0, none⟩) 0 0) (.slice bA bn bc) w5 fun lA ln lc w6 =>
  LoopVC (S := Int) (fun s_ w7 K122 => weirlaw7_Ip6Again_L122 R n turnsA turnsn g2 lA ln lc s_ w7 K122) 0 w6)
    (fun ch w2 => R (.panicked ch) w2))
def weirlaw7_Ip6Again_H : Hints := [(122, [(11, .int .i64)]), (125242, [(15, .int .i64)]), (64124058, [(44, .bool)]), (256496235, [(50, .bool)]), (8015507, [(16, .bool)])]
set_option maxRecDepth 100000 in
theorem weirlaw7_Ip6Again_of (h : Ip6V) (bA : Option Addr) (bn : Nat) (bc : Nat) (n : Int) (turnsA : Option Addr) (turnsn : Nat) (turnsc : Nat) (w : World) (R : Ending → World → Prop) (hvc_ : weirlaw7_Ip6Again_VC h bA bn bc n turnsA turnsn turnsc w R) :
    Calls Tryd.prog 12 #[h.val, .slice bA bn bc, .int .i64 n, .slice turnsA turnsn turnsc] w R :=
  calls_of_wpc callOk mixedOk (H := weirlaw7_Ip6Again_H) (args := [h.val, .slice bA bn bc, .int .i64 n, .slice turnsA turnsn turnsc]) (fn := Tryd.f12) (c := bodyOf Tryd.f12) Tryd.func12 rfl (Nat.le_of_ble_eq_true rfl)
    (Eq.mp (by kernel_rfl : weirlaw7_Ip6Again_VC h bA bn bc n turnsA turnsn turnsc w R = wpc Tryd.prog callF Tryd.f12.ntmps weirlaw7_Ip6Again_H 1 (bodyOf Tryd.f12) (argEnv 0 [h.val, .slice bA bn bc, .int .i64 n, .slice turnsA turnsn turnsc]) [] w (finish Tryd.prog callF Tryd.f12.results.toList R)) hvc_)
end N6
end Go.Proofs.YtkiogaglmjeplaaDoor
/- Chapter 7's laws: Ip6Short, Ip6Unlike, Ip6Back. -/
namespace Go.Proofs.YtkiogaglmjeplaaDoor
namespace N6
open Go.Eng Go.RowKit
section
variable {w : World} {s : Sl} {l : List Int}
set_option maxHeartbeats 4000000 in
theorem unlike_law {g h : Ip6V} {es fs : List ExtR} {dg dh : List Int} (hG : Ip6At w g es dg) (hH : Ip6At w h fs dh) (hK : Kn w) : Calls Tryd.prog 4 #[g.val, h.val] w fun e w' => e = .returned (.bool true) ∧ Ext w w' := by
  refine weirlaw7_Ip6Unlike_of g h w _ ?_
  unfold weirlaw7_Ip6Unlike_VC
  refine NewVC.sep (Sep.start0 w) fun g1 w1 H => NewVC.sep H fun g2 w2 H => Ip6V.of g ⟨H.at 1 rfl, ?_⟩
  refine (ser_at (hG.ext (H.restOf 0 rfl)) (hK.ext (H.restOf 0 rfl))).mono ?_
  rintro _ w3 ⟨s1, rfl, hs1, hE3⟩
  have H := H.ext hE3
  refine ⟨_, _, _, _, rfl, Ip6V.of h ⟨H.at 2 rfl, ?_⟩⟩
  refine (ser_at (hH.ext (H.restOf 0 rfl)) (hK.ext (H.restOf 0 rfl))).mono ?_
  rintro _ w4 ⟨s2, rfl, hs2, hE4⟩
  have H := H.ext hE4
  have hs1 := hs1.ext hE4
  refine ⟨_, _, _, _, rfl, DrawVC.of (fun w' => Blk w' g1 30 g.cells ∧ Blk w' g2 30 h.cells) fun w5 hE5 _ => ?_⟩
  have H := H.ext hE5
  have hs1 := hs1.ext hE5
  have hs2 := hs2.ext hE5
  refine ⟨⟨H.blk 1 rfl, H.blk 2 rfl⟩, ?_⟩
  refine (started7_spec (hK.ext (H.restOf 0 rfl))).mono ?_
  rintro _ w6 ⟨hE6, rfl⟩
  have H := H.ext hE6
  have hs1 := hs1.ext hE6
  have hs2 := hs2.ext hE6
  have hS : Blk w6 g1 30 g.cells ∧ Blk w6 g2 30 h.cells := ⟨H.blk 1 rfl, H.blk 2 rfl⟩
  refine ⟨_, rfl, hS, Br.t rfl ?_⟩
  refine num7_spec.mono ?_
  rintro _ w7 ⟨hw7, rfl⟩
  subst w7
  refine ⟨_, rfl, hS, Br.dec (fun _ => ⟨rfl, H.restOf 0 rfl⟩) fun he => ?_⟩
  have he : (ser6S (g.d es dg)).2 = 0 := Classical.not_not.1 he
  refine num7_spec.mono ?_
  rintro _ w8 ⟨hw8, rfl⟩
  subst w8
  refine ⟨_, rfl, hS, Br.dec (fun _ => ⟨rfl, H.restOf 0 rfl⟩) fun hf => ?_⟩
  have hf : (ser6S (h.d fs dh)).2 = 0 := Classical.not_not.1 hf
  refine Ip6V.of g ⟨fun w' hb => CellsAt.blk hb.1, Ip6V.of h ⟨fun w' hb => CellsAt.blk hb.2, ?_⟩⟩
  refine (alike7_spec hs1 hs2).mono ?_
  rintro _ w9 ⟨hw9, rfl⟩
  subst w9
  refine ⟨_, rfl, hS, ?_⟩
  refine (same6_spec (hG.ext (H.restOf 0 rfl)) (hH.ext (H.restOf 0 rfl))).mono ?_
  rintro _ w10 ⟨x, rfl, hx, hE10⟩
  have H := H.ext hE10
  refine ⟨_, rfl, ⟨H.blk 1 rfl, H.blk 2 rfl⟩, ?_, H.restOf 0 rfl⟩
  congr 2
  by_cases hd : g.d es dg = h.d fs dh
  · have hxt := hx.2 hd
    subst hxt
    rw [hd, decide_eq_true rfl]; rfl
  · have hxf : x = false := by
      cases x with
      | false => rfl
      | true => exact absurd (hx.1 rfl) hd
    subst hxf
    rw [decide_eq_false]
    · rfl
    · intro hb
      apply hd
      have p1 := parsed_back he
      have p2 := parsed_back hf
      rw [hb, p2] at p1
      exact ((Prod.mk.inj p1).1).symm
set_option maxHeartbeats 4000000 in
theorem back6_law {h : Ip6V} {es : List ExtR} {dh : List Int} (hH : Ip6At w h es dh) (hK : Kn w) : Calls Tryd.prog 10 #[h.val] w fun e w' => e = .returned (.bool true) ∧ Ext w w' := by
  refine weirlaw7_Ip6Back_of h w _ ?_
  unfold weirlaw7_Ip6Back_VC
  refine NewVC.sep (Sep.start0 w) fun g1 w1 H => Ip6V.of h ⟨H.at 1 rfl, ?_⟩
  refine (check6_spec (hH.ext (H.restOf 0 rfl)) (hK.ext (H.restOf 0 rfl))).mono ?_
  rintro _ w2 ⟨hE2, rfl⟩
  have H := H.ext hE2
  refine ⟨_, rfl, Ip6V.of h ⟨H.at 1 rfl, ?_⟩⟩
  refine (ser_at (hH.ext (H.restOf 0 rfl)) (hK.ext (H.restOf 0 rfl))).mono ?_
  rintro _ w3 ⟨s1, rfl, hs1, hE3⟩
  have H := H.ext hE3
  refine ⟨_, _, _, _, rfl, Ip6V.of h ⟨H.at 1 rfl, ?_⟩⟩
  refine (size6_spec (hH.ext (H.restOf 0 rfl)) (hK.ext (H.restOf 0 rfl))).mono ?_
  rintro _ w4 ⟨hE4, rfl⟩
  have H := H.ext hE4
  have hs1 := hs1.ext hE4
  refine ⟨_, rfl, ?_⟩
  refine num7_spec.mono ?_
  rintro _ w5 ⟨hw5, rfl⟩
  subst w5
  refine ⟨_, rfl, ?_⟩
  refine num7_spec.mono ?_
  rintro _ w6 ⟨hw6, rfl⟩
  subst w6
  have hln := hs1.len
  refine ⟨_, rfl, Br.no (fun h => h rfl) (Br.no (by omega) ?_)⟩
  refine num7_spec.mono ?_
  rintro _ w7 ⟨hw7, rfl⟩
  subst w7
  refine ⟨_, rfl, Br.dec (fun he => ?_) fun he => ?_⟩
  · refine (started7_spec (hK.ext (H.restOf 0 rfl))).mono ?_
    rintro _ w8 ⟨hE8, rfl⟩
    refine ⟨_, rfl, Br.t rfl ⟨?_, (H.restOf 0 rfl).trans hE8⟩⟩
    rcases ser6S_cases (h.d es dh) with ⟨_, e⟩ | ⟨e, _⟩
    · rw [e]; rfl
    · exact absurd e he
  · have he : (ser6S (h.d es dh)).2 = 0 := Classical.not_not.1 he
    have hp := parse_at hs1 (hK.ext (H.restOf 0 rfl))
    rw [parsed_back he] at hp
    refine hp.mono ?_
    rintro _ w9 ⟨g, xs, data, rfl, hd, hA, hE9⟩
    have H := H.ext hE9
    have hs1 := hs1.ext hE9
    refine onRet_is (Ip6V.of g ⟨_, rfl, NewVC.sep (Sep.start0 w9) fun g2 w10 K => Stores.sep K 1 rfl (Ip6V.one g) (Nat.le_refl _) (splice_all rfl) fun w11 K => ?_⟩)
    have hE11 := K.restOf 0 rfl
    have hg2 := K.blk 1 rfl
    have H := H.ext hE11
    have hA := hA.ext hE11
    have hs1 := hs1.ext hE11
    refine (started7_spec (hK.ext (H.restOf 0 rfl))).mono ?_
    rintro _ w12 ⟨hE12, rfl⟩
    have H := H.ext hE12
    have hA := hA.ext hE12
    have hs1 := hs1.ext hE12
    have hg2 := hg2.ext hE12
    refine ⟨_, rfl, Br.t rfl ?_⟩
    refine num7_spec.mono ?_
    rintro _ w13 ⟨hw13, rfl⟩
    subst w13
    refine ⟨_, rfl, Br.yes rfl (Ip6V.of g ⟨CellsAt.blk hg2, Ip6V.of h ⟨H.at 1 rfl, ?_⟩⟩)⟩
    refine (same6_spec hA (hH.ext (H.restOf 0 rfl))).mono ?_
    rintro _ w14 ⟨x, rfl, hx, hE14⟩
    have hxt := hx.2 hd
    subst hxt
    have H := H.ext hE14
    refine ⟨_, rfl, Br.t rfl ?_⟩
    refine (canonical_spec (hs1.ext hE14) (hK.ext (H.restOf 0 rfl))).mono ?_
    rintro _ w15 ⟨hE15, rfl⟩
    refine ⟨_, rfl, ?_, (H.restOf 0 rfl).trans hE15⟩
    rw [canonS_back he]
theorem bytes_part {p n : Nat} (hB : BytesAt w s l) (h : p + n ≤ l.length) {q : Int} (hq : q = ((p + n : Nat) : Int)) {F : Option Addr → Nat → Nat → Prop}
    (hF : ∀ s' : Sl, BytesAt w s' (bpart l p n) → F s'.A s'.n s'.k) : SliceVC s.A s.n s.k 1 (some (p : Int)) (some q) none F := by
  subst hq
  have hl := hB.len
  have hc := hB.cap
  have hs := hB.small
  refine ⟨by omega, by omega, by omega, ?_⟩
  have e : (((p + n : Nat) : Int)).toNat - ((p : Nat) : Int).toNat = n := by omega
  have e2 : s.k - ((p : Nat) : Int).toNat = s.k - p := by omega
  rw [e, e2, Int.toNat_natCast]
  refine hF ⟨_, n, s.k - p⟩ ⟨bpart_len h, by show n ≤ s.k - p; omega, by show n ≤ 4000000; omega, (hB.bts.drop _).take _, ?_⟩
  have hw := (hB.win (p := p) (n := n) h).cells
  by_cases hn : n = 0
  · have : bpart l p n = [] := by subst hn; unfold bpart; exact List.take_zero
    rw [this]; exact Cells.nil _ _
  · show Cells w (if s.k = p then s.A else s.A.map (·.add (p * 1))) _
    rw [if_neg (by omega), Nat.mul_one]
    have e : (winSl s p n).A = s.A.map (·.add p) := by unfold winSl; rw [if_neg hn]
    rw [e] at hw
    exact hw
set_option maxHeartbeats 4000000 in
theorem short_law {sa sb : Sl} {la lb : List Int} {n : Int} (hB : BytesAt w s l) (hs8 : s.n ≤ 1048576) (hA : BytesAt w sa la) (ha8 : sa.n ≤ 1048576) (hC : BytesAt w sb lb) (hb8 : sb.n ≤ 1048576) (hK : Kn w) :
    Calls Tryd.prog 3 #[s.val, sa.val, sb.val, .int .i64 n] w fun e w' => e = .returned (.bool true) ∧ Ext w w' := by
  refine weirlaw7_Ip6Short_of s.A s.n s.k sa.A sa.n sa.k sb.A sb.n sb.k n w _ ?_
  unfold weirlaw7_Ip6Short_VC
  have hl := hB.len
  have hla := hA.len
  have hlb := hC.len
  refine appB (m := sa.n) (xs := []) (ys := la) ((Sep.start0 w).nil _ _ _) 1 rfl hA.cells hla (by omega) (Nat.le_refl _) fun A1 c1 w1 H _ => ?_
  rw [Nat.zero_add] at H ⊢
  refine appB (m := s.n) (ys := l) H 1 rfl (hB.ext (H.restOf 0 rfl)).cells hl (by omega) (H.restOf 0 rfl).size fun A2 c2 w2 H _ => ?_
  refine appB (m := sb.n) (ys := lb) H 1 rfl (hC.ext (H.restOf 0 rfl)).cells hlb (by omega) (H.restOf 0 rfl).size fun A3 c3 w3 H _ => ?_
  obtain ⟨W, hW⟩ : ∃ W : List Int, W = la ++ l ++ lb := ⟨_, rfl⟩
  have hWl : W.length = sa.n + s.n + sb.n := by rw [hW]; simp only [List.length_append]; omega
  have hWB : BytesAt w3 ⟨A3, sa.n + s.n + sb.n, c3⟩ W := by
    rw [hW]
    exact bytesAt_of (s := ⟨A3, sa.n + s.n + sb.n, c3⟩) (b := w.heap.size) (l := la ++ l ++ lb) (H.own 1 rfl) ⟨by show sa.n + s.n + sb.n ≤ 4000000; omega, (hA.bts.append hB.bts).append hC.bts⟩
  refine JoinVC.of (fun st w' => w' = w3 ∧ ∃ m : Nat, st = ((sa.n + m : Nat) : Int) ∧ m ≤ s.n) ?_ ?_
  · refine Br.dec (fun h0 => Br.dec (fun h1 => ⟨rfl, n.toNat, ?_, by omega⟩) fun h1 => ⟨rfl, s.n, ?_, Nat.le_refl _⟩) fun h0 => ⟨rfl, s.n, ?_, Nat.le_refl _⟩
    · rw [w64 (by omega) (by omega)]; omega
    · rw [w64 (by omega) (by omega)]; omega
    · rw [w64 (by omega) (by omega)]; omega
  rintro _ w4 ⟨hw4, m, rfl, hm⟩
  subst w4
  unfold weirlaw7_Ip6Short_J255
  refine bytes_part (s := ⟨A3, sa.n + s.n + sb.n, c3⟩) (p := sa.n) (n := m) hWB (by omega) rfl fun s' hs' => ?_
  refine (parse_at hs' (hK.ext (H.restOf 0 rfl))).mono ?_
  rintro _ w5 ⟨h, xs, data, rfl, hd, hP, hE5⟩
  have H := H.ext hE5
  refine onRet_is (Ip6V.of h ⟨_, rfl, NewVC.sep (Sep.start0 w5) fun g1 w6 K => Stores.sep K 1 rfl (Ip6V.one h) (Nat.le_refl _) (splice_all rfl) fun w7 K => ?_⟩)
  have hE7 := K.restOf 0 rfl
  have hg1 := K.blk 1 rfl
  have H := H.ext hE7
  have hP := hP.ext hE7
  refine (part1_spec (s := ⟨A3, sa.n + s.n + sb.n, c3⟩) (hWB.ext (hE5.trans hE7)) (p := sa.n) (k := m) (by omega) rfl rfl).mono ?_
  rintro _ w8 ⟨sp, rfl, hsn, H8⟩
  have hE8 := H8.restOf 0 rfl
  have hp8 : BytesAt w8 sp (bpart W sa.n m) := bytesAt_of (H8.own 1 rfl) ⟨by rw [hsn]; omega, (hWB.bts.drop _).take _⟩
  have H := H.ext hE8
  have hP := hP.ext hE8
  have hg1 := hg1.ext hE8
  refine ⟨_, _, _, rfl, ?_⟩
  refine (refParse_spec hp8).mono ?_
  rintro _ w9 ⟨h', xs', data', rfl, hd', hQ, hE9⟩
  have H := H.ext hE9
  have hP := hP.ext hE9
  have hg1 := hg1.ext hE9
  refine onRet_is (Ip6V.of h' ⟨_, rfl, NewVC.sep (Sep.start0 w9) fun g2 w10 K => Stores.sep K 1 rfl (Ip6V.one h') (Nat.le_refl _) (splice_all rfl) fun w11 K => ?_⟩)
  have hE11 := K.restOf 0 rfl
  have hg2 := K.blk 1 rfl
  have H := H.ext hE11
  have hP := hP.ext hE11
  have hQ := hQ.ext hE11
  have hg1 := hg1.ext hE11
  refine (started7_spec (hK.ext (H.restOf 0 rfl))).mono ?_
  rintro _ w12 ⟨hE12, rfl⟩
  have H := H.ext hE12
  refine ⟨_, rfl, Br.t rfl ?_⟩
  refine num7_spec.mono ?_
  rintro _ w13 ⟨hw13, rfl⟩
  subst w13
  refine ⟨_, rfl, Br.yes rfl (Ip6V.of h ⟨CellsAt.blk (hg1.ext hE12), Ip6V.of h' ⟨CellsAt.blk (hg2.ext hE12), ?_⟩⟩)⟩
  refine (same6_spec (hP.ext hE12) (hQ.ext hE12)).mono ?_
  rintro _ w14 ⟨x, rfl, hx, hE14⟩
  have hxt := hx.2 (hd.trans hd'.symm)
  subst hxt
  exact ⟨_, rfl, rfl, (H.restOf 0 rfl).trans hE14⟩
end
end N6
end Go.Proofs.YtkiogaglmjeplaaDoor
