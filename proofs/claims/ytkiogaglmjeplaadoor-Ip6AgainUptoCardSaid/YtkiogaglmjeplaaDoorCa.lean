/- WRITTEN BY a program of this session (vc.py): for each Go function the condition that is enough for its contract, and the theorem that it is. -/
import Derived.Test.YtkiogaglmjeplaaDoorProg
import Derived.Test.YtkiogaglmjeplaaDoorBq
import Derived.Test.YtkiogaglmjeplaaDoorBz
import Derived.Test.YtkiogaglmjeplaaDoorBe
namespace Go.Proofs.YtkiogaglmjeplaaDoor
open Go.Eng
namespace N6

set_option maxRecDepth 100000 in
def weirlaw7_placed_VC (at_ : Int) (n : Int) (w : World) (R : Ending → World → Prop) : Prop :=
  DivVC n (
  Br (decide (Int.tmod at_ n < 0))
    (R (.returned (.int .i64 (IntKind.i64.wrap (Int.tmod at_ n + n)))) w)
    (R (.returned (.int .i64 (Int.tmod at_ n))) w))
def weirlaw7_placed_H : Hints := []
set_option maxRecDepth 100000 in
theorem weirlaw7_placed_of (at_ : Int) (n : Int) (w : World) (R : Ending → World → Prop) (hvc_ : weirlaw7_placed_VC at_ n w R) :
    Calls Tryd.prog 71 #[.int .i64 at_, .int .i64 n] w R :=
  calls_of_wpc callOk mixedOk (H := weirlaw7_placed_H) (args := [.int .i64 at_, .int .i64 n]) (fn := Tryd.f71) (c := bodyOf Tryd.f71) Tryd.func71 rfl (Nat.le_of_ble_eq_true rfl)
    (Eq.mp (by kernel_rfl : weirlaw7_placed_VC at_ n w R = wpc Tryd.prog callF Tryd.f71.ntmps weirlaw7_placed_H 1 (bodyOf Tryd.f71) (argEnv 0 [.int .i64 at_, .int .i64 n]) [] w (finish Tryd.prog callF Tryd.f71.results.toList R)) hvc_)

set_option maxRecDepth 100000 in
def weirlaw7_put_VC (lA : Option Addr) (ln : Nat) (_lc : Nat) (at_ : Int) (by_ : Int) (w : World) (R : Ending → World → Prop) : Prop :=
  Br (decide ((0 : Int) < (ln : Int)))
    (Calls Tryd.prog 71 #[.int .i64 at_, .int .i64 (ln : Int)] w (onRet (fun r_ w1 => ∃ x : Int, r_ = .int .i64 x ∧
    IdxVC lA ln 1 x fun a =>
    SetVC w1 a (.int .u8 (IntKind.u8.wrap by_)) fun w2 =>
    R (.returned (.tuple #[])) w2)
      (fun ch w1 => R (.panicked ch) w1)))
    (R (.returned (.tuple #[])) w)
def weirlaw7_put_H : Hints := []
set_option maxRecDepth 100000 in
theorem weirlaw7_put_of (lA : Option Addr) (ln : Nat) (lc : Nat) (at_ : Int) (by_ : Int) (w : World) (R : Ending → World → Prop) (hvc_ : weirlaw7_put_VC lA ln lc at_ by_ w R) :
    Calls Tryd.prog 70 #[.slice lA ln lc, .int .i64 at_, .int .i64 by_] w R :=
  calls_of_wpc callOk mixedOk (H := weirlaw7_put_H) (args := [.slice lA ln lc, .int .i64 at_, .int .i64 by_]) (fn := Tryd.f70) (c := bodyOf Tryd.f70) Tryd.func70 rfl (Nat.le_of_ble_eq_true rfl)
    (Eq.mp (by kernel_rfl : weirlaw7_put_VC lA ln lc at_ by_ w R = wpc Tryd.prog callF Tryd.f70.ntmps weirlaw7_put_H 1 (bodyOf Tryd.f70) (argEnv 0 [.slice lA ln lc, .int .i64 at_, .int .i64 by_]) [] w (finish Tryd.prog callF Tryd.f70.results.toList R)) hvc_)

set_option maxRecDepth 100000 in
def weirlaw7_turned_J511 (R : Ending → World → Prop) (h : Option Addr) (g1 : Nat) (x7 : Int) (x14 : Int)  (w19 : World) : Prop :=
  ∃ x18 : Int, w19.cell? ⟨g1, 0, none⟩ = some (.int .i64 x18) ∧
  Br (decide (x18 = 5))
    (DrawVC w19 fun S7 w20 =>
    NilVC h fun p9 =>
    ∃ (xA13 : Option Addr) (xn13 xc13 : Nat), (∀ w' : World, S7 w' → w'.cell? (p9.add 37) = some (.slice xA13 xn13 xc13)) ∧
    IdxVC xA13 xn13 3 x7 fun a6 =>
    ∃ (xA14 : Option Addr) (xn14 xc14 : Nat), (∀ w' : World, S7 w' → w'.cell? (a6.add 1) = some (.slice xA14 xn14 xc14)) ∧
    ∃ x19 : Int, (∀ w' : World, S7 w' → w'.cell? ⟨g1, 2, none⟩ = some (.int .i64 x19)) ∧
    IdxVC xA14 xn14 2 x14 fun a7 =>
    SetVC w20 a7 (.int .i64 x19) fun w21 =>
    R (.returned (.tuple #[])) w21)
    (R (.returned (.tuple #[])) w19)
set_option maxRecDepth 100000 in
def weirlaw7_turned_J63 (R : Ending → World → Prop) (h : Option Addr) (g1 : Nat) (x7 : Int)  (w14 : World) : Prop :=
  NilVC h fun p6 =>
  ∃ (xA6 : Option Addr) (xn6 xc6 : Nat), w14.cell? (p6.add 37) = some (.slice xA6 xn6 xc6) ∧
  IdxVC xA6 xn6 3 x7 fun a2 =>
  ∃ (xA7 : Option Addr) (xn7 xc7 : Nat), w14.cell? (a2.add 1) = some (.slice xA7 xn7 xc7) ∧
  Br (decide ((xn7 : Int) = 0))
    (R (.returned (.tuple #[])) w14)
    (DrawVC w14 fun S5 w15 =>
  ∃ x13 : Int, (∀ w' : World, S5 w' → w'.cell? ⟨g1, 2, none⟩ = some (.int .i64 x13)) ∧
  NilVC h fun p7 =>
  ∃ (xA8 : Option Addr) (xn8 xc8 : Nat), (∀ w' : World, S5 w' → w'.cell? (p7.add 37) = some (.slice xA8 xn8 xc8)) ∧
  IdxVC xA8 xn8 3 x7 fun a3 =>
  ∃ (xA9 : Option Addr) (xn9 xc9 : Nat), (∀ w' : World, S5 w' → w'.cell? (a3.add 1) = some (.slice xA9 xn9 xc9)) ∧
  Calls Tryd.prog 71 #[.int .i64 x13, .int .i64 (xn9 : Int)] w15 (onRet (fun r_4 w16 => ∃ x14 : Int, r_4 = .int .i64 x14 ∧
  S5 w16 ∧
  JoinVC (S := Unit) (fun J511 =>
      ∃ x15 : Int, w16.cell? ⟨g1, 0, none⟩ = some (.int .i64 x15) ∧
      Br (decide (x15 = 3))
        (DrawVC w16 fun S6 w17 =>
        NilVC h fun p8 =>
        ∃ (xA10 : Option Addr) (xn10 xc10 : Nat), (∀ w' : World, S6 w' → w'.cell? (p8.add 37) = some (.slice xA10 xn10 xc10)) ∧
        IdxVC xA10 xn10 3 x7 fun a4 =>
        ∃ (xA11 : Option Addr) (xn11 xc11 : Nat), (∀ w' : World, S6 w' → w'.cell? (a4.add 1) = some (.slice xA11 xn11 xc11)) ∧
        IdxVC xA11 xn11 2 x14 fun a5 =>
        ∃ (xA12 : Option Addr) (xn12 xc12 : Nat), (∀ w' : World, S6 w' → w'.cell? (a5.add 1) = some (.slice xA12 xn12 xc12)) ∧
        ∃ x16 : Int, (∀ w' : World, S6 w' → w'.cell? ⟨g1, 1, none⟩ = some (.int .i64 x16)) ∧
        ∃ x17 : Int, (∀ w' : World, S6 w' → w'.cell? ⟨g1, 2, none⟩ = some (.int .i64 x17)) ∧
        Calls Tryd.prog 70 #[.slice xA12 xn12 xc12, .int .i64 x16, .int .i64 x17] w17 (onRet (fun r_5 w18 => r_5 = .tuple #[] ∧
        J511 () w18)
          (fun _ _ => False)))
        (J511 () w16))
    (fun _ w19 => weirlaw7_turned_J511 R h g1 x7 x14 w19))
    (fun _ _ => False)))
set_option maxRecDepth 100000 in
def weirlaw7_turned_J31 (R : Ending → World → Prop) (h : Option Addr) (g1 : Nat) (x7 : Int)  (w11 : World) : Prop :=
  JoinVC (S := Unit) (fun J63 =>
      ∃ x11 : Int, w11.cell? ⟨g1, 0, none⟩ = some (.int .i64 x11) ∧
      Br (decide (x11 = 4))
        (DrawVC w11 fun S4 w12 =>
        NilVC h fun p5 =>
        ∃ (xA5 : Option Addr) (xn5 xc5 : Nat), (∀ w' : World, S4 w' → w'.cell? (p5.add 37) = some (.slice xA5 xn5 xc5)) ∧
        ∃ x12 : Int, (∀ w' : World, S4 w' → w'.cell? ⟨g1, 2, none⟩ = some (.int .i64 x12)) ∧
        IdxVC xA5 xn5 3 x7 fun a1 =>
        SetVC w12 a1 (.int .i64 x12) fun w13 =>
        J63 () w13)
        (J63 () w11))
    (fun _ w14 => weirlaw7_turned_J63 R h g1 x7 w14)
set_option maxRecDepth 100000 in
def weirlaw7_turned_J3 (R : Ending → World → Prop) (h : Option Addr) (g1 : Nat)  (w6 : World) : Prop :=
  NilVC h fun p2 =>
  ∃ (xA1 : Option Addr) (xn1 xc1 : Nat), w6.cell? (p2.add 37) = some (.slice xA1 xn1 xc1) ∧
  Br (decide ((xn1 : Int) = 0))
    (R (.returned (.tuple #[])) w6)
    (DrawVC w6 fun S2 w7 =>
  ∃ x6 : Int, (∀ w' : World, S2 w' → w'.cell? ⟨g1, 1, none⟩ = some (.int .i64 x6)) ∧
  NilVC h fun p3 =>
  ∃ (xA2 : Option Addr) (xn2 xc2 : Nat), (∀ w' : World, S2 w' → w'.cell? (p3.add 37) = some (.slice xA2 xn2 xc2)) ∧
  Calls Tryd.prog 71 #[.int .i64 x6, .int .i64 (xn2 : Int)] w7 (onRet (fun r_2 w8 => ∃ x7 : Int, r_2 = .int .i64 x7 ∧
  S2 w8 ∧
  JoinVC (S := Unit) (fun J31 =>
      ∃ x8 : Int, w8.cell? ⟨g1, 0, none⟩ = some (.int .i64 x8) ∧
      Br (decide (x8 = 2))
        (DrawVC w8 fun S3 w9 =>
        NilVC h fun p4 =>
        ∃ (xA3 : Option Addr) (xn3 xc3 : Nat), (∀ w' : World, S3 w' → w'.cell? (p4.add 37) = some (.slice xA3 xn3 xc3)) ∧
        IdxVC xA3 xn3 3 x7 fun a =>
        ∃ (xA4 : Option Addr) (xn4 xc4 : Nat), (∀ w' : World, S3 w' → w'.cell? (a.add 2) = some (.slice xA4 xn4 xc4)) ∧
        ∃ x9 : Int, (∀ w' : World, S3 w' → w'.cell? ⟨g1, 2, none⟩ = some (.int .i64 x9)) ∧
        ∃ x10 : Int, (∀ w' : World, S3 w' → w'.cell? ⟨g1, 1, none⟩ = some (.int .i64 x10)) ∧
        Calls Tryd.prog 70 #[.slice xA4 xn4 xc4, .int .i64 x9, .int .i64 x10] w9 (onRet (fun r_3 w10 => r_3 = .tuple #[] ∧
        J31 () w10)
          (fun _ _ => False)))
        (J31 () w8))
    (fun _ w11 => weirlaw7_turned_J31 R h g1 x7 w11))
    (fun _ _ => False)))
set_option maxRecDepth 100000 in
def weirlaw7_turned_VC (h : Option Addr) (bA : Option Addr) (bn : Nat) (bc : Nat) (t : TurnV) (w : World) (R : Ending → World → Prop) : Prop :=
  NewVC w (.cells t.cells.toArray 95) fun g1 w1 =>
  JoinVC (S := Unit) (fun J3 =>
      ∃ x : Int, w1.cell? ⟨g1, 0, none⟩ = some (.int .i64 x) ∧
      Br (decide (x = 0))
        (∃ x1 : Int, w1.cell? ⟨g1, 1, none⟩ = some (.int .i64 x1) ∧
        ∃ x2 : Int, w1.cell? ⟨g1, 2, none⟩ = some (.int .i64 x2) ∧
        Calls Tryd.prog 70 #[.slice bA bn bc, .int .i64 x1, .int .i64 x2] w1 (onRet (fun r_ w2 => r_ = .tuple #[] ∧
        J3 () w2)
          (fun ch w2 => R (.panicked ch) w2)))
        (Br (decide (x = 1))
          (DrawVC w1 fun S1 w3 =>
          NilVC h fun p =>
          ∃ (xA : Option Addr) (xn xc : Nat), (∀ w' : World, S1 w' → w'.cell? (p.add 43) = some (.slice xA xn xc)) ∧
          ∃ x3 : Int, (∀ w' : World, S1 w' → w'.cell? ⟨g1, 1, none⟩ = some (.int .i64 x3)) ∧
          ∃ x4 : Int, (∀ w' : World, S1 w' → w'.cell? ⟨g1, 2, none⟩ = some (.int .i64 x4)) ∧
          Calls Tryd.prog 70 #[.slice xA xn xc, .int .i64 x3, .int .i64 x4] w3 (onRet (fun r_1 w4 => r_1 = .tuple #[] ∧
          J3 () w4)
            (fun _ _ => False)))
          (Br (decide (x = 6))
            (∃ x5 : Int, w1.cell? ⟨g1, 2, none⟩ = some (.int .i64 x5) ∧
            NilVC h fun p1 =>
            SetVC w1 (p1.add 42) (.int .i64 x5) fun w5 =>
            J3 () w5)
            (J3 () w1))))
    (fun _ w6 => weirlaw7_turned_J3 R h g1 w6)
def weirlaw7_turned_H : Hints := [(3, []), (31, []), (63, []), (511, [])]
set_option maxRecDepth 100000 in
theorem weirlaw7_turned_of (h : Option Addr) (bA : Option Addr) (bn : Nat) (bc : Nat) (t : TurnV) (w : World) (R : Ending → World → Prop) (hvc_ : weirlaw7_turned_VC h bA bn bc t w R) :
    Calls Tryd.prog 43 #[.pointer h, .slice bA bn bc, t.val] w R :=
  calls_of_wpc callOk mixedOk (H := weirlaw7_turned_H) (args := [.pointer h, .slice bA bn bc, t.val]) (fn := Tryd.f43) (c := bodyOf Tryd.f43) Tryd.func43 rfl (Nat.le_of_ble_eq_true rfl)
    (Eq.mp (by kernel_rfl : weirlaw7_turned_VC h bA bn bc t w R = wpc Tryd.prog callF Tryd.f43.ntmps weirlaw7_turned_H 1 (bodyOf Tryd.f43) (argEnv 0 [.pointer h, .slice bA bn bc, t.val]) [] w (finish Tryd.prog callF Tryd.f43.results.toList R)) hvc_)

set_option maxRecDepth 100000 in
def weirlaw7_Ip6Again_J256496235 (R : Ending → World → Prop) (g6 : Nat) (J8015507 : (Bool → World → Prop)) (t50_ : Bool) (w19 : World) : Prop :=
  Br t50_
    (Op7V.ex fun h7 => CellsAt w19 ⟨g6, 0, none⟩ 0 h7.cells ∧
    Calls Tryd.prog 42 #[h7.val] w19 (onRet (fun r_3 w20 => ∃ x1 : Bool, r_3 = .bool x1 ∧
    J8015507 x1 w20)
      (fun ch3 w20 => R (.panicked ch3) w20)))
    (J8015507 true w19)
set_option maxRecDepth 100000 in
def weirlaw7_Ip6Again_J64124058 (R : Ending → World → Prop) (g6 : Nat) (k : Int) (J8015507 : (Bool → World → Prop)) (t44_ : Bool) (w17 : World) : Prop :=
  Br t44_
    (Op7V.ex fun h6 => CellsAt w17 ⟨g6, 0, none⟩ 0 h6.cells ∧
    Calls Tryd.prog 41 #[h6.val] w17 (onRet (fun r_2 w18 => ∃ x : Bool, r_2 = .bool x ∧
    J8015507 x w18)
      (fun ch2 w18 => R (.panicked ch2) w18)))
    (JoinVC (S := Bool) (fun J256496235 =>
        Br (decide (k = 4))
          (J256496235 (decide (k = 4)) w17)
          (Br (decide (k = 5))
            (J256496235 (decide (k = 5)) w17)
            (Br (decide (k = 6))
              (J256496235 (decide (k = 6)) w17)
              (J256496235 (decide (k = 8)) w17))))
      (fun s_ w19 => weirlaw7_Ip6Again_J256496235 R g6 J8015507 s_ w19))
set_option maxRecDepth 100000 in
def weirlaw7_Ip6Again_J8015507 (R : Ending → World → Prop) (g2 : Nat) (lA : Option Addr) (ln : Nat) (lc : Nat) (g4 : Nat) (lA1 : Option Addr) (ln1 : Nat) (lc1 : Nat) (k : Int) (K125242 : (Int → World → Prop)) (ok : Bool) (w21 : World) : Prop :=
  Br (!ok)
    (R (.returned (.bool false)) w21)
    (Ip6V.ex fun h8 => CellsAt w21 ⟨g2, 0, none⟩ 0 h8.cells ∧
    Ip6V.ex fun h9 => CellsAt w21 ⟨g4, 0, none⟩ 0 h9.cells ∧
    Calls Tryd.prog 18 #[h8.val, h9.val] w21 (onRet (fun r_4 w22 => ∃ x2 : Bool, r_4 = .bool x2 ∧
    Br (!x2)
      (R (.returned (.bool false)) w22)
      (Calls Tryd.prog 20 #[.slice lA ln lc, .slice lA1 ln1 lc1] w22 (onRet (fun r_5 w23 => ∃ x3 : Bool, r_5 = .bool x3 ∧
      Br (!x3)
    (R (.returned (.bool false)) w23)
    (K125242 (IntKind.i64.wrap (k + 1)) w23))
        (fun ch5 w23 => R (.panicked ch5) w23))))
      (fun ch4 w22 => R (.panicked ch4) w22)))
set_option maxRecDepth 100000 in
def weirlaw7_Ip6Again_L125242 (R : Ending → World → Prop) (turnsA : Option Addr) (turnsn : Nat) (g2 : Nat) (lA : Option Addr) (ln : Nat) (lc : Nat) (i : Int) (K122 : (Int → World → Prop)) (g4 : Nat) (lA1 : Option Addr) (ln1 : Nat) (lc1 : Nat) (g6 : Nat) (k : Int) (w15 : World) (K125242 : (Int → World → Prop)) : Prop :=
  Br (decide (k ≤ 8))
    (SetVC w15 ⟨g6, 0, none⟩ (.int .i64 k) fun w16 =>
  JoinVC (S := Bool) (fun J8015507 =>
      JoinVC (S := Bool) (fun J64124058 =>
          Br (decide (k = 1))
            (J64124058 (decide (k = 1)) w16)
            (Br (decide (k = 2))
              (J64124058 (decide (k = 2)) w16)
              (J64124058 (decide (k = 7)) w16)))
        (fun s_ w17 => weirlaw7_Ip6Again_J64124058 R g6 k J8015507 s_ w17))
    (fun s_ w21 => weirlaw7_Ip6Again_J8015507 R g2 lA ln lc g4 lA1 ln1 lc1 k K125242 s_ w21))
    (Br (decide (i < (turnsn : Int)))
    (IdxVC turnsA turnsn 3 i fun a =>
    TurnV.ex fun h10 => CellsAt w15 a 0 h10.cells ∧
    Calls Tryd.prog 43 #[.pointer (some ⟨g2, 0, none⟩), .slice lA ln lc, h10.val] w15 (onRet (fun r_6 w24 => r_6 = .tuple #[] ∧
    K122 (IntKind.i64.wrap (i + 1)) w24)
      (fun ch6 w24 => R (.panicked ch6) w24)))
    (K122 (IntKind.i64.wrap (i + 1)) w15))
set_option maxRecDepth 100000 in
def weirlaw7_Ip6Again_L122 (R : Ending → World → Prop) (n : Int) (turnsA : Option Addr) (turnsn : Nat) (g2 : Nat) (lA : Option Addr) (ln : Nat) (lc : Nat) (i : Int) (w7 : World) (K122 : (Int → World → Prop)) : Prop :=
  Br (decide (i ≤ (turnsn : Int)))
    (Ip6V.ex fun h3 => CellsAt w7 ⟨g2, 0, none⟩ 0 h3.cells ∧
  Calls Tryd.prog 28 #[h3.val] w7 (onRet (fun r_1 w8 => Ip6V.ex fun h4 => r_1 = h4.val ∧
  NewVC w8 (.cells (Ip6V.z : Ip6V).cells.toArray 30) fun g4 w9 =>
  Stores ⟨g4, 0, none⟩ 0 h4.cells w9 fun w10 =>
  NewVC w10 (.cells #[] 5) fun g5 w11 =>
  AppVC Tryd.prog #[22, 22] 22 (.slice (some ⟨g5, 0, none⟩) 0 0) (.slice lA ln lc) w11 fun lA1 ln1 lc1 w12 =>
  Ip6V.ex fun h5 => CellsAt w12 ⟨g2, 0, none⟩ 0 h5.cells ∧
  NewVC w12 (.cells (Op7V.z : Op7V).cells.toArray 90) fun g6 w13 =>
  Stores ⟨g6, 0, none⟩ 0 [.int .i64 0, .slice lA ln lc, .int .i64 h5.cls, .int .i64 h5.flow, .int .i64 h5.hop, .int .i64 h5.src.v, .int .u8 h5.src.a0, .int .u8 h5.src.a1, .int .u8 h5.src.a2, .int .u8 h5.src.a3, .int .u8 h5.src.a4, .int .u8 h5.src.a5, .int .u8 h5.src.a6, .int .u8 h5.src.a7, .int .u8 h5.src.a8, .int .u8 h5.src.a9, .int .u8 h5.src.a10, .int .u8 h5.src.a11, .int .u8 h5.src.a12, .int .u8 h5.src.a13, .int .u8 h5.src.a14, .int .u8 h5.src.a15, .int .i64 h5.dst.v, .int .u8 h5.dst.a0, .int .u8 h5.dst.a1, .int .u8 h5.dst.a2, .int .u8 h5.dst.a3, .int .u8 h5.dst.a4, .int .u8 h5.dst.a5, .int .u8 h5.dst.a6, .int .u8 h5.dst.a7, .int .u8 h5.dst.a8, .int .u8 h5.dst.a9, .int .u8 h5.dst.a10, .int .u8 h5.dst.a11, .int .u8 h5.dst.a12, .int .u8 h5.dst.a13, .int .u8 h5.dst.a14, .int .u8 h5.dst.a15, .slice h5.exts.A h5.exts.n h5.exts.k, .bool h5.frag.has, .bool h5.frag.more, .int .i64 h5.frag.id, .int .i64 h5.frag.off, .int .i64 h5.next, .slice h5.data.A h5.data.n h5.data.k, .int .i64 n] w13 fun w14 =>
  LoopVC (S := Int) (fun s_ w15 K125242 => weirlaw7_Ip6Again_L125242 R turnsA turnsn g2 lA ln lc i K122 g4 lA1 ln1 lc1 g6 s_ w15 K125242) 1 w14)
    (fun ch1 w8 => R (.panicked ch1) w8)))
    (Calls Tryd.prog 16 #[] w7 (onRet (fun r_7 w25 => ∃ x4 : Bool, r_7 = .bool x4 ∧
  R (.returned (.bool x4)) w25)
    (fun ch7 w25 => R (.panicked ch7) w25)))
set_option maxRecDepth 100000 in
def weirlaw7_Ip6Again_VC (h : Ip6V) (bA : Option Addr) (bn : Nat) (bc : Nat) (n : Int) (turnsA : Option Addr) (turnsn : Nat) (_turnsc : Nat) (w : World) (R : Ending → World → Prop) : Prop :=
  NewVC w (.cells h.cells.toArray 30) fun g1 w1 =>
  Ip6V.ex fun h1 => CellsAt w1 ⟨g1, 0, none⟩ 0 h1.cells ∧
  Calls Tryd.prog 28 #[h1.val] w1 (onRet (fun r_ w2 => Ip6V.ex fun h2 => r_ = h2.val ∧
  NewVC w2 (.cells (Ip6V.z : Ip6V).cells.toArray 30) fun g2 w3 =>
  Stores ⟨g2, 0, none⟩ 0 h2.cells w3 fun w4 =>
  NewVC w4 (.cells #[] 5) fun g3 w5 =>
  AppVC Tryd.prog #[22, 22] 22 (.slice (some ⟨g3, 0, none⟩) 0 0) (.slice bA bn bc) w5 fun lA ln lc w6 =>
  LoopVC (S := Int) (fun s_ w7 K122 => weirlaw7_Ip6Again_L122 R n turnsA turnsn g2 lA ln lc s_ w7 K122) 0 w6)
    (fun ch w2 => R (.panicked ch) w2))
def weirlaw7_Ip6Again_H : Hints := [(122, [(11, .int .i64)]), (125242, [(15, .int .i64)]), (64124058, [(44, .bool)]), (256496235, [(50, .bool)]), (8015507, [(16, .bool)])]
set_option maxRecDepth 100000 in
theorem weirlaw7_Ip6Again_of (h : Ip6V) (bA : Option Addr) (bn : Nat) (bc : Nat) (n : Int) (turnsA : Option Addr) (turnsn : Nat) (turnsc : Nat) (w : World) (R : Ending → World → Prop) (hvc_ : weirlaw7_Ip6Again_VC h bA bn bc n turnsA turnsn turnsc w R) :
    Calls Tryd.prog 12 #[h.val, .slice bA bn bc, .int .i64 n, .slice turnsA turnsn turnsc] w R :=
  calls_of_wpc callOk mixedOk (H := weirlaw7_Ip6Again_H) (args := [h.val, .slice bA bn bc, .int .i64 n, .slice turnsA turnsn turnsc]) (fn := Tryd.f12) (c := bodyOf Tryd.f12) Tryd.func12 rfl (Nat.le_of_ble_eq_true rfl)
    (Eq.mp (by kernel_rfl : weirlaw7_Ip6Again_VC h bA bn bc n turnsA turnsn turnsc w R = wpc Tryd.prog callF Tryd.f12.ntmps weirlaw7_Ip6Again_H 1 (bodyOf Tryd.f12) (argEnv 0 [h.val, .slice bA bn bc, .int .i64 n, .slice turnsA turnsn turnsc]) [] w (finish Tryd.prog callF Tryd.f12.results.toList R)) hvc_)
end N6
end Go.Proofs.YtkiogaglmjeplaaDoor
/- Ip6Again's small functions: a place, a byte put at it; one part of many is changed. -/
namespace Go.Eng
open Go Go.RowKit
section
variable {w w' : World} {M : Nat → Prop}
/-- One part, wherever it stands, is changed. -/
theorem Sep.modMid {l1 l2 : List Fct} {f : Fct} (H : Sep (l1 ++ f :: l2) w) (h : Mod M w w') (hM : ∀ k, k < w.heap.size → M k → f.R k) (f' : Fct) (hφ : f'.φ w') (hR : ∀ k, f'.R k → f.R k ∨ (w.heap.size ≤ k ∧ k < w'.heap.size)) : Sep (l1 ++ f' :: l2) w' := by
  have hi : (l1 ++ f :: l2)[l1.length]? = some f := by simp
  have := H.mod l1.length hi h hM f' hφ hR
  simpa using this
/-- A cell of a row of the call's own is written. -/
theorem SetVC.ownAt {b e size n c : Nat} {A : Option Addr} {xs : List Value} {j : Nat} {v : Value} {F : World → Prop} {a : Addr} (ho : w.ownsRow b e size (.slice A n c) n xs) (ha : A = some a) (hj : j < xs.length)
    (h : ∀ w', Mod (fun k => (Value.slice A n c).ownBlock = some k) w w' → w'.heap.size = w.heap.size → w'.ownsRow b e size (.slice A n c) n (xs.set j v) → F w') : SetVC w (a.add j) v F := by
  rcases ho.2 with ⟨hv, _⟩ | ⟨g, cap, cur, hv, hb, hg, hnc, hcm, hcs, ht⟩
  · injection hv with h1 _ _
    rw [h1] at ha; cases ha
  · injection hv with h1 _ h3
    rw [h1] at ha; cases ha
    subst h3
    rw [addr_add, Nat.zero_add]
    have hB : Blk w g e cur.toList := by unfold Blk; simpa using hg
    have hlen := ho.1
    have hjc : j < cur.toList.length := by
      have := congrArg List.length ht
      rw [List.length_take] at this
      omega
    refine SetVC.blk hB hjc fun w' hz hm hb' => h w' (hm.mono fun k _ e => by subst e; rw [h1]; rfl) hz ⟨by rw [List.length_set]; exact hlen, .inr ⟨g, c, (cur.toList.set j v).toArray, by rw [h1], hb, by unfold Blk at hb'; simpa using hb', hnc, hcm, by simpa using hcs, ?_⟩⟩
    rw [← ht]
    simp only [List.take_set]
end
end Go.Eng
namespace Go.Proofs.YtkiogaglmjeplaaDoor
namespace N6
open Go.Eng Go.RowKit
section
variable {w : World}
theorem placed_spec {at' : Int} {n : Nat} (h : 0 < n) (hn : n ≤ 4000000) : Calls Tryd.prog 71 #[.int .i64 at', .int .i64 n] w fun e w' => w' = w ∧ ∃ k : Nat, k < n ∧ e = .returned (.int .i64 k) := by
  refine weirlaw7_placed_of at' n w _ ?_
  unfold weirlaw7_placed_VC
  have h1 := Int.tmod_lt_of_pos at' (show (0 : Int) < n by omega)
  have h2 : -(n : Int) < Int.tmod at' n := by
    rcases Int.le_total 0 at' with h0 | h0
    · have := Int.tmod_nonneg (n : Int) h0; omega
    · have := Int.tmod_lt_of_pos (-at') (show (0 : Int) < n by omega)
      rw [Int.neg_tmod] at this; omega
  refine ⟨by omega, Br.dec (fun hlt => ⟨rfl, ((Int.tmod at' n + n).toNat), by omega, ?_⟩) fun hge => ⟨rfl, (Int.tmod at' n).toNat, by omega, ?_⟩⟩
  · rw [w64 (by omega) (by omega), Int.toNat_of_nonneg (by omega)]
  · rw [Int.toNat_of_nonneg (by omega)]
/-- A byte of a row of the call's own, put at a place of it, if there is one. -/
theorem put_spec {s : Sl} {l : List Int} {b : Nat} {at' by' : Int} (ho : w.ownsRow b 5 1 s.val s.n (l.map (.int .u8))) (hl : l.length = s.n) (hB : Bts l) (hn : s.n ≤ 4000000) :
    Calls Tryd.prog 70 #[s.val, .int .i64 at', .int .i64 by'] w fun e w' => e = .returned (.tuple #[]) ∧ w'.heap.size = w.heap.size ∧ Mod (fun k => s.val.ownBlock = some k) w w' ∧ ∃ l', l'.length = l.length ∧ Bts l' ∧ w'.ownsRow b 5 1 s.val s.n (l'.map (.int .u8)) := by
  refine weirlaw7_put_of s.A s.n s.k at' by' w _ ?_
  unfold weirlaw7_put_VC
  refine Br.dec (fun h0 => ?_) fun h0 => ⟨rfl, rfl, Mod.refl _ _, l, rfl, hB, ho⟩
  refine (placed_spec (by omega) hn).mono ?_
  rintro _ w1 ⟨hw1, k, hk, rfl⟩
  subst w1
  refine ⟨_, rfl, ?_⟩
  have hc : Cells w s.A (l.map (.int .u8)) := own_cells (A := s.A) (c := s.k) ho
  obtain ⟨a, ha, _⟩ := hc.at (i := k) (by rw [List.length_map]; omega)
  refine ⟨a, ha, by omega, by omega, ?_⟩
  rw [Int.toNat_natCast, Nat.mul_one]
  refine SetVC.ownAt (A := s.A) (n := s.n) (c := s.k) ho ha (by rw [List.length_map]; omega) fun w' hm hz ho' => ⟨rfl, hz, hm, l.set k (IntKind.u8.wrap by'), by simp, fun x hx => ?_, by rw [← map_set]; exact ho'⟩
  rcases List.mem_or_eq_of_mem_set hx with hx | hx
  · exact hB x hx
  · subst hx
    rw [IntKind.wrap_u8]; omega
theorem put_step {l1 l2 : List Fct} {s : Sl} {l : List Int} {b : Nat} {at' by' : Int} (H : Sep (l1 ++ rowB b s l :: l2) w) (hf : BFine s l) : Calls Tryd.prog 70 #[s.val, .int .i64 at', .int .i64 by'] w fun e w' => e = .returned (.tuple #[]) ∧ ∃ l', l'.length = l.length ∧ BFine s l' ∧ Sep (l1 ++ rowB b s l' :: l2) w' := by
  have ho : w.ownsRow b 5 1 s.val s.n (l.map (.int .u8)) := H.mem (f := rowB b s l) (by simp)
  have hl : l.length = s.n := by have := ho.1; simpa using this
  refine (put_spec ho hl hf.2 hf.1).mono ?_
  rintro _ w' ⟨rfl, hz, hm, l', hl', hB', ho'⟩
  exact ⟨rfl, l', hl', ⟨hf.1, hB'⟩, H.modMid hm (fun k _ e => e) (rowB b s l') ho' fun k hk => .inl hk⟩
/-- The first cell of a record of a row of the call's own is written. -/
theorem kind_step {l1 l2 : List Fct} {s : Sl} {xs : List Value} {b e size i : Nat} {v : Value} {K : World → Prop} (H : Sep (l1 ++ Fct.own b e size s.val s.n xs :: l2) w) (hi : i < s.n) (h0 : 0 < size)
    (hK : ∀ w', Sep (l1 ++ Fct.own b e size s.val s.n (xs.set (i * size) v) :: l2) w' → K w') : IdxVC s.A s.n size (i : Int) fun a => SetVC w a v K := by
  have ho : w.ownsRow b e size s.val s.n xs := H.mem (f := Fct.own b e size s.val s.n xs) (by simp)
  have hlen := ho.1
  have hlt : i * size < xs.length := by
    rw [hlen]
    exact Nat.mul_lt_mul_of_pos_right hi h0
  have hc : Cells w s.A xs := own_cells (A := s.A) (c := s.k) ho
  obtain ⟨a, ha, _⟩ := hc.at hlt
  refine ⟨a, ha, by omega, by omega, ?_⟩
  rw [Int.toNat_natCast]
  refine SetVC.ownAt (A := s.A) (n := s.n) (c := s.k) ho ha hlt fun w' hm hz ho' => hK w' (H.modMid hm (fun k _ e => e) _ ho' fun k hk => .inl hk)
end
end N6
end Go.Proofs.YtkiogaglmjeplaaDoor
/- Ip6Again's changes in place. -/
namespace Go.Proofs.YtkiogaglmjeplaaDoor
namespace N6
open Go.Eng Go.RowKit
section
variable {w : World}
/-- An option of the list has other bytes. -/
theorem opt_put {l1 l2 : List Fct} {b : Nat} {s : Sl} {rs : List OptR} {i : Nat} {r : OptR} {at' by' : Int} (H : Sep (l1 ++ (optFs b s rs ++ l2)) w) (hf : OptsFine s rs) (hi : rs[i]? = some r) :
    Calls Tryd.prog 70 #[r.v.data.val, .int .i64 at', .int .i64 by'] w fun e w' => e = .returned (.tuple #[]) ∧ ∃ rs', OptsFine s rs' ∧ Sep (l1 ++ (optFs b s rs' ++ l2)) w' := by
  obtain ⟨hlt, hri⟩ := List.getElem?_eq_some_iff.1 hi
  have hsplit : rs = rs.take i ++ r :: rs.drop (i + 1) := by
    rw [← hri, ← List.drop_eq_getElem_cons hlt, List.take_append_drop]
  have e1 : l1 ++ (optFs b s rs ++ l2) = (l1 ++ (rowO b s rs :: (rs.take i).map fun r => rowB b r.v.data r.data)) ++ (rowB b r.v.data r.data :: ((rs.drop (i + 1)).map (fun r => rowB b r.v.data r.data) ++ l2)) := by
    unfold optFs
    conv => lhs; rw [show (rs.map fun r => rowB b r.v.data r.data) = ((rs.take i ++ r :: rs.drop (i + 1)).map fun r => rowB b r.v.data r.data) by rw [← hsplit]]
    simp
  rw [e1] at H
  refine (put_step H (hf.each r (List.mem_of_getElem? hi))).mono ?_
  rintro _ w' ⟨rfl, l', hl', hf', H'⟩
  refine ⟨rfl, rs.take i ++ ⟨r.v, l'⟩ :: rs.drop (i + 1), ⟨?_, hf.small, fun x hx => ?_⟩, ?_⟩
  · have := hf.len
    have h2 := congrArg List.length hsplit
    simp only [List.length_append, List.length_cons] at h2 ⊢
    omega
  · rcases List.mem_append.1 hx with hx | hx
    · exact hf.each x (List.mem_of_mem_take hx)
    · rcases List.mem_cons.1 hx with rfl | hx
      · exact hf'
      · exact hf.each x (List.mem_of_mem_drop hx)
  · have e2 : rowO b s (rs.take i ++ ⟨r.v, l'⟩ :: rs.drop (i + 1)) = rowO b s rs := by
      unfold rowO
      congr 2
      conv => rhs; rw [hsplit]
      simp
    unfold optFs
    rw [e2]
    simpa using H'
/-- An option of the list has another kind. -/
theorem opt_kind {l1 l2 : List Fct} {b : Nat} {s : Sl} {rs : List OptR} {i : Nat} {k : Int} {K : World → Prop} (H : Sep (l1 ++ (optFs b s rs ++ l2)) w) (hf : OptsFine s rs) (hi : i < s.n)
    (hK : ∀ w' rs', OptsFine s rs' → Sep (l1 ++ (optFs b s rs' ++ l2)) w' → K w') : IdxVC s.A s.n 2 (i : Int) fun a => SetVC w a (.int .i64 k) K := by
  have hlt : i < rs.length := by rw [hf.len]; exact hi
  have e1 : l1 ++ (optFs b s rs ++ l2) = l1 ++ (rowO b s rs :: ((rs.map fun r => rowB b r.v.data r.data) ++ l2)) := by unfold optFs; simp
  rw [e1] at H
  refine kind_step H hi (by decide) fun w' H' => hK w' (rs.take i ++ ⟨⟨k, rs[i].v.data⟩, rs[i].data⟩ :: rs.drop (i + 1)) ⟨?_, hf.small, fun x hx => ?_⟩ ?_
  · have := hf.len
    simp only [List.length_append, List.length_take, List.length_cons, List.length_drop]
    omega
  · rcases List.mem_append.1 hx with hx | hx
    · exact hf.each x (List.mem_of_mem_take hx)
    · rcases List.mem_cons.1 hx with rfl | hx
      · exact hf.each rs[i] (List.getElem_mem _)
      · exact hf.each x (List.mem_of_mem_drop hx)
  · have hsplit : rs = rs.take i ++ rs[i] :: rs.drop (i + 1) := by rw [← List.drop_eq_getElem_cons hlt, List.take_append_drop]
    have hm : (rs.take i ++ ⟨⟨k, rs[i].v.data⟩, rs[i].data⟩ :: rs.drop (i + 1)).map (fun r => rowB b r.v.data r.data) = rs.map fun r => rowB b r.v.data r.data := by
      have := congrArg (List.map fun r : OptR => rowB b r.v.data r.data) hsplit
      rw [List.map_append, List.map_cons] at this
      rw [List.map_append, List.map_cons]
      exact this.symm
    have hfl : ((rs.take i ++ ⟨⟨k, rs[i].v.data⟩, rs[i].data⟩ :: rs.drop (i + 1)).map fun r => r.v.cells).flatten = ((rs.map fun r => r.v.cells).flatten).set (i * 2) (.int .i64 k) := by
      conv => rhs; rw [hsplit]
      simp only [List.map_append, List.flatten_append, List.map_cons, List.flatten_cons]
      have hl2 : (((rs.take i).map fun r => r.v.cells).flatten).length = i * 2 := by
        have : ∀ l : List OptR, ((l.map fun r => r.v.cells).flatten).length = l.length * 2 := by
          intro l
          induction l with
          | nil => rfl
          | cons x l ih => simp only [List.map_cons, List.flatten_cons, List.length_append, ih, List.length_cons]; show 2 + _ = _; omega
        rw [this, List.length_take]; omega
      rw [List.set_append_right _ _ (by omega), hl2, Nat.sub_self]
      rfl
    unfold optFs rowO
    rw [hm, hfl]
    simpa using H'
/-- A header of the list has other bytes. -/
theorem ext_put {l1 : List Fct} {b : Nat} {s : Sl} {rs : List ExtR} {i : Nat} {r : ExtR} {at' by' : Int} (H : Sep (l1 ++ extFs b s rs) w) (hf : ExtsFine s rs) (hi : rs[i]? = some r) :
    Calls Tryd.prog 70 #[r.v.data.val, .int .i64 at', .int .i64 by'] w fun e w' => e = .returned (.tuple #[]) ∧ ∃ rs', ExtsFine s rs' ∧ Sep (l1 ++ extFs b s rs') w' := by
  obtain ⟨hlt, hri⟩ := List.getElem?_eq_some_iff.1 hi
  have hsplit : rs = rs.take i ++ r :: rs.drop (i + 1) := by
    rw [← hri, ← List.drop_eq_getElem_cons hlt, List.take_append_drop]
  have hfm := congrArg (List.flatMap (extF b)) hsplit
  rw [List.flatMap_append, List.flatMap_cons] at hfm
  have e1 : l1 ++ extFs b s rs = (l1 ++ (rowE b s rs :: ((rs.take i).flatMap (extF b) ++ optFs b r.v.opts r.opts))) ++ (rowB b r.v.data r.data :: (rs.drop (i + 1)).flatMap (extF b)) := by
    unfold extFs
    rw [hfm]
    unfold extF
    simp
  rw [e1] at H
  refine (put_step H (hf.data r (List.mem_of_getElem? hi))).mono ?_
  rintro _ w' ⟨rfl, l', hl', hf', H'⟩
  have hmem : ∀ x ∈ rs.take i ++ ⟨r.v, r.opts, l'⟩ :: rs.drop (i + 1), x = ⟨r.v, r.opts, l'⟩ ∨ x ∈ rs := fun x hx => by
    rcases List.mem_append.1 hx with hx | hx
    · exact .inr (List.mem_of_mem_take hx)
    · rcases List.mem_cons.1 hx with rfl | hx
      · exact .inl rfl
      · exact .inr (List.mem_of_mem_drop hx)
  refine ⟨rfl, rs.take i ++ ⟨r.v, r.opts, l'⟩ :: rs.drop (i + 1), ⟨?_, hf.small, fun x hx => ?_, fun x hx => ?_⟩, ?_⟩
  · have := hf.len
    have h2 := congrArg List.length hsplit
    simp only [List.length_append, List.length_cons] at h2 ⊢
    omega
  · rcases hmem x hx with rfl | hx
    · exact hf.opts r (List.mem_of_getElem? hi)
    · exact hf.opts x hx
  · rcases hmem x hx with rfl | hx
    · exact hf'
    · exact hf.data x hx
  · have e2 : rowE b s (rs.take i ++ ⟨r.v, r.opts, l'⟩ :: rs.drop (i + 1)) = rowE b s rs := by
      unfold rowE
      congr 2
      have := congrArg (List.map fun r : ExtR => r.v.cells) hsplit
      rw [List.map_append, List.map_cons] at this
      rw [List.map_append, List.map_cons]
      exact this.symm
    unfold extFs
    rw [e2, List.flatMap_append, List.flatMap_cons]
    unfold extF at H' ⊢
    simpa using H'
/-- A header of the list has another kind. -/
theorem ext_kind {l1 : List Fct} {b : Nat} {s : Sl} {rs : List ExtR} {i : Nat} {k : Int} {K : World → Prop} (H : Sep (l1 ++ extFs b s rs) w) (hf : ExtsFine s rs) (hi : i < s.n)
    (hK : ∀ w' rs', ExtsFine s rs' → Sep (l1 ++ extFs b s rs') w' → K w') : IdxVC s.A s.n 3 (i : Int) fun a => SetVC w a (.int .i64 k) K := by
  have hlt : i < rs.length := by rw [hf.len]; exact hi
  have H : Sep (l1 ++ (rowE b s rs :: rs.flatMap (extF b))) w := H
  have hsplit : rs = rs.take i ++ rs[i] :: rs.drop (i + 1) := by rw [← List.drop_eq_getElem_cons hlt, List.take_append_drop]
  have hmem : ∀ x ∈ rs.take i ++ ⟨⟨k, rs[i].v.opts, rs[i].v.data⟩, rs[i].opts, rs[i].data⟩ :: rs.drop (i + 1), x = ⟨⟨k, rs[i].v.opts, rs[i].v.data⟩, rs[i].opts, rs[i].data⟩ ∨ x ∈ rs := fun x hx => by
    rcases List.mem_append.1 hx with hx | hx
    · exact .inr (List.mem_of_mem_take hx)
    · rcases List.mem_cons.1 hx with rfl | hx
      · exact .inl rfl
      · exact .inr (List.mem_of_mem_drop hx)
  refine kind_step H hi (by decide) fun w' H' => hK w' (rs.take i ++ ⟨⟨k, rs[i].v.opts, rs[i].v.data⟩, rs[i].opts, rs[i].data⟩ :: rs.drop (i + 1)) ⟨?_, hf.small, fun x hx => ?_, fun x hx => ?_⟩ ?_
  · have := hf.len
    simp only [List.length_append, List.length_take, List.length_cons, List.length_drop]
    omega
  · rcases hmem x hx with rfl | hx
    · exact hf.opts rs[i] (List.getElem_mem _)
    · exact hf.opts x hx
  · rcases hmem x hx with rfl | hx
    · exact hf.data rs[i] (List.getElem_mem _)
    · exact hf.data x hx
  · have hm : (rs.take i ++ ⟨⟨k, rs[i].v.opts, rs[i].v.data⟩, rs[i].opts, rs[i].data⟩ :: rs.drop (i + 1)).flatMap (extF b) = rs.flatMap (extF b) := by
      have := congrArg (List.flatMap (extF b)) hsplit
      rw [List.flatMap_append, List.flatMap_cons] at this
      rw [List.flatMap_append, List.flatMap_cons]
      exact this.symm
    have hfl : ((rs.take i ++ ⟨⟨k, rs[i].v.opts, rs[i].v.data⟩, rs[i].opts, rs[i].data⟩ :: rs.drop (i + 1)).map fun r => r.v.cells).flatten = ((rs.map fun r => r.v.cells).flatten).set (i * 3) (.int .i64 k) := by
      have hs2 := congrArg (fun l : List ExtR => (l.map fun r => r.v.cells).flatten) hsplit
      simp only [List.map_append, List.flatten_append, List.map_cons, List.flatten_cons] at hs2
      rw [hs2]
      simp only [List.map_append, List.flatten_append, List.map_cons, List.flatten_cons]
      have hl2 : (((rs.take i).map fun r => r.v.cells).flatten).length = i * 3 := by
        have : ∀ l : List ExtR, ((l.map fun r => r.v.cells).flatten).length = l.length * 3 := by
          intro l
          induction l with
          | nil => rfl
          | cons x l ih => simp only [List.map_cons, List.flatten_cons, List.length_append, ih, List.length_cons]; show 3 + _ = _; omega
        rw [this, List.length_take]; omega
      rw [List.set_append_right _ _ (by omega), hl2, Nat.sub_self]
      rfl
    unfold extFs rowE
    rw [hm, hfl]
    exact H'
/-- One header's options, among all. -/
theorem ext_split {b : Nat} {s : Sl} {rs : List ExtR} {i : Nat} {r : ExtR} (hi : rs[i]? = some r) (l1 : List Fct) :
    l1 ++ extFs b s rs = (l1 ++ rowE b s rs :: (rs.take i).flatMap (extF b)) ++ (optFs b r.v.opts r.opts ++ (rowB b r.v.data r.data :: (rs.drop (i + 1)).flatMap (extF b))) := by
  obtain ⟨hlt, hri⟩ := List.getElem?_eq_some_iff.1 hi
  have hsplit : rs = rs.take i ++ r :: rs.drop (i + 1) := by
    rw [← hri, ← List.drop_eq_getElem_cons hlt, List.take_append_drop]
  have hfm := congrArg (List.flatMap (extF b)) hsplit
  rw [List.flatMap_append, List.flatMap_cons] at hfm
  unfold extFs
  rw [hfm]
  unfold extF
  simp
theorem ext_join {b : Nat} {s : Sl} {rs : List ExtR} {i : Nat} {r : ExtR} (hi : rs[i]? = some r) (os : List OptR) (l1 : List Fct) :
    l1 ++ extFs b s (rs.take i ++ ⟨r.v, os, r.data⟩ :: rs.drop (i + 1)) = (l1 ++ rowE b s rs :: (rs.take i).flatMap (extF b)) ++ (optFs b r.v.opts os ++ (rowB b r.v.data r.data :: (rs.drop (i + 1)).flatMap (extF b))) := by
  obtain ⟨hlt, hri⟩ := List.getElem?_eq_some_iff.1 hi
  have hsplit : rs = rs.take i ++ r :: rs.drop (i + 1) := by
    rw [← hri, ← List.drop_eq_getElem_cons hlt, List.take_append_drop]
  have e2 : rowE b s (rs.take i ++ ⟨r.v, os, r.data⟩ :: rs.drop (i + 1)) = rowE b s rs := by
    unfold rowE
    congr 2
    have := congrArg (List.map fun r : ExtR => r.v.cells) hsplit
    rw [List.map_append, List.map_cons] at this
    rw [List.map_append, List.map_cons]
    exact this.symm
  unfold extFs
  rw [e2, List.flatMap_append, List.flatMap_cons]
  unfold extF
  simp
theorem ext_fine {s : Sl} {rs : List ExtR} {i : Nat} {r : ExtR} {os : List OptR} (hf : ExtsFine s rs) (hi : rs[i]? = some r) (ho : OptsFine r.v.opts os) : ExtsFine s (rs.take i ++ ⟨r.v, os, r.data⟩ :: rs.drop (i + 1)) := by
  obtain ⟨hlt, hri⟩ := List.getElem?_eq_some_iff.1 hi
  have hmem : ∀ x ∈ rs.take i ++ ⟨r.v, os, r.data⟩ :: rs.drop (i + 1), x = ⟨r.v, os, r.data⟩ ∨ x ∈ rs := fun x hx => by
    rcases List.mem_append.1 hx with hx | hx
    · exact .inr (List.mem_of_mem_take hx)
    · rcases List.mem_cons.1 hx with rfl | hx
      · exact .inl rfl
      · exact .inr (List.mem_of_mem_drop hx)
  refine ⟨?_, hf.small, fun x hx => ?_, fun x hx => ?_⟩
  · have := hf.len
    simp only [List.length_append, List.length_take, List.length_cons, List.length_drop]
    omega
  · rcases hmem x hx with rfl | hx
    · exact ho
    · exact hf.opts x hx
  · rcases hmem x hx with rfl | hx
    · exact hf.data r (List.mem_of_getElem? hi)
    · exact hf.data x hx
theorem ext_at {rs : List ExtR} {i : Nat} {r : ExtR} (hi : rs[i]? = some r) (x : ExtR) : (rs.take i ++ x :: rs.drop (i + 1))[i]? = some x := by
  obtain ⟨hlt, hri⟩ := List.getElem?_eq_some_iff.1 hi
  rw [List.getElem?_append_right (by simp; omega), List.length_take, Nat.min_eq_left (by omega), Nat.sub_self]
  rfl
end
end N6
end Go.Proofs.YtkiogaglmjeplaaDoor
/- Ip6Again: one change in place. -/
namespace Go.Proofs.YtkiogaglmjeplaaDoor
namespace N6
open Go.Eng Go.RowKit
section
variable {w : World}
def pre (w0 : World) (gt g : Nat) (t : TurnV) (h : Ip6V) : List Fct := [Fct.blk gt 95 t.cells, Fct.rest w0 None, Fct.blk g 30 h.cells]
/-- A buffer and a datagram of the law's own. -/
structure HeldX (w0 : World) (l : List Fct) (sb : Sl) (h : Ip6V) (es : List ExtR) (w : World) : Prop where
  x : ExtsFine h.exts es
  h : ∃ lb dt, BFine sb lb ∧ BFine h.data dt ∧ Sep (l ++ (rowB w0.heap.size sb lb :: (rowB w0.heap.size h.data dt :: extFs w0.heap.size h.exts es))) w
def Held (w0 : World) (l : List Fct) (sb : Sl) (h : Ip6V) (w : World) : Prop := ∃ es, HeldX w0 l sb h es w
section
variable {w0 : World} {l : List Fct} {sb : Sl} {h : Ip6V} {es : List ExtR} {at' by' : Int}
theorem HeldX.sep (k : HeldX w0 l sb h es w) : Sep l w := by
  obtain ⟨lb, dt, h1, h2, H⟩ := k.h
  exact H.sub (List.sublist_append_left _ _)
theorem HeldX.ext {w' : World} (k : HeldX w0 l sb h es w) (hE : Ext w w') : HeldX w0 l sb h es w' := by
  obtain ⟨lb, dt, h1, h2, H⟩ := k.h
  exact ⟨k.x, lb, dt, h1, h2, H.ext hE⟩
theorem Held.sep (k : Held w0 l sb h w) : Sep l w := by
  obtain ⟨es, k⟩ := k
  exact k.sep
theorem Held.ext {w' : World} (k : Held w0 l sb h w) (hE : Ext w w') : Held w0 l sb h w' := by
  obtain ⟨es, k⟩ := k
  exact ⟨es, k.ext hE⟩
theorem HeldX.exts (k : HeldX w0 l sb h es w) : ExtsAt w h.exts es := by
  obtain ⟨lb, dt, h1, h2, H⟩ := k.h
  exact extsAt_of (b := w0.heap.size) (fun f hf => H.mem (by
    simp only [List.mem_append, List.mem_cons]
    exact .inr (.inr (.inr hf)))) k.x
/-- All of it, as it lies. -/
theorem Held.a (k : Held w0 l sb h w) (hs : Bts h.src.bytes) (hd : Bts h.dst.bytes) : ∃ es dt lb, Ip6At w h es dt ∧ BytesAt w sb lb := by
  obtain ⟨es, k⟩ := k
  obtain ⟨lb, dt, h1, h2, H⟩ := k.h
  exact ⟨es, dt, lb, ⟨k.exts, bytesAt_of (b := w0.heap.size) (H.mem (by simp only [List.mem_append, List.mem_cons]; exact .inr (.inr (.inl trivial)))) h2, hs, hd⟩, bytesAt_of (b := w0.heap.size) (H.mem (by simp)) h1⟩
theorem HeldX.put0 (k : HeldX w0 l sb h es w) : Calls Tryd.prog 70 #[sb.val, .int .i64 at', .int .i64 by'] w fun e w' => e = .returned (.tuple #[]) ∧ HeldX w0 l sb h es w' := by
  obtain ⟨lb, dt, h1, h2, H⟩ := k.h
  refine (put_step H h1).mono ?_
  rintro _ w' ⟨rfl, l', _, hf, H⟩
  exact ⟨rfl, k.x, l', dt, hf, h2, H⟩
theorem HeldX.put1 (k : HeldX w0 l sb h es w) : Calls Tryd.prog 70 #[h.data.val, .int .i64 at', .int .i64 by'] w fun e w' => e = .returned (.tuple #[]) ∧ HeldX w0 l sb h es w' := by
  obtain ⟨lb, dt, h1, h2, H⟩ := k.h
  have e : ∀ d : List Int, l ++ (rowB w0.heap.size sb lb :: (rowB w0.heap.size h.data d :: extFs w0.heap.size h.exts es)) = (l ++ [rowB w0.heap.size sb lb]) ++ (rowB w0.heap.size h.data d :: extFs w0.heap.size h.exts es) := fun d => by simp
  rw [e] at H
  refine (put_step H h2).mono ?_
  rintro _ w' ⟨rfl, l', _, hf, H⟩
  exact ⟨rfl, k.x, lb, l', h1, hf, by rw [e]; exact H⟩
theorem HeldX.put2 (k : HeldX w0 l sb h es w) {i : Nat} {r : ExtR} (hr : es[i]? = some r) : Calls Tryd.prog 70 #[r.v.data.val, .int .i64 at', .int .i64 by'] w fun e w' => e = .returned (.tuple #[]) ∧ Held w0 l sb h w' := by
  obtain ⟨lb, dt, h1, h2, H⟩ := k.h
  have e : ∀ x : List ExtR, l ++ (rowB w0.heap.size sb lb :: (rowB w0.heap.size h.data dt :: extFs w0.heap.size h.exts x)) = (l ++ [rowB w0.heap.size sb lb, rowB w0.heap.size h.data dt]) ++ extFs w0.heap.size h.exts x := fun x => by simp
  rw [e] at H
  refine (ext_put H k.x hr).mono ?_
  rintro _ w' ⟨rfl, x', hf, H⟩
  exact ⟨rfl, x', hf, lb, dt, h1, h2, by rw [e]; exact H⟩
theorem HeldX.kind4 (k : HeldX w0 l sb h es w) {i : Nat} (hi : i < h.exts.n) {v : Int} {K : World → Prop} (hK : ∀ w', Held w0 l sb h w' → K w') : IdxVC h.exts.A h.exts.n 3 (i : Int) fun a => SetVC w a (.int .i64 v) K := by
  obtain ⟨lb, dt, h1, h2, H⟩ := k.h
  have e : ∀ x : List ExtR, l ++ (rowB w0.heap.size sb lb :: (rowB w0.heap.size h.data dt :: extFs w0.heap.size h.exts x)) = (l ++ [rowB w0.heap.size sb lb, rowB w0.heap.size h.data dt]) ++ extFs w0.heap.size h.exts x := fun x => by simp
  rw [e] at H
  exact ext_kind H k.x hi fun w' x' hf H' => hK w' ⟨x', hf, lb, dt, h1, h2, by rw [e]; exact H'⟩
theorem HeldX.put3 (k : HeldX w0 l sb h es w) {i : Nat} {r : ExtR} (hr : es[i]? = some r) {j : Nat} {o : OptR} (ho : r.opts[j]? = some o) :
    Calls Tryd.prog 70 #[o.v.data.val, .int .i64 at', .int .i64 by'] w fun e w' => e = .returned (.tuple #[]) ∧ ∃ es' os', es'[i]? = some ⟨r.v, os', r.data⟩ ∧ HeldX w0 l sb h es' w' := by
  obtain ⟨lb, dt, h1, h2, H⟩ := k.h
  have e : ∀ x : List ExtR, l ++ (rowB w0.heap.size sb lb :: (rowB w0.heap.size h.data dt :: extFs w0.heap.size h.exts x)) = (l ++ [rowB w0.heap.size sb lb, rowB w0.heap.size h.data dt]) ++ extFs w0.heap.size h.exts x := fun x => by simp
  rw [e, ext_split hr] at H
  refine (opt_put H (k.x.opts r (List.mem_of_getElem? hr)) ho).mono ?_
  rintro _ w' ⟨rfl, o', hf, H⟩
  exact ⟨rfl, _, o', ext_at hr _, ext_fine k.x hr hf, lb, dt, h1, h2, by rw [e, ext_join hr]; exact H⟩
theorem HeldX.kind5 (k : HeldX w0 l sb h es w) {i : Nat} {r : ExtR} (hr : es[i]? = some r) {j : Nat} (hj : j < r.v.opts.n) {v : Int} {K : World → Prop} (hK : ∀ w', Held w0 l sb h w' → K w') : IdxVC r.v.opts.A r.v.opts.n 2 (j : Int) fun a => SetVC w a (.int .i64 v) K := by
  obtain ⟨lb, dt, h1, h2, H⟩ := k.h
  have e : ∀ x : List ExtR, l ++ (rowB w0.heap.size sb lb :: (rowB w0.heap.size h.data dt :: extFs w0.heap.size h.exts x)) = (l ++ [rowB w0.heap.size sb lb, rowB w0.heap.size h.data dt]) ++ extFs w0.heap.size h.exts x := fun x => by simp
  rw [e, ext_split hr] at H
  exact opt_kind H (k.x.opts r (List.mem_of_getElem? hr)) hj fun w' o' hf H' => hK w' ⟨_, ext_fine k.x hr hf, lb, dt, h1, h2, by rw [e, ext_join hr]; exact H'⟩
end
theorem onRet_ret {A : Value → World → Prop} {Q : List PanicEntry → World → Prop} {v : Value} {w' : World} (h : A v w') : onRet A Q (.returned v) w' := h
theorem cells_get {w' : World} {a : Addr} {cs : List Value} (hc : CellsAt w' a 0 cs) (j : Nat) {v : Value} (hv : cs[j]? = some v) : w'.cell? (a.add j) = some v := by
  have := cellsAt_get hc j v hv
  rwa [Nat.zero_add] at this
theorem p_at {g o : Nat} {w' : World} {t : TypeId} {cs : List Value} (hb : Blk w' g t cs) {v : Value} (hv : cs[o]? = some v) : w'.cell? ((⟨g, 0, none⟩ : Addr).add o) = some v := cells_get (CellsAt.blk hb) o hv
def Both (gt g : Nat) (t : TurnV) (h : Ip6V) (es : List ExtR) (w' : World) : Prop := (Blk w' gt 95 t.cells ∧ Blk w' g 30 h.cells) ∧ ExtsAt w' h.exts es
section
variable {w0 : World} {gt g : Nat} {t : TurnV} {sb : Sl} {h : Ip6V} {es : List ExtR} {R : Ending → World → Prop}
theorem HeldX.both (k : HeldX w0 (pre w0 gt g t h) sb h es w) : Both gt g t h es w := ⟨⟨k.sep.blk 0 rfl, k.sep.blk 2 rfl⟩, k.exts⟩
theorem HeldX.draw {B : (World → Prop) → World → Prop} (k : HeldX w0 (pre w0 gt g t h) sb h es w) (hS : ∀ w', HeldX w0 (pre w0 gt g t h) sb h es w' → B (Both gt g t h es) w') : DrawVC w B :=
  DrawVC.of (Both gt g t h es) fun w' hE _ => ⟨(k.ext hE).both, hS w' (k.ext hE)⟩
set_option maxHeartbeats 2000000 in
theorem turned5 {i j : Nat} {r : ExtR} (k : HeldX w0 (pre w0 gt g t h) sb h es w) (hr : es[i]? = some r) (hj : j < r.v.opts.n) (hK : ∀ w', Held w0 (pre w0 gt g t h) sb h w' → R (.returned (.tuple #[])) w') :
    weirlaw7_turned_J511 R (some ⟨g, 0, none⟩) gt (i : Int) (j : Int) w := by
  unfold weirlaw7_turned_J511
  refine ⟨_, k.sep.cell 0 rfl 0 rfl, Br.dec (fun _ => ?_) fun _ => hK w ⟨es, k⟩⟩
  refine k.draw fun w1 k => ⟨⟨g, 0, none⟩, rfl, _, _, _, fun w' hb => p_at hb.1.2 rfl, ?_⟩
  refine ExtsAt.idxD (S := Both gt g t h es) k.both (fun w' h => h.2) hr fun a ha => ⟨_, _, _, fun w' h => c1 (ha w' h), _, fun w' hb => hb.1.1.cell 2, ?_⟩
  exact k.kind5 hr hj fun w' k => hK w' k
set_option maxHeartbeats 2000000 in
theorem turned35 {i : Nat} (k : HeldX w0 (pre w0 gt g t h) sb h es w) (hi : i < h.exts.n) (hK : ∀ w', Held w0 (pre w0 gt g t h) sb h w' → R (.returned (.tuple #[])) w') :
    weirlaw7_turned_J63 R (some ⟨g, 0, none⟩) gt (i : Int) w := by
  unfold weirlaw7_turned_J63
  have hkl : i < es.length := by rw [k.x.len]; exact hi
  have hr : es[i]? = some es[i] := List.getElem?_eq_getElem hkl
  have hof := k.x.opts _ (List.getElem_mem hkl)
  refine ⟨⟨g, 0, none⟩, rfl, _, _, _, p_at (k.sep.blk 2 rfl) rfl, ?_⟩
  refine ExtsAt.idxD (S := fun w' => w' = w) rfl (fun w' e => by subst e; exact k.exts) hr fun a ha => ⟨_, _, _, c1 (ha w rfl), Br.dec (fun _ => hK w ⟨es, k⟩) fun h0 => ?_⟩
  refine k.draw fun w1 k => ⟨_, fun w' hb => hb.1.1.cell 2, ⟨g, 0, none⟩, rfl, _, _, _, fun w' hb => p_at hb.1.2 rfl, ?_⟩
  refine ExtsAt.idxD (S := Both gt g t h es) k.both (fun w' h => h.2) hr fun a ha => ⟨_, _, _, fun w' h => c1 (ha w' h), ?_⟩
  refine (placed_spec (by omega) hof.small).mono ?_
  rintro _ w2 ⟨hw2, j, hj, rfl⟩
  subst w2
  refine ⟨_, rfl, k.both, ?_⟩
  refine JoinVC.of (fun _ w' => ∃ es' os', es'[i]? = some ⟨es[i].v, os', es[i].data⟩ ∧ HeldX w0 (pre w0 gt g t h) sb h es' w') ?_ ?_
  · refine ⟨_, k.sep.cell 0 rfl 0 rfl, Br.dec (fun _ => ?_) fun _ => ⟨es, _, hr, k⟩⟩
    have hjl : j < es[i].opts.length := by rw [hof.len]; exact hj
    have ho : es[i].opts[j]? = some es[i].opts[j] := List.getElem?_eq_getElem hjl
    refine k.draw fun w3 k => ⟨⟨g, 0, none⟩, rfl, _, _, _, fun w' hb => p_at hb.1.2 rfl, ?_⟩
    refine ExtsAt.idxD (S := Both gt g t h es) k.both (fun w' h => h.2) hr fun a ha => ⟨_, _, _, fun w' h => c1 (ha w' h), ?_⟩
    refine OptsAt.idxD (S := Both gt g t h es) k.both (fun w' h => h.2.opts _ (List.getElem_mem hkl)) ho fun a ha => ⟨_, _, _, fun w' h => c1 (ha w' h), _, fun w' hb => hb.1.1.cell 1, _, fun w' hb => hb.1.1.cell 2, ?_⟩
    refine (k.put3 hr ho).mono ?_
    rintro _ w4 ⟨rfl, h'⟩
    exact ⟨rfl, h'⟩
  rintro _ w5 ⟨es', os', hr', k⟩
  exact turned5 k hr' hj hK
set_option maxHeartbeats 2000000 in
theorem turned4 {i : Nat} (k : HeldX w0 (pre w0 gt g t h) sb h es w) (hi : i < h.exts.n) (hK : ∀ w', Held w0 (pre w0 gt g t h) sb h w' → R (.returned (.tuple #[])) w') :
    weirlaw7_turned_J31 R (some ⟨g, 0, none⟩) gt (i : Int) w := by
  unfold weirlaw7_turned_J31
  refine JoinVC.of (fun _ w' => Held w0 (pre w0 gt g t h) sb h w') ?_ fun _ w' ⟨es', k⟩ => turned35 k hi hK
  refine ⟨_, k.sep.cell 0 rfl 0 rfl, Br.dec (fun _ => ?_) fun _ => ⟨es, k⟩⟩
  refine k.draw fun w1 k => ⟨⟨g, 0, none⟩, rfl, _, _, _, fun w' hb => p_at hb.1.2 rfl, _, fun w' hb => hb.1.1.cell 2, ?_⟩
  exact k.kind4 hi fun w' k => k
set_option maxHeartbeats 2000000 in
theorem turned2 (k : HeldX w0 (pre w0 gt g t h) sb h es w) (hK : ∀ w', Held w0 (pre w0 gt g t h) sb h w' → R (.returned (.tuple #[])) w') :
    weirlaw7_turned_J3 R (some ⟨g, 0, none⟩) gt w := by
  unfold weirlaw7_turned_J3
  refine ⟨⟨g, 0, none⟩, rfl, _, _, _, p_at (k.sep.blk 2 rfl) rfl, Br.dec (fun h0 => hK w ⟨es, k⟩) fun h0 => ?_⟩
  have hn := k.x.small
  refine k.draw fun w1 k => ⟨_, fun w' hb => hb.1.1.cell 1, ⟨g, 0, none⟩, rfl, _, _, _, fun w' hb => p_at hb.1.2 rfl, ?_⟩
  refine (placed_spec (by omega) hn).mono ?_
  rintro _ w2 ⟨hw2, i, hi, rfl⟩
  subst w2
  refine ⟨_, rfl, k.both, ?_⟩
  refine JoinVC.of (fun _ w' => Held w0 (pre w0 gt g t h) sb h w') ?_ fun _ w' ⟨es', k⟩ => turned4 k hi hK
  refine ⟨_, k.sep.cell 0 rfl 0 rfl, Br.dec (fun _ => ?_) fun _ => ⟨es, k⟩⟩
  have hkl : i < es.length := by rw [k.x.len]; exact hi
  have hr : es[i]? = some es[i] := List.getElem?_eq_getElem hkl
  refine k.draw fun w3 k => ⟨⟨g, 0, none⟩, rfl, _, _, _, fun w' hb => p_at hb.1.2 rfl, ?_⟩
  refine ExtsAt.idxD (S := Both gt g t h es) k.both (fun w' h => h.2) hr fun a ha => ⟨_, _, _, fun w' h => c2 (ha w' h), _, fun w' hb => hb.1.1.cell 2, _, fun w' hb => hb.1.1.cell 1, ?_⟩
  refine (k.put2 hr).mono ?_
  rintro _ w4 ⟨rfl, h'⟩
  exact ⟨rfl, h'⟩
end
set_option maxHeartbeats 2000000 in
/-- Buffer and datagram, one change later. -/
theorem turned_spec {w0 : World} {g : Nat} {t : TurnV} {sb : Sl} {h : Ip6V} (k : Held w0 [Fct.rest w0 None, Fct.blk g 30 h.cells] sb h w) :
    Calls Tryd.prog 43 #[.pointer (some ⟨g, 0, none⟩), sb.val, t.val] w fun e w' => e = .returned (.tuple #[]) ∧ ∃ nx : Int, Held w0 [Fct.rest w0 None, Fct.blk g 30 ({ h with next := nx } : Ip6V).cells] sb { h with next := nx } w' := by
  refine weirlaw7_turned_of (some ⟨g, 0, none⟩) sb.A sb.n sb.k t w _ ?_
  unfold weirlaw7_turned_VC
  obtain ⟨es, k⟩ := k
  obtain ⟨lb, dt, h1, h2, H⟩ := k.h
  refine NewVC.sep H fun gt w1 H => ?_
  have k : HeldX w0 (pre w0 gt g t h) sb h es w1 := ⟨k.x, lb, dt, h1, h2, H.front⟩
  refine JoinVC.of (fun _ w' => ∃ nx : Int, Held w0 (pre w0 gt g t { h with next := nx }) sb { h with next := nx } w') ?_ fun _ w' ⟨nx, es', k⟩ => turned2 k fun w2 k => ⟨rfl, nx, ?_⟩
  · refine ⟨_, k.sep.cell 0 rfl 0 rfl, Br.dec (fun _ => ?_) fun _ => Br.dec (fun _ => ?_) fun _ => Br.dec (fun _ => ?_) fun _ => ⟨h.next, es, k⟩⟩
    · refine ⟨_, k.sep.cell 0 rfl 1 rfl, _, k.sep.cell 0 rfl 2 rfl, ?_⟩
      refine k.put0.mono ?_
      rintro _ w2 ⟨rfl, k⟩
      exact ⟨rfl, h.next, es, k⟩
    · refine k.draw fun w2 k => ⟨⟨g, 0, none⟩, rfl, _, _, _, fun w' hb => p_at hb.1.2 rfl, _, fun w' hb => hb.1.1.cell 1, _, fun w' hb => hb.1.1.cell 2, ?_⟩
      refine k.put1.mono ?_
      rintro _ w3 ⟨rfl, k⟩
      exact ⟨rfl, h.next, es, k⟩
    · refine ⟨_, k.sep.cell 0 rfl 2 rfl, ⟨g, 0, none⟩, rfl, ?_⟩
      obtain ⟨lb, dt, h1, h2, H⟩ := k.h
      refine SetVC.sep (k := 42) H 2 rfl (show 42 < 44 by decide) fun w2 H => ?_
      exact ⟨t.by', es, k.x, lb, dt, h1, h2, H⟩
  · obtain ⟨es, k⟩ := k
    obtain ⟨lb, dt, h1, h2, H⟩ := k.h
    exact ⟨es, k.x, lb, dt, h1, h2, H.tail⟩
end
end N6
end Go.Proofs.YtkiogaglmjeplaaDoor
/- Ip6Again: a buffer and a datagram, changed in place, looked at anew each time. -/
namespace Go.Proofs.YtkiogaglmjeplaaDoor
namespace N6
open Go.Eng Go.RowKit
section
variable {w : World}
set_option maxHeartbeats 4000000 in
theorem again7_loop {r : Ip6V} {sc : Sl} {g2 : Nat} {n : Int} {s : Sl} {ts : List TurnV} {w6 : World} (hsrc : Bts r.src.bytes) (hdst : Bts r.dst.bytes) (hT : TurnsAt w s ts) (hK : Kn w) (hH : Held w [Fct.rest w None, Fct.blk g2 30 r.cells] sc r w6) :
    LoopVC (S := Int) (fun s_ w7 K122 => weirlaw7_Ip6Again_L122 (fun e w' => e = .returned (.bool true) ∧ Ext w w') n s.A s.n g2 sc.A sc.n sc.k s_ w7 K122) 0 w6 := by
  have hsn := hT.small
  refine LoopVC.of (fun st w' => ∃ (i : Nat) (nx : Int), st = (i : Int) ∧ i ≤ s.n + 1 ∧ Held w [Fct.rest w None, Fct.blk g2 30 ({ r with next := nx } : Ip6V).cells] sc { r with next := nx } w') (fun st _ => ((s.n : Int) + 1 - st).toNat) ⟨0, r.next, rfl, by omega, hH⟩ ?_
  rintro _ w7 ⟨i, nx, rfl, hi, hH⟩
  unfold weirlaw7_Ip6Again_L122
  have hW := hH.sep.restOf 0 rfl
  refine Br.dec (fun hle => ?_) fun hgt => ?_
  · obtain ⟨eB, dB, lc, hAt, hBt⟩ := hH.a hsrc hdst
    have hg2 := hH.sep.blk 1 rfl
    obtain ⟨g, hgd⟩ : ∃ g : Ip6V, g = { r with next := nx } := ⟨_, rfl⟩
    rw [← hgd] at hH hAt hg2
    refine Ip6V.of g ⟨CellsAt.blk hg2, ?_⟩
    refine (clone6_spec hAt).mono ?_
    rintro _ w8 ⟨rD, rfl, hrD, hfD, H8⟩
    have hD : Ip6At w8 rD.v rD.exts rD.data := ⟨extsAt_of (b := w7.heap.size) (fun f hf => H8.mem (by simp only [List.mem_cons]; exact .inr (.inr hf))) hfD.exts, bytesAt_of (b := w7.heap.size) (H8.mem (by simp)) hfD.data, hfD.src, hfD.dst⟩
    have hDd : rD.v.d rD.exts rD.data = g.d eB dB := hrD
    have hF8 := H8.restOf 0 rfl
    refine onRet_ret (Ip6V.of rD.v ⟨rfl, NewVC.sep (Sep.start0 w8) fun g4 w9 H => Stores.sep H 1 rfl (Ip6V.one _) (Nat.le_refl _) (splice_all rfl) fun w10 H => NewVC.sep H fun g5 w11 H => ?_⟩)
    have hlc := hBt.len
    have hlcs := hBt.small
    have H := H.front
    have hg' := H.fresh 1 0 (by decide) rfl rfl
    have H := H.blkOwn 0 rfl (b := w8.heap.size) (n := 0) (c := 0) hg' rfl (Nat.le_refl _) (by decide)
    have hz11 := (H.restOf 1 rfl).size
    refine appB (m := sc.n) (xs := []) (ys := lc) H 0 rfl ((hBt.ext (hF8.trans (H.restOf 1 rfl))).cells) hlc (by omega) (by omega) fun A3 c3 w12 H hc3 => ?_
    rw [Nat.zero_add] at H ⊢
    have hC : BytesAt w12 ⟨A3, sc.n, c3⟩ lc := bytesAt_of (s := ⟨A3, sc.n, c3⟩) (b := w8.heap.size) (H.own 0 rfl) ⟨hlcs, hBt.bts⟩
    have hE12 := hF8.trans (H.restOf 1 rfl)
    have hD := hD.ext (H.restOf 1 rfl)
    have hg4 := H.blk 2 rfl
    refine Ip6V.of g ⟨CellsAt.blk (hg2.ext hE12), NewVC.sep (Sep.start0 w12) fun g6 w13 H => ?_⟩
    refine Stores.sep H 1 rfl (Op7V.one ⟨0, sc, g, n⟩) (Nat.le_refl _) (splice_all rfl) fun w14 H => ?_
    obtain ⟨o, ho⟩ : ∃ o : Op7V, o = ⟨0, sc, g, n⟩ := ⟨_, rfl⟩
    refine LoopVC.of (fun st w' => ∃ (k : Nat) (kk : Int), st = (k : Int) ∧ k ≤ 9 ∧ Sep [Fct.rest w12 None, Fct.blk g6 90 ({ o with kind := kk } : Op7V).cells] w') (fun st _ => (9 - st).toNat) ⟨1, 0, rfl, by omega, by rw [ho]; exact H⟩ ?_
    rintro _ w15 ⟨k, kk, rfl, hk, H⟩
    unfold weirlaw7_Ip6Again_L125242
    refine Br.dec (fun hk8 => ?_) fun hk9 => ?_
    · refine SetVC.sep H 1 rfl (show 0 < 47 by decide) fun w16 H => ?_
      obtain ⟨p, hp⟩ : ∃ p : Op7V, p = { o with kind := (k : Int) } := ⟨_, rfl⟩
      have H : Sep [Fct.rest w12 None, Fct.blk g6 90 p.cells] w16 := by rw [hp]; exact H
      have hP : ∀ {w'}, Ext w12 w' → Op7At w' p lc eB dB := fun hE => by
        rw [hp, ho]; exact ⟨hBt.ext (hE12.trans hE), hAt.ext (hE12.trans hE)⟩
      have hK' : ∀ {w'}, Ext w12 w' → Kn w' := fun hE => hK.ext (hW.trans (hE12.trans hE))
      refine JoinVC.of (fun st w' => st = true ∧ Sep [Fct.rest w12 None, Fct.blk g6 90 p.cells] w') ?_ ?_
      · refine JoinVC.of (fun _ w' => w' = w16) (Br.dec (fun _ => rfl) fun _ => Br.dec (fun _ => rfl) fun _ => rfl) ?_
        rintro b w17 hw17
        subst w17
        unfold weirlaw7_Ip6Again_J64124058
        cases b with
        | true =>
          refine Br.t rfl (Op7V.of p ⟨H.at 1 rfl, ?_⟩)
          refine (ofBytes_spec (hP (H.restOf 0 rfl)) (hK' (H.restOf 0 rfl))).mono ?_
          rintro _ w18 ⟨hE18, rfl⟩
          exact ⟨_, rfl, rfl, H.ext hE18⟩
        | false =>
          refine Br.f rfl ?_
          refine JoinVC.of (fun _ w' => w' = w16) (Br.dec (fun _ => rfl) fun _ => Br.dec (fun _ => rfl) fun _ => Br.dec (fun _ => rfl) fun _ => rfl) ?_
          rintro b w19 hw19
          subst w19
          unfold weirlaw7_Ip6Again_J256496235
          cases b with
          | true =>
            refine Br.t rfl (Op7V.of p ⟨H.at 1 rfl, ?_⟩)
            refine (ofValues_spec (hP (H.restOf 0 rfl)) (hK' (H.restOf 0 rfl))).mono ?_
            rintro _ w20 ⟨hE20, rfl⟩
            exact ⟨_, rfl, rfl, H.ext hE20⟩
          | false => exact Br.f rfl ⟨rfl, H⟩
      rintro _ w21 ⟨rfl, H⟩
      unfold weirlaw7_Ip6Again_J8015507
      have hE21 := H.restOf 0 rfl
      refine Br.f rfl (Ip6V.of g ⟨CellsAt.blk (hg2.ext (hE12.trans hE21)), Ip6V.of rD.v ⟨CellsAt.blk (hg4.ext hE21), ?_⟩⟩)
      refine (same6_spec (hAt.ext (hE12.trans hE21)) (hD.ext hE21)).mono ?_
      rintro _ w22 ⟨x, rfl, hx, hE22⟩
      have hxt := hx.2 hDd.symm
      subst hxt
      have H := H.ext hE22
      refine ⟨_, rfl, Br.f rfl ?_⟩
      refine (alike7_spec (s := sc) (t := ⟨A3, sc.n, c3⟩) (hBt.ext (hE12.trans (H.restOf 0 rfl))) (hC.ext (H.restOf 0 rfl))).mono ?_
      rintro _ w23 ⟨hw23, rfl⟩
      subst w23
      rw [decide_eq_true rfl]
      refine ⟨_, rfl, Br.f rfl ?_⟩
      rw [w64 (by omega) (by omega)]
      exact ⟨⟨k + 1, k, by omega, by omega, by rw [hp] at H; exact H⟩, by omega⟩
    · have hE15 := H.restOf 0 rfl
      have hH := hH.ext (hE12.trans hE15)
      refine Br.dec (fun hlt => ?_) fun hge => ?_
      · refine (hT.ext (hW.trans (hE12.trans hE15))).idx (i := i) (by omega) fun a t ht => TurnV.of t ⟨ht, ?_⟩
        refine (turned_spec hH).mono ?_
        rintro _ w24 ⟨rfl, nx', hH⟩
        refine ⟨rfl, ?_⟩
        rw [w64 (by omega) (by omega)]
        exact ⟨⟨i + 1, nx', by omega, by omega, by rw [hgd] at hH; exact hH⟩, by omega⟩
      · rw [w64 (by omega) (by omega)]
        exact ⟨⟨i + 1, nx, by omega, by omega, by rw [hgd] at hH; exact hH⟩, by omega⟩
  · refine (started7_spec (hK.ext hW)).mono ?_
    rintro _ w25 ⟨hE25, rfl⟩
    exact ⟨_, rfl, rfl, hW.trans hE25⟩
set_option maxHeartbeats 4000000 in
theorem again7_law {h : Ip6V} {es : List ExtR} {dt : List Int} {sb : Sl} {lb : List Int} {n : Int} {s : Sl} {ts : List TurnV} (hA : Ip6At w h es dt) (hB : BytesAt w sb lb) (hT : TurnsAt w s ts) (hK : Kn w) :
    Calls Tryd.prog 12 #[h.val, sb.val, .int .i64 n, s.val] w fun e w' => e = .returned (.bool true) ∧ Ext w w' := by
  refine weirlaw7_Ip6Again_of h sb.A sb.n sb.k n s.A s.n s.k w _ ?_
  unfold weirlaw7_Ip6Again_VC
  have hsn := hT.small
  have hbl := hB.len
  have hbs := hB.small
  refine NewVC.sep (Sep.start0 w) fun g1 w1 H => Ip6V.of h ⟨H.at 1 rfl, ?_⟩
  refine (clone6_spec (hA.ext (H.restOf 0 rfl))).mono ?_
  rintro _ w2 ⟨rB, rfl, hrB, hfB, H2⟩
  have hz1 := (H.restOf 0 rfl).size
  have H2 := (AllLe.append (AllLe.refl [Fct.rest w1 None]) (AllLe.cons (own_less hz1).1 (own_less hz1).2 (extFs_less hz1))).sep H2
  have H := H.mades H2
  refine onRet_ret (Ip6V.of rB.v ⟨rfl, NewVC.sep H fun g2 w3 H => ?_⟩)
  have H := H.front
  refine Stores.sep H 0 rfl (Ip6V.one _) (Nat.le_refl _) (splice_all rfl) fun w4 H => NewVC.sep H fun g3 w5 H => ?_
  have H := H.front
  have hz5 := (H.restOf 2 rfl).size
  have hg := H.fresh 2 0 (by decide) rfl rfl
  have H := H.blkOwn 0 rfl (b := w.heap.size) (n := 0) (c := 0) hg rfl (Nat.le_refl _) (by decide)
  refine appB (m := sb.n) (xs := []) (ys := lb) H 0 rfl ((hB.ext (H.restOf 2 rfl)).cells) hbl (by omega) (by omega) fun A2 c2 w6 H hc2 => ?_
  rw [Nat.zero_add] at H ⊢
  obtain ⟨sc, hsc⟩ : ∃ sc : Sl, sc = ⟨A2, sb.n, c2⟩ := ⟨_, rfl⟩
  have hH : Held w [Fct.rest w None, Fct.blk g2 30 rB.v.cells] sc rB.v w6 := by
    refine ⟨rB.exts, hfB.exts, lb, rB.data, ⟨by rw [hsc]; exact hbs, hB.bts⟩, hfB.data, ?_⟩
    have H := H.sub (Γ' := rowB w.heap.size sc lb :: Fct.blk g2 30 rB.v.cells :: Fct.rest w None :: (rowB w.heap.size rB.v.data rB.data :: extFs w.heap.size rB.v.exts rB.exts)) (by
      rw [hsc]
      exact .cons_cons _ (.cons_cons _ (.cons_cons _ (.cons _ (List.Sublist.refl _)))))
    refine H.perm ?_
    exact (List.Perm.cons _ (.swap _ _ _)).trans ((List.Perm.swap _ _ _).trans (.cons _ (.swap _ _ _)))
  exact again7_loop (sc := ⟨A2, sb.n, c2⟩) hfB.src hfB.dst hT hK (by rw [← hsc]; exact hH)
end
end N6
end Go.Proofs.YtkiogaglmjeplaaDoor
