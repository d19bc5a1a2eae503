/- WRITTEN BY a program of this session (vc.py): for each Go function the condition that is enough for its contract, and the theorem that it is. -/
import Derived.Test.YthhgbpmihhljdaaGreatDoorProg
import Derived.Test.YthhgbpmihhljdaaGreatDoorBae
import Derived.Test.YthhgbpmihhljdaaGreatDoorBam
import Derived.Test.YthhgbpmihhljdaaGreatDoorBag
namespace Go.Proofs.YthhgbpmihhljdaaGreatDoor
open Go.Eng
namespace N6

set_option maxRecDepth 100000 in
def reasm_joined_VC (h : Ip6V) (dataA : Option Addr) (datan : Nat) (datac : Nat) (w : World) (R : Ending → World → Prop) : Prop :=
  NewVC w (.cells h.cells.toArray 30) fun g1 w1 =>
  NewVC w1 (.cells (Ip6V.z : Ip6V).cells.toArray 30) fun g2 w2 =>
  ∃ x : Int, w2.cell? ⟨g1, 42, none⟩ = some (.int .i64 x) ∧
  Calls Tryz.prog 54 #[.int .i64 x, .slice dataA datan datac] w2 (onRet (fun r_ w3 => ∃ (x0A : Option Addr) (x0n x0c : Nat), ∃ x1 : Int, ∃ (x2A : Option Addr) (x2n x2c : Nat), ∃ x3 : Int, r_ = .tuple #[.slice x0A x0n x0c, .int .i64 x1, .slice x2A x2n x2c, .int .i64 x3] ∧
  Br (decide (x3 ≠ 0))
    (Stores ⟨g2, 0, none⟩ 0 (Ip6V.z : Ip6V).cells w3 fun w4 =>
    Ip6V.ex fun res => CellsAt w4 ⟨g2, 0, none⟩ 0 res.cells ∧
  R (.returned (.tuple #[res.val, .bool false])) w4)
    (∃ (xA : Option Addr) (xn xc : Nat), w3.cell? ⟨g1, 37, none⟩ = some (.slice xA xn xc) ∧
  ∃ (xA1 : Option Addr) (xn1 xc1 : Nat), w3.cell? ⟨g1, 37, none⟩ = some (.slice xA1 xn1 xc1) ∧
  ∃ (xA2 : Option Addr) (xn2 xc2 : Nat), w3.cell? ⟨g1, 37, none⟩ = some (.slice xA2 xn2 xc2) ∧
  SliceVC xA xn xc 3 none (some (xn1 : Int)) (some (xn2 : Int)) fun sA sn sc =>
  AppVC Tryz.prog #[25, 25] 25 (.slice sA sn sc) (.slice x0A x0n x0c) w3 fun lA ln lc w5 =>
  SetVC w5 ⟨g1, 37, none⟩ (.slice lA ln lc) fun w6 =>
  Stores ⟨g1, 38, none⟩ 0 (FragV.z : FragV).cells w6 fun w7 =>
  SetVC w7 ⟨g1, 42, none⟩ (.int .i64 x1) fun w8 =>
  SetVC w8 ⟨g1, 43, none⟩ (.slice x2A x2n x2c) fun w9 =>
  DrawVC w9 fun S1 w10 =>
  Ip6V.ex fun h1 => (∀ w' : World, S1 w' → CellsAt w' ⟨g1, 0, none⟩ 0 h1.cells) ∧
  Ip6V.ex fun h2 => (∀ w' : World, S1 w' → CellsAt w' ⟨g1, 0, none⟩ 0 h2.cells) ∧
  Calls Tryz.prog 19 #[h2.val] w10 (onRet (fun r_1 w11 => ∃ x2 : Int, r_1 = .int .i64 x2 ∧
  S1 w11 ∧
  Stores ⟨g2, 0, none⟩ 0 h1.cells w11 fun w12 =>
  S1 w12 ∧
  Ip6V.ex fun res1 => CellsAt w12 ⟨g2, 0, none⟩ 0 res1.cells ∧
  R (.returned (.tuple #[res1.val, .bool (decide (x2 = 0))])) w12)
    (fun _ _ => False))))
    (fun ch w3 => R (.panicked ch) w3))
def reasm_joined_H : Hints := []
set_option maxRecDepth 100000 in
theorem reasm_joined_of (h : Ip6V) (dataA : Option Addr) (datan : Nat) (datac : Nat) (w : World) (R : Ending → World → Prop) (hvc_ : reasm_joined_VC h dataA datan datac w R) :
    Calls Tryz.prog 27 #[h.val, .slice dataA datan datac] w R :=
  calls_of_wpc callOk mixedOk (H := reasm_joined_H) (args := [h.val, .slice dataA datan datac]) (fn := Tryz.f27) (c := bodyOf Tryz.f27) Tryz.func27 rfl (Nat.le_of_ble_eq_true rfl)
    (Eq.mp (by kernel_rfl : reasm_joined_VC h dataA datan datac w R = wpc Tryz.prog callF Tryz.f27.ntmps reasm_joined_H 1 (bodyOf Tryz.f27) (argEnv 0 [h.val, .slice dataA datan datac]) [] w (finish Tryz.prog callF Tryz.f27.results.toList R)) hvc_)

set_option maxRecDepth 100000 in
def reasm_Table_Offer6_J16382 (g1 : Nat) (g7 : Nat) (J8191 : (Unit → World → Prop)) (t147_ : Bool) (w32 : World) : Prop :=
  Br t147_
    (DrawVC w32 fun S3 w33 =>
    ∃ x21 : Option Addr, (∀ w' : World, S3 w' → w'.cell? ⟨g7, 0, none⟩ = some (.pointer x21)) ∧
    ∃ x22 : Option Addr, (∀ w' : World, S3 w' → w'.cell? ⟨g7, 0, none⟩ = some (.pointer x22)) ∧
    Ip6V.ex fun h14 => (∀ w' : World, S3 w' → CellsAt w' ⟨g1, 0, none⟩ 0 h14.cells) ∧
    Calls Tryz.prog 26 #[h14.val] w33 (onRet (fun r_7 w34 => Ip6V.ex fun h15 => r_7 = h15.val ∧
    S3 w34 ∧
    NilVC x21 fun p4 =>
    SetVC w34 (p4.add 42) (.bool true) fun w35 =>
    S3 w35 ∧
    NilVC x22 fun p5 =>
    Stores (p5.add 86) 0 h15.cells w35 fun w36 =>
    J8191 () w36)
      (fun _ _ => False)))
    (J8191 () w32)
set_option maxRecDepth 100000 in
def reasm_Table_Offer6_J8191 (R : Ending → World → Prop) (g2 : Nat) (x1 : Int) (g7 : Nat)  (w37 : World) : Prop :=
  ∃ x23 : Option Addr, w37.cell? ⟨g7, 0, none⟩ = some (.pointer x23) ∧
  NilVC x23 fun p6 =>
  ∃ x24 : Option Addr, w37.cell? (p6.add 40) = some (.pointer x24) ∧
  Calls Tryz.prog 32 #[.pointer x24] w37 (onRet (fun r_8 w38 => ∃ (x0A : Option Addr) (x0n x0c : Nat), ∃ x110 : Bool, r_8 = .tuple #[.slice x0A x0n x0c, .bool x110] ∧
  Br (!x110)
    (Stores ⟨g2, 0, none⟩ 0 (Ip6V.z : Ip6V).cells w38 fun w39 =>
    Ip6V.ex fun res6 => CellsAt w39 ⟨g2, 0, none⟩ 0 res6.cells ∧
  R (.returned (.tuple #[res6.val, .int .i64 0, .int .i64 2, .int .i64 0])) w39)
    (∃ x25 : Option Addr, w38.cell? ⟨g7, 0, none⟩ = some (.pointer x25) ∧
  NilVC x25 fun p7 =>
  Ip6V.ex fun h16 => CellsAt w38 (p7.add 86) 0 h16.cells ∧
  Calls Tryz.prog 27 #[h16.val, .slice x0A x0n x0c] w38 (onRet (fun r_9 w40 => Ip6V.ex fun h17 => ∃ x111 : Bool, r_9 = .tuple #[h17.val, .bool x111] ∧
  NewVC w40 (.cells (Ip6V.z : Ip6V).cells.toArray 30) fun g8 w41 =>
  Stores ⟨g8, 0, none⟩ 0 h17.cells w41 fun w42 =>
  Br (!x111)
    (DrawVC w42 fun S4 w43 =>
    ∃ x26 : Option Addr, (∀ w' : World, S4 w' → w'.cell? ⟨g7, 0, none⟩ = some (.pointer x26)) ∧
    ∃ x27 : Option Addr, (∀ w' : World, S4 w' → w'.cell? ⟨g7, 0, none⟩ = some (.pointer x27)) ∧
    NilVC x27 fun p8 =>
    ∃ x28 : Int, (∀ w' : World, S4 w' → w'.cell? (p8.add 41) = some (.int .i64 x28)) ∧
    Calls Tryz.prog 30 #[.pointer x26, .int .i64 126, .int .i64 (IntKind.i64.wrap (x28 - 1))] w43 (onRet (fun r_10 w44 => r_10 = .tuple #[] ∧
    Stores ⟨g2, 0, none⟩ 0 (Ip6V.z : Ip6V).cells w44 fun w45 =>
    Ip6V.ex fun res7 => CellsAt w45 ⟨g2, 0, none⟩ 0 res7.cells ∧
  R (.returned (.tuple #[res7.val, .int .i64 0, .int .i64 0, .int .i64 126])) w45)
      (fun _ _ => False)))
    (∃ x29 : Option Addr, w42.cell? ⟨g7, 0, none⟩ = some (.pointer x29) ∧
  Calls Tryz.prog 33 #[.pointer x29] w42 (onRet (fun r_11 w46 => r_11 = .tuple #[] ∧
  Ip6V.ex fun h18 => CellsAt w46 ⟨g8, 0, none⟩ 0 h18.cells ∧
  Stores ⟨g2, 0, none⟩ 0 h18.cells w46 fun w47 =>
  Ip6V.ex fun res8 => CellsAt w47 ⟨g2, 0, none⟩ 0 res8.cells ∧
  R (.returned (.tuple #[res8.val, .int .i64 x1, .int .i64 1, .int .i64 0])) w47)
    (fun ch11 w46 => R (.panicked ch11) w46))))
    (fun ch9 w40 => R (.panicked ch9) w40))))
    (fun ch8 w38 => R (.panicked ch8) w38))
set_option maxRecDepth 100000 in
def reasm_Table_Offer6_J2047 (R : Ending → World → Prop) (g1 : Nat) (g2 : Nat) (x1 : Int) (g7 : Nat) (e_ : Int) (w30 : World) : Prop :=
  Br (decide (e_ ≠ 0))
    (Stores ⟨g2, 0, none⟩ 0 (Ip6V.z : Ip6V).cells w30 fun w31 =>
    Ip6V.ex fun res5 => CellsAt w31 ⟨g2, 0, none⟩ 0 res5.cells ∧
  R (.returned (.tuple #[res5.val, .int .i64 0, .int .i64 0, .int .i64 e_])) w31)
    (JoinVC (S := Unit) (fun J8191 =>
      JoinVC (S := Bool) (fun J16382 =>
          ∃ x18 : Int, w30.cell? ⟨g1, 41, none⟩ = some (.int .i64 x18) ∧
          Br (decide (x18 = 0))
            (∃ x19 : Option Addr, w30.cell? ⟨g7, 0, none⟩ = some (.pointer x19) ∧
            NilVC x19 fun p3 =>
            ∃ x20 : Bool, w30.cell? (p3.add 42) = some (.bool x20) ∧
            J16382 (!x20) w30)
            (J16382 false w30))
        (fun s_ w32 => reasm_Table_Offer6_J16382 g1 g7 J8191 s_ w32))
    (fun _ w37 => reasm_Table_Offer6_J8191 R g2 x1 g7 w37))
set_option maxRecDepth 100000 in
def reasm_Table_Offer6_J255 (R : Ending → World → Prop) (t : Option Addr) (g1 : Nat) (g2 : Nat) (x1 : Int) (g6 : Nat) (c : Option Addr) (why : Int) (w21 : World) : Prop :=
  Calls Tryz.prog 28 #[.pointer c, .int .i64 125, .int .i64 why] w21 (onRet (fun r_3 w22 => ∃ x7 : Int, r_3 = .int .i64 x7 ∧
  Br (decide (x7 ≠ 0))
    (Stores ⟨g2, 0, none⟩ 0 (Ip6V.z : Ip6V).cells w22 fun w23 =>
    Ip6V.ex fun res4 => CellsAt w23 ⟨g2, 0, none⟩ 0 res4.cells ∧
  R (.returned (.tuple #[res4.val, .int .i64 0, .int .i64 0, .int .i64 x7])) w23)
    (KeyV.ex fun h11 => CellsAt w22 ⟨g6, 0, none⟩ 0 h11.cells ∧
  ∃ x8 : Int, w22.cell? ⟨g1, 41, none⟩ = some (.int .i64 x8) ∧
  ∃ (xA3 : Option Addr) (xn3 xc3 : Nat), w22.cell? ⟨g1, 43, none⟩ = some (.slice xA3 xn3 xc3) ∧
  ∃ x9 : Bool, w22.cell? ⟨g1, 39, none⟩ = some (.bool x9) ∧
  Calls Tryz.prog 29 #[.pointer t, h11.val, .int .i64 65495, .int .i64 x8, .slice xA3 xn3 xc3, .bool x9] w22 (onRet (fun r_4 w24 => LaidV.ex fun h12 => ∃ x12 : Int, r_4 = .tuple #[h12.val, .int .i64 x12] ∧
  NewVC w24 (.cells (LaidV.z : LaidV).cells.toArray 86) fun g7 w25 =>
  Stores ⟨g7, 0, none⟩ 0 h12.cells w25 fun w26 =>
  JoinVC (S := Int) (fun J2047 =>
      Br (decide (x12 ≠ 0))
        (J2047 x12 w26)
        (∃ x10 : Bool, w26.cell? ⟨g7, 4, none⟩ = some (.bool x10) ∧
        Br x10
          (J2047 121 w26)
          (∃ x13 : Int, w26.cell? ⟨g7, 3, none⟩ = some (.int .i64 x13) ∧
          Br (decide ((0 : Int) < x13))
            (DrawVC w26 fun S2 w27 =>
            ∃ x14 : Option Addr, (∀ w' : World, S2 w' → w'.cell? ⟨g7, 0, none⟩ = some (.pointer x14)) ∧
            ∃ x15 : Option Addr, (∀ w' : World, S2 w' → w'.cell? ⟨g7, 0, none⟩ = some (.pointer x15)) ∧
            NilVC x15 fun p2 =>
            ∃ x16 : Int, (∀ w' : World, S2 w' → w'.cell? (p2.add 41) = some (.int .i64 x16)) ∧
            Calls Tryz.prog 30 #[.pointer x14, .int .i64 122, .int .i64 x16] w27 (onRet (fun r_5 w28 => r_5 = .tuple #[] ∧
            J2047 122 w28)
              (fun _ _ => False)))
            (LaidV.ex fun h13 => CellsAt w26 ⟨g7, 0, none⟩ 0 h13.cells ∧
            Calls Tryz.prog 31 #[.pointer t, h13.val] w26 (onRet (fun r_6 w29 => ∃ x17 : Int, r_6 = .int .i64 x17 ∧
            J2047 x17 w29)
              (fun ch6 w29 => R (.panicked ch6) w29))))))
    (fun s_ w30 => reasm_Table_Offer6_J2047 R g1 g2 x1 g7 s_ w30))
    (fun ch4 w24 => R (.panicked ch4) w24))))
    (fun ch3 w22 => R (.panicked ch3) w22))
set_option maxRecDepth 100000 in
def reasm_Table_Offer6_J243 (R : Ending → World → Prop) (t : Option Addr) (g1 : Nat) (g2 : Nat) (x1 : Int) (t39_ : Bool) (w6 : World) : Prop :=
  Br t39_
    (∃ (xA : Option Addr) (xn xc : Nat), w6.cell? ⟨g1, 37, none⟩ = some (.slice xA xn xc) ∧
    Calls Tryz.prog 26 #[(⟨0, 0, 0, (IPV.z : IPV), (IPV.z : IPV), ⟨xA, xn, xc⟩, (FragV.z : FragV), 0, ⟨none, 0, 0⟩⟩ : Ip6V).val] w6 (onRet (fun r_1 w7 => Ip6V.ex fun h3 => r_1 = h3.val ∧
    NewVC w7 (.cells (Ip6V.z : Ip6V).cells.toArray 30) fun g3 w8 =>
    Stores ⟨g3, 0, none⟩ 0 h3.cells w8 fun w9 =>
    Ip6V.ex fun h4 => CellsAt w9 ⟨g1, 0, none⟩ 0 h4.cells ∧
    NewVC w9 (.cells (Ip6V.z : Ip6V).cells.toArray 30) fun g4 w10 =>
    Stores ⟨g4, 0, none⟩ 0 h4.cells w10 fun w11 =>
    ∃ (xA1 : Option Addr) (xn1 xc1 : Nat), w11.cell? ⟨g3, 37, none⟩ = some (.slice xA1 xn1 xc1) ∧
    SetVC w11 ⟨g4, 37, none⟩ (.slice xA1 xn1 xc1) fun w12 =>
    Ip6V.ex fun h5 => CellsAt w12 ⟨g4, 0, none⟩ 0 h5.cells ∧
    ∃ (xA2 : Option Addr) (xn2 xc2 : Nat), w12.cell? ⟨g1, 43, none⟩ = some (.slice xA2 xn2 xc2) ∧
    Calls Tryz.prog 27 #[h5.val, .slice xA2 xn2 xc2] w12 (onRet (fun r_2 w13 => Ip6V.ex fun h6 => ∃ x11 : Bool, r_2 = .tuple #[h6.val, .bool x11] ∧
    NewVC w13 (.cells (Ip6V.z : Ip6V).cells.toArray 30) fun g5 w14 =>
    Stores ⟨g5, 0, none⟩ 0 h6.cells w14 fun w15 =>
    Br (!x11)
      (Stores ⟨g2, 0, none⟩ 0 (Ip6V.z : Ip6V).cells w15 fun w16 =>
      Ip6V.ex fun res2 => CellsAt w16 ⟨g2, 0, none⟩ 0 res2.cells ∧
  R (.returned (.tuple #[res2.val, .int .i64 0, .int .i64 0, .int .i64 126])) w16)
      (Ip6V.ex fun h7 => CellsAt w15 ⟨g5, 0, none⟩ 0 h7.cells ∧
    Stores ⟨g2, 0, none⟩ 0 h7.cells w15 fun w17 =>
    Ip6V.ex fun res3 => CellsAt w17 ⟨g2, 0, none⟩ 0 res3.cells ∧
  R (.returned (.tuple #[res3.val, .int .i64 x1, .int .i64 1, .int .i64 0])) w17))
      (fun ch2 w13 => R (.panicked ch2) w13)))
      (fun ch1 w7 => R (.panicked ch1) w7)))
    (IPV.ex fun h8 => CellsAt w6 ⟨g1, 3, none⟩ 0 h8.cells ∧
  IPV.ex fun h9 => CellsAt w6 ⟨g1, 20, none⟩ 0 h9.cells ∧
  NewVC w6 (.cells (KeyV.z : KeyV).cells.toArray 75) fun g6 w18 =>
  Stores ⟨g6, 0, none⟩ 0 (⟨h8, h9, (-1), x1⟩ : KeyV).cells w18 fun w19 =>
  DrawVC w19 fun S1 w20 =>
  NilVC t fun p =>
  ∃ x5 : Option Nat, (∀ w' : World, S1 w' → w'.cell? (p.add 3) = some (.map x5)) ∧
  KeyV.ex fun h10 => (∀ w' : World, S1 w' → CellsAt w' ⟨g6, 0, none⟩ 0 h10.cells) ∧
  ∃ c : Option Addr, (∀ w' : World, S1 w' → (Instr.lookup 69 (.map x5) (h10.val) false).run Tryz.prog w' = .ok (.pointer c) w') ∧
  JoinVC (S := Int) (fun J255 =>
      Br (!(c.isNone))
        (NilVC c fun p1 =>
        ∃ x6 : Int, w20.cell? (p1.add 39) = some (.int .i64 x6) ∧
        J255 x6 w20)
        (J255 126 w20))
    (fun s_ w21 => reasm_Table_Offer6_J255 R t g1 g2 x1 g6 c s_ w21))
set_option maxRecDepth 100000 in
def reasm_Table_Offer6_VC (t : Option Addr) (h : Ip6V) (w : World) (R : Ending → World → Prop) : Prop :=
  NewVC w (.cells h.cells.toArray 30) fun g1 w1 =>
  NewVC w1 (.cells (Ip6V.z : Ip6V).cells.toArray 30) fun g2 w2 =>
  Ip6V.ex fun h1 => CellsAt w2 ⟨g1, 0, none⟩ 0 h1.cells ∧
  Calls Tryz.prog 19 #[h1.val] w2 (onRet (fun r_ w3 => ∃ x : Int, r_ = .int .i64 x ∧
  Br (decide (x ≠ 0))
    (Stores ⟨g2, 0, none⟩ 0 (Ip6V.z : Ip6V).cells w3 fun w4 =>
    Ip6V.ex fun res => CellsAt w4 ⟨g2, 0, none⟩ 0 res.cells ∧
  R (.returned (.tuple #[res.val, .int .i64 0, .int .i64 0, .int .i64 x])) w4)
    (∃ x1 : Int, w3.cell? ⟨g1, 40, none⟩ = some (.int .i64 x1) ∧
  ∃ x2 : Bool, w3.cell? ⟨g1, 38, none⟩ = some (.bool x2) ∧
  Br (!x2)
    (Ip6V.ex fun h2 => CellsAt w3 ⟨g1, 0, none⟩ 0 h2.cells ∧
    Stores ⟨g2, 0, none⟩ 0 h2.cells w3 fun w5 =>
    Ip6V.ex fun res1 => CellsAt w5 ⟨g2, 0, none⟩ 0 res1.cells ∧
  R (.returned (.tuple #[res1.val, .int .i64 0, .int .i64 1, .int .i64 0])) w5)
    (JoinVC (S := Bool) (fun J243 =>
        ∃ x3 : Int, w3.cell? ⟨g1, 41, none⟩ = some (.int .i64 x3) ∧
        Br (decide (x3 = 0))
          (∃ x4 : Bool, w3.cell? ⟨g1, 39, none⟩ = some (.bool x4) ∧
          J243 (!x4) w3)
          (J243 false w3))
      (fun s_ w6 => reasm_Table_Offer6_J243 R t g1 g2 x1 s_ w6))))
    (fun ch w3 => R (.panicked ch) w3))
def reasm_Table_Offer6_H : Hints := [(243, [(39, .bool)]), (255, [(16, .int .i64)]), (2047, [(19, .int .i64)]), (16382, [(147, .bool)]), (8191, [])]
set_option maxRecDepth 100000 in
theorem reasm_Table_Offer6_of (t : Option Addr) (h : Ip6V) (w : World) (R : Ending → World → Prop) (hvc_ : reasm_Table_Offer6_VC t h w R) :
    Calls Tryz.prog 8 #[.pointer t, h.val] w R :=
  calls_of_wpc callOk mixedOk (H := reasm_Table_Offer6_H) (args := [.pointer t, h.val]) (fn := Tryz.f8) (c := bodyOf Tryz.f8) Tryz.func8 rfl (Nat.le_of_ble_eq_true rfl)
    (Eq.mp (by kernel_rfl : reasm_Table_Offer6_VC t h w R = wpc Tryz.prog callF Tryz.f8.ntmps reasm_Table_Offer6_H 1 (bodyOf Tryz.f8) (argEnv 0 [.pointer t, h.val]) [] w (finish Tryz.prog callF Tryz.f8.results.toList R)) hvc_)

set_option maxRecDepth 100000 in
def reasm_Table_Finished_VC (t : Option Addr) (w : World) (R : Ending → World → Prop) : Prop :=
  Calls Tryz.prog 38 #[.pointer t, .int .i64 1] w (onRet (fun r_ w1 => ∃ (xA : Option Addr) (xn xc : Nat), r_ = .slice xA xn xc ∧
  R (.returned (.int .i64 (xn : Int))) w1)
    (fun ch w1 => R (.panicked ch) w1))
def reasm_Table_Finished_H : Hints := []
set_option maxRecDepth 100000 in
theorem reasm_Table_Finished_of (t : Option Addr) (w : World) (R : Ending → World → Prop) (hvc_ : reasm_Table_Finished_VC t w R) :
    Calls Tryz.prog 12 #[.pointer t] w R :=
  calls_of_wpc callOk mixedOk (H := reasm_Table_Finished_H) (args := [.pointer t]) (fn := Tryz.f12) (c := bodyOf Tryz.f12) Tryz.func12 rfl (Nat.le_of_ble_eq_true rfl)
    (Eq.mp (by kernel_rfl : reasm_Table_Finished_VC t w R = wpc Tryz.prog callF Tryz.f12.ntmps reasm_Table_Finished_H 1 (bodyOf Tryz.f12) (argEnv 0 [.pointer t]) [] w (finish Tryz.prog callF Tryz.f12.results.toList R)) hvc_)
end N6
end Go.Proofs.YthhgbpmihhljdaaGreatDoor
/- WRITTEN BY a program of this session (vc.py): for each Go function the condition that is enough for its contract, and the theorem that it is. -/
namespace Go.Proofs.YthhgbpmihhljdaaGreatDoor
open Go.Eng
namespace N6

set_option maxRecDepth 100000 in
def weirtop_sameBytes_VC (aA : Option Addr) (an : Nat) (ac : Nat) (bA : Option Addr) (bn : Nat) (bc : Nat) (w : World) (R : Ending → World → Prop) : Prop :=
  StrVC Tryz.prog (.slice aA an ac) w fun str =>
  StrVC Tryz.prog (.slice bA bn bc) w fun str1 =>
  R (.returned (.bool (str.toList == str1.toList))) w
def weirtop_sameBytes_H : Hints := []
set_option maxRecDepth 100000 in
theorem weirtop_sameBytes_of (aA : Option Addr) (an : Nat) (ac : Nat) (bA : Option Addr) (bn : Nat) (bc : Nat) (w : World) (R : Ending → World → Prop) (hvc_ : weirtop_sameBytes_VC aA an ac bA bn bc w R) :
    Calls Tryz.prog 34 #[.slice aA an ac, .slice bA bn bc] w R :=
  calls_of_wpc callOk mixedOk (H := weirtop_sameBytes_H) (args := [.slice aA an ac, .slice bA bn bc]) (fn := Tryz.f34) (c := bodyOf Tryz.f34) Tryz.func34 rfl (Nat.le_of_ble_eq_true rfl)
    (Eq.mp (by kernel_rfl : weirtop_sameBytes_VC aA an ac bA bn bc w R = wpc Tryz.prog callF Tryz.f34.ntmps weirtop_sameBytes_H 1 (bodyOf Tryz.f34) (argEnv 0 [.slice aA an ac, .slice bA bn bc]) [] w (finish Tryz.prog callF Tryz.f34.results.toList R)) hvc_)

set_option maxRecDepth 100000 in
def weirtop_sameOpts_L58 (R : Ending → World → Prop) (aA : Option Addr) (an : Nat) (bA : Option Addr) (bn : Nat) (i : Int) (w1 : World) (K58 : (Int → World → Prop)) : Prop :=
  Br (decide (i < (an : Int)))
    (DrawVC w1 fun S1 w2 =>
  IdxVC aA an 2 i fun a =>
  ∃ x : Int, (∀ w' : World, S1 w' → w'.cell? a = some (.int .i64 x)) ∧
  IdxVC bA bn 2 i fun a1 =>
  ∃ x1 : Int, (∀ w' : World, S1 w' → w'.cell? a1 = some (.int .i64 x1)) ∧
  Br (decide (x ≠ x1))
    (R (.returned (.bool false)) w2)
    (IdxVC aA an 2 i fun a2 =>
    ∃ (xA : Option Addr) (xn xc : Nat), (∀ w' : World, S1 w' → w'.cell? (a2.add 1) = some (.slice xA xn xc)) ∧
    IdxVC bA bn 2 i fun a3 =>
    ∃ (xA1 : Option Addr) (xn1 xc1 : Nat), (∀ w' : World, S1 w' → w'.cell? (a3.add 1) = some (.slice xA1 xn1 xc1)) ∧
    Calls Tryz.prog 34 #[.slice xA xn xc, .slice xA1 xn1 xc1] w2 (onRet (fun r_ w3 => ∃ x2 : Bool, r_ = .bool x2 ∧
    S1 w3 ∧
    Br (!x2)
    (R (.returned (.bool false)) w3)
    (K58 (IntKind.i64.wrap (i + 1)) w3))
      (fun _ _ => False))))
    (R (.returned (.bool true)) w1)
set_option maxRecDepth 100000 in
def weirtop_sameOpts_VC (aA : Option Addr) (an : Nat) (_ac : Nat) (bA : Option Addr) (bn : Nat) (_bc : Nat) (w : World) (R : Ending → World → Prop) : Prop :=
  Br (decide ((an : Int) ≠ (bn : Int)))
    (R (.returned (.bool false)) w)
    (LoopVC (S := Int) (fun s_ w1 K58 => weirtop_sameOpts_L58 R aA an bA bn s_ w1 K58) 0 w)
def weirtop_sameOpts_H : Hints := [(58, [(5, .int .i64)])]
set_option maxRecDepth 100000 in
theorem weirtop_sameOpts_of (aA : Option Addr) (an : Nat) (ac : Nat) (bA : Option Addr) (bn : Nat) (bc : Nat) (w : World) (R : Ending → World → Prop) (hvc_ : weirtop_sameOpts_VC aA an ac bA bn bc w R) :
    Calls Tryz.prog 35 #[.slice aA an ac, .slice bA bn bc] w R :=
  calls_of_wpc callOk mixedOk (H := weirtop_sameOpts_H) (args := [.slice aA an ac, .slice bA bn bc]) (fn := Tryz.f35) (c := bodyOf Tryz.f35) Tryz.func35 rfl (Nat.le_of_ble_eq_true rfl)
    (Eq.mp (by kernel_rfl : weirtop_sameOpts_VC aA an ac bA bn bc w R = wpc Tryz.prog callF Tryz.f35.ntmps weirtop_sameOpts_H 1 (bodyOf Tryz.f35) (argEnv 0 [.slice aA an ac, .slice bA bn bc]) [] w (finish Tryz.prog callF Tryz.f35.results.toList R)) hvc_)

set_option maxRecDepth 100000 in
def weirtop_same6_L58 (R : Ending → World → Prop) (g1 : Nat) (g2 : Nat) (i : Int) (w4 : World) (K58 : (Int → World → Prop)) : Prop :=
  ∃ (xA4 : Option Addr) (xn4 xc4 : Nat), w4.cell? ⟨g1, 37, none⟩ = some (.slice xA4 xn4 xc4) ∧
  Br (decide (i < (xn4 : Int)))
    (DrawVC w4 fun S1 w5 =>
  ∃ (xA5 : Option Addr) (xn5 xc5 : Nat), (∀ w' : World, S1 w' → w'.cell? ⟨g1, 37, none⟩ = some (.slice xA5 xn5 xc5)) ∧
  IdxVC xA5 xn5 3 i fun a1 =>
  ∃ x9 : Int, (∀ w' : World, S1 w' → w'.cell? a1 = some (.int .i64 x9)) ∧
  ∃ (xA6 : Option Addr) (xn6 xc6 : Nat), (∀ w' : World, S1 w' → w'.cell? ⟨g2, 37, none⟩ = some (.slice xA6 xn6 xc6)) ∧
  IdxVC xA6 xn6 3 i fun a2 =>
  ∃ x10 : Int, (∀ w' : World, S1 w' → w'.cell? a2 = some (.int .i64 x10)) ∧
  Br (decide (x9 ≠ x10))
    (R (.returned (.bool false)) w5)
    (∃ (xA7 : Option Addr) (xn7 xc7 : Nat), (∀ w' : World, S1 w' → w'.cell? ⟨g1, 37, none⟩ = some (.slice xA7 xn7 xc7)) ∧
    IdxVC xA7 xn7 3 i fun a3 =>
    ∃ (xA8 : Option Addr) (xn8 xc8 : Nat), (∀ w' : World, S1 w' → w'.cell? (a3.add 1) = some (.slice xA8 xn8 xc8)) ∧
    ∃ (xA9 : Option Addr) (xn9 xc9 : Nat), (∀ w' : World, S1 w' → w'.cell? ⟨g2, 37, none⟩ = some (.slice xA9 xn9 xc9)) ∧
    IdxVC xA9 xn9 3 i fun a4 =>
    ∃ (xA10 : Option Addr) (xn10 xc10 : Nat), (∀ w' : World, S1 w' → w'.cell? (a4.add 1) = some (.slice xA10 xn10 xc10)) ∧
    Calls Tryz.prog 35 #[.slice xA8 xn8 xc8, .slice xA10 xn10 xc10] w5 (onRet (fun r_1 w6 => ∃ x11 : Bool, r_1 = .bool x11 ∧
    S1 w6 ∧
    Br (!x11)
      (R (.returned (.bool false)) w6)
      (∃ (xA11 : Option Addr) (xn11 xc11 : Nat), (∀ w' : World, S1 w' → w'.cell? ⟨g1, 37, none⟩ = some (.slice xA11 xn11 xc11)) ∧
      IdxVC xA11 xn11 3 i fun a5 =>
      ∃ (xA12 : Option Addr) (xn12 xc12 : Nat), (∀ w' : World, S1 w' → w'.cell? (a5.add 2) = some (.slice xA12 xn12 xc12)) ∧
      ∃ (xA13 : Option Addr) (xn13 xc13 : Nat), (∀ w' : World, S1 w' → w'.cell? ⟨g2, 37, none⟩ = some (.slice xA13 xn13 xc13)) ∧
      IdxVC xA13 xn13 3 i fun a6 =>
      ∃ (xA14 : Option Addr) (xn14 xc14 : Nat), (∀ w' : World, S1 w' → w'.cell? (a6.add 2) = some (.slice xA14 xn14 xc14)) ∧
      Calls Tryz.prog 34 #[.slice xA12 xn12 xc12, .slice xA14 xn14 xc14] w6 (onRet (fun r_2 w7 => ∃ x12 : Bool, r_2 = .bool x12 ∧
      S1 w7 ∧
      Br (!x12)
    (R (.returned (.bool false)) w7)
    (K58 (IntKind.i64.wrap (i + 1)) w7))
        (fun _ _ => False))))
      (fun _ _ => False))))
    (R (.returned (.bool true)) w4)
set_option maxRecDepth 100000 in
def weirtop_same6_VC (a : Ip6V) (b : Ip6V) (w : World) (R : Ending → World → Prop) : Prop :=
  NewVC w (.cells a.cells.toArray 30) fun g1 w1 =>
  NewVC w1 (.cells b.cells.toArray 30) fun g2 w2 =>
  ∃ x : Int, w2.cell? ⟨g1, 0, none⟩ = some (.int .i64 x) ∧
  ∃ x1 : Int, w2.cell? ⟨g2, 0, none⟩ = some (.int .i64 x1) ∧
  Br (decide (x ≠ x1))
    (R (.returned (.bool false)) w2)
    (∃ x2 : Int, w2.cell? ⟨g1, 1, none⟩ = some (.int .i64 x2) ∧
    ∃ x3 : Int, w2.cell? ⟨g2, 1, none⟩ = some (.int .i64 x3) ∧
    Br (decide (x2 ≠ x3))
      (R (.returned (.bool false)) w2)
      (∃ x4 : Int, w2.cell? ⟨g1, 2, none⟩ = some (.int .i64 x4) ∧
      ∃ x5 : Int, w2.cell? ⟨g2, 2, none⟩ = some (.int .i64 x5) ∧
      Br (decide (x4 ≠ x5))
        (R (.returned (.bool false)) w2)
        (IPV.ex fun h => CellsAt w2 ⟨g1, 3, none⟩ 0 h.cells ∧
        IPV.ex fun h1 => CellsAt w2 ⟨g2, 3, none⟩ 0 h1.cells ∧
        Br (!((IPV.beq h h1)))
          (R (.returned (.bool false)) w2)
          (IPV.ex fun h2 => CellsAt w2 ⟨g1, 20, none⟩ 0 h2.cells ∧
          IPV.ex fun h3 => CellsAt w2 ⟨g2, 20, none⟩ 0 h3.cells ∧
          Br (!((IPV.beq h2 h3)))
            (R (.returned (.bool false)) w2)
            (FragV.ex fun h4 => CellsAt w2 ⟨g1, 38, none⟩ 0 h4.cells ∧
            FragV.ex fun h5 => CellsAt w2 ⟨g2, 38, none⟩ 0 h5.cells ∧
            Br (!((FragV.beq h4 h5)))
              (R (.returned (.bool false)) w2)
              (∃ x6 : Int, w2.cell? ⟨g1, 42, none⟩ = some (.int .i64 x6) ∧
              ∃ x7 : Int, w2.cell? ⟨g2, 42, none⟩ = some (.int .i64 x7) ∧
              Br (decide (x6 ≠ x7))
                (R (.returned (.bool false)) w2)
                (∃ (xA : Option Addr) (xn xc : Nat), w2.cell? ⟨g1, 37, none⟩ = some (.slice xA xn xc) ∧
                ∃ (xA1 : Option Addr) (xn1 xc1 : Nat), w2.cell? ⟨g2, 37, none⟩ = some (.slice xA1 xn1 xc1) ∧
                Br (decide ((xn : Int) ≠ (xn1 : Int)))
                  (R (.returned (.bool false)) w2)
                  (∃ (xA2 : Option Addr) (xn2 xc2 : Nat), w2.cell? ⟨g1, 43, none⟩ = some (.slice xA2 xn2 xc2) ∧
                  ∃ (xA3 : Option Addr) (xn3 xc3 : Nat), w2.cell? ⟨g2, 43, none⟩ = some (.slice xA3 xn3 xc3) ∧
                  Calls Tryz.prog 34 #[.slice xA2 xn2 xc2, .slice xA3 xn3 xc3] w2 (onRet (fun r_ w3 => ∃ x8 : Bool, r_ = .bool x8 ∧
                  Br (!x8)
    (R (.returned (.bool false)) w3)
    (LoopVC (S := Int) (fun s_ w4 K58 => weirtop_same6_L58 R g1 g2 s_ w4 K58) 0 w3))
                    (fun ch w3 => R (.panicked ch) w3))))))))))
def weirtop_same6_H : Hints := [(58, [(5, .int .i64)])]
set_option maxRecDepth 100000 in
theorem weirtop_same6_of (a : Ip6V) (b : Ip6V) (w : World) (R : Ending → World → Prop) (hvc_ : weirtop_same6_VC a b w R) :
    Calls Tryz.prog 9 #[a.val, b.val] w R :=
  calls_of_wpc callOk mixedOk (H := weirtop_same6_H) (args := [a.val, b.val]) (fn := Tryz.f9) (c := bodyOf Tryz.f9) Tryz.func9 rfl (Nat.le_of_ble_eq_true rfl)
    (Eq.mp (by kernel_rfl : weirtop_same6_VC a b w R = wpc Tryz.prog callF Tryz.f9.ntmps weirtop_same6_H 1 (bodyOf Tryz.f9) (argEnv 0 [a.val, b.val]) [] w (finish Tryz.prog callF Tryz.f9.results.toList R)) hvc_)

set_option maxRecDepth 100000 in
def weirtop_mod_VC (n : Int) (m : Int) (w : World) (R : Ending → World → Prop) : Prop :=
  DivVC m (
  Br (decide (Int.tmod n m < 0))
    (R (.returned (.int .i64 (IntKind.i64.wrap (Int.tmod n m + m)))) w)
    (R (.returned (.int .i64 (Int.tmod n m))) w))
def weirtop_mod_H : Hints := []
set_option maxRecDepth 100000 in
theorem weirtop_mod_of (n : Int) (m : Int) (w : World) (R : Ending → World → Prop) (hvc_ : weirtop_mod_VC n m w R) :
    Calls Tryz.prog 36 #[.int .i64 n, .int .i64 m] w R :=
  calls_of_wpc callOk mixedOk (H := weirtop_mod_H) (args := [.int .i64 n, .int .i64 m]) (fn := Tryz.f36) (c := bodyOf Tryz.f36) Tryz.func36 rfl (Nat.le_of_ble_eq_true rfl)
    (Eq.mp (by kernel_rfl : weirtop_mod_VC n m w R = wpc Tryz.prog callF Tryz.f36.ntmps weirtop_mod_H 1 (bodyOf Tryz.f36) (argEnv 0 [.int .i64 n, .int .i64 m]) [] w (finish Tryz.prog callF Tryz.f36.results.toList R)) hvc_)

set_option maxRecDepth 100000 in
def weirtop_walk_L58 (R : Ending → World → Prop) (n : Int) (orderA : Option Addr) (ordern : Nat) (J7 : ((Option Addr × Nat × Nat) → World → Prop)) (lA1 : Option Addr) (ln1 : Nat) (lc1 : Nat) (i : Int) (w1 : World) (K58 : ((Option Addr × Nat × Nat) × Int → World → Prop)) : Prop :=
  Br (decide (i < (ordern : Int)))
    (Br (decide (i < 200))
    (IdxVC orderA ordern 1 i fun a =>
  ∃ x : Int, w1.cell? a = some (.int .i64 x) ∧
  Calls Tryz.prog 36 #[.int .i64 x, .int .i64 n] w1 (onRet (fun r_ w2 => ∃ x1 : Int, r_ = .int .i64 x1 ∧
  NewVC w2 (.cells #[.int .i64 x1] 3) fun g1 w3 =>
  AppVC Tryz.prog #[31, 31] 31 (.slice lA1 ln1 lc1) (.slice (some ⟨g1, 0, none⟩) 1 1) w3 fun lA2 ln2 lc2 w4 =>
  K58 ((lA2, ln2, lc2), IntKind.i64.wrap (i + 1)) w4)
    (fun ch w2 => R (.panicked ch) w2)))
    (J7 (lA1, ln1, lc1) w1))
    (J7 (lA1, ln1, lc1) w1)
set_option maxRecDepth 100000 in
def weirtop_walk_L122 (R : Ending → World → Prop)  (lA3 : Option Addr) (ln3 : Nat) (lc3 : Nat) (i1 : Int) (w6 : World) (K122 : ((Option Addr × Nat × Nat) × Int → World → Prop)) : Prop :=
  Br (decide ((0 : Int) ≤ i1))
    (Calls Tryz.prog 37 #[.slice lA3 ln3 lc3, .int .i64 i1] w6 (onRet (fun r_1 w7 => ∃ x2 : Bool, r_1 = .bool x2 ∧
  Br (!x2)
    (NewVC w7 (.cells #[.int .i64 i1] 3) fun g2 w8 =>
    AppVC Tryz.prog #[31, 31] 31 (.slice lA3 ln3 lc3) (.slice (some ⟨g2, 0, none⟩) 1 1) w8 fun lA4 ln4 lc4 w9 =>
    K122 ((lA4, ln4, lc4), IntKind.i64.wrap (i1 - 1)) w9)
    (K122 ((lA3, ln3, lc3), IntKind.i64.wrap (i1 - 1)) w7))
    (fun ch1 w7 => R (.panicked ch1) w7)))
    (R (.returned (.slice lA3 ln3 lc3)) w6)
set_option maxRecDepth 100000 in
def weirtop_walk_J7 (R : Ending → World → Prop) (n : Int) (lA : Option Addr) (ln : Nat) (lc : Nat) (w5 : World) : Prop :=
  LoopVC (S := (Option Addr × Nat × Nat) × Int) (fun s_ w6 K122 => weirtop_walk_L122 R s_.1.1 s_.1.2.1 s_.1.2.2 s_.2 w6 K122) ((lA, ln, lc), IntKind.i64.wrap (n - 1)) w5
set_option maxRecDepth 100000 in
def weirtop_walk_VC (n : Int) (orderA : Option Addr) (ordern : Nat) (_orderc : Nat) (w : World) (R : Ending → World → Prop) : Prop :=
  JoinVC (S := (Option Addr × Nat × Nat)) (fun J7 =>
      LoopVC (S := (Option Addr × Nat × Nat) × Int) (fun s_ w1 K58 => weirtop_walk_L58 R n orderA ordern J7 s_.1.1 s_.1.2.1 s_.1.2.2 s_.2 w1 K58) ((none, 0, 0), 0) w)
    (fun s_ w5 => weirtop_walk_J7 R n s_.1 s_.2.1 s_.2.2 w5)
def weirtop_walk_H : Hints := [(58, [(5, .slice), (6, .int .i64)]), (7, [(5, .slice)]), (122, [(5, .slice), (7, .int .i64)])]
set_option maxRecDepth 100000 in
theorem weirtop_walk_of (n : Int) (orderA : Option Addr) (ordern : Nat) (orderc : Nat) (w : World) (R : Ending → World → Prop) (hvc_ : weirtop_walk_VC n orderA ordern orderc w R) :
    Calls Tryz.prog 10 #[.int .i64 n, .slice orderA ordern orderc] w R :=
  calls_of_wpc callOk mixedOk (H := weirtop_walk_H) (args := [.int .i64 n, .slice orderA ordern orderc]) (fn := Tryz.f10) (c := bodyOf Tryz.f10) Tryz.func10 rfl (Nat.le_of_ble_eq_true rfl)
    (Eq.mp (by kernel_rfl : weirtop_walk_VC n orderA ordern orderc w R = wpc Tryz.prog callF Tryz.f10.ntmps weirtop_walk_H 1 (bodyOf Tryz.f10) (argEnv 0 [.int .i64 n, .slice orderA ordern orderc]) [] w (finish Tryz.prog callF Tryz.f10.results.toList R)) hvc_)

set_option maxRecDepth 100000 in
def weirtop_among_L26 (R : Ending → World → Prop) (lA : Option Addr) (ln : Nat) (n : Int) (i : Int) (w1 : World) (K26 : (Int → World → Prop)) : Prop :=
  Br (decide (i < (ln : Int)))
    (IdxVC lA ln 1 i fun a =>
  ∃ x : Int, w1.cell? a = some (.int .i64 x) ∧
  Br (decide (x = n))
    (R (.returned (.bool true)) w1)
    (K26 (IntKind.i64.wrap (i + 1)) w1))
    (R (.returned (.bool false)) w1)
set_option maxRecDepth 100000 in
def weirtop_among_VC (lA : Option Addr) (ln : Nat) (_lc : Nat) (n : Int) (w : World) (R : Ending → World → Prop) : Prop :=
  LoopVC (S := Int) (fun s_ w1 K26 => weirtop_among_L26 R lA ln n s_ w1 K26) 0 w
def weirtop_among_H : Hints := [(26, [(5, .int .i64)])]
set_option maxRecDepth 100000 in
theorem weirtop_among_of (lA : Option Addr) (ln : Nat) (lc : Nat) (n : Int) (w : World) (R : Ending → World → Prop) (hvc_ : weirtop_among_VC lA ln lc n w R) :
    Calls Tryz.prog 37 #[.slice lA ln lc, .int .i64 n] w R :=
  calls_of_wpc callOk mixedOk (H := weirtop_among_H) (args := [.slice lA ln lc, .int .i64 n]) (fn := Tryz.f37) (c := bodyOf Tryz.f37) Tryz.func37 rfl (Nat.le_of_ble_eq_true rfl)
    (Eq.mp (by kernel_rfl : weirtop_among_VC lA ln lc n w R = wpc Tryz.prog callF Tryz.f37.ntmps weirtop_among_H 1 (bodyOf Tryz.f37) (argEnv 0 [.slice lA ln lc, .int .i64 n]) [] w (finish Tryz.prog callF Tryz.f37.results.toList R)) hvc_)

set_option maxRecDepth 100000 in
def weirtop_comes_VC (seenA : Option Addr) (seenn : Nat) (seenc : Nat) (n : Int) (piece : Int) (w : World) (R : Ending → World → Prop) : Prop :=
  Br (decide ((seenn : Int) = n))
    (R (.returned (.tuple #[.int .i64 0, .int .i64 125])) w)
    (Calls Tryz.prog 37 #[.slice seenA seenn seenc, .int .i64 piece] w (onRet (fun r_ w1 => ∃ x : Bool, r_ = .bool x ∧
  Br x
    (R (.returned (.tuple #[.int .i64 0, .int .i64 121])) w1)
    (Br (decide (IntKind.i64.wrap ((seenn : Int) + 1) = n))
    (R (.returned (.tuple #[.int .i64 1, .int .i64 0])) w1)
    (R (.returned (.tuple #[.int .i64 2, .int .i64 0])) w1)))
    (fun ch w1 => R (.panicked ch) w1)))
def weirtop_comes_H : Hints := []
set_option maxRecDepth 100000 in
theorem weirtop_comes_of (seenA : Option Addr) (seenn : Nat) (seenc : Nat) (n : Int) (piece : Int) (w : World) (R : Ending → World → Prop) (hvc_ : weirtop_comes_VC seenA seenn seenc n piece w R) :
    Calls Tryz.prog 11 #[.slice seenA seenn seenc, .int .i64 n, .int .i64 piece] w R :=
  calls_of_wpc callOk mixedOk (H := weirtop_comes_H) (args := [.slice seenA seenn seenc, .int .i64 n, .int .i64 piece]) (fn := Tryz.f11) (c := bodyOf Tryz.f11) Tryz.func11 rfl (Nat.le_of_ble_eq_true rfl)
    (Eq.mp (by kernel_rfl : weirtop_comes_VC seenA seenn seenc n piece w R = wpc Tryz.prog callF Tryz.f11.ntmps weirtop_comes_H 1 (bodyOf Tryz.f11) (argEnv 0 [.slice seenA seenn seenc, .int .i64 n, .int .i64 piece]) [] w (finish Tryz.prog callF Tryz.f11.results.toList R)) hvc_)

set_option maxRecDepth 100000 in
def weirtop_TopWholeOnce6_J261960 (R : Ending → World → Prop) (othersA : Option Addr) (othersn : Nat) (x0 : Option Addr) (i : Int) (J130980 : (Unit → World → Prop)) (t156_ : Bool) (w13 : World) : Prop :=
  Br t156_
    (IdxVC othersA othersn 44 i fun a4 =>
    Ip6V.ex fun h12 => CellsAt w13 a4 0 h12.cells ∧
    Calls Tryz.prog 8 #[.pointer x0, h12.val] w13 (onRet (fun r_7 w14 => Ip6V.ex fun h13 => ∃ x14 : Int, ∃ x22 : Int, ∃ x31 : Int, r_7 = .tuple #[h13.val, .int .i64 x14, .int .i64 x22, .int .i64 x31] ∧
    J130980 () w14)
      (fun ch7 w14 => R (.panicked ch7) w14)))
    (J130980 () w13)
set_option maxRecDepth 100000 in
def weirtop_TopWholeOnce6_J130980 (R : Ending → World → Prop) (id : Int) (g1 : Nat) (x0A1 : Option Addr) (x0n1 : Nat) (x0 : Option Addr) (xA : Option Addr) (xn : Nat) (seenA : Option Addr) (seenn : Nat) (seenc : Nat) (i : Int) (K8186 : ((Option Addr × Nat × Nat) × Int → World → Prop))  (w15 : World) : Prop :=
  IdxVC xA xn 1 i fun a5 =>
  ∃ x6 : Int, w15.cell? a5 = some (.int .i64 x6) ∧
  Calls Tryz.prog 11 #[.slice seenA seenn seenc, .int .i64 (x0n1 : Int), .int .i64 x6] w15 (onRet (fun r_8 w16 => ∃ x01 : Int, ∃ x15 : Int, r_8 = .tuple #[.int .i64 x01, .int .i64 x15] ∧
  IdxVC xA xn 1 i fun a6 =>
  ∃ x7 : Int, w16.cell? a6 = some (.int .i64 x7) ∧
  IdxVC x0A1 x0n1 44 x7 fun a7 =>
  Ip6V.ex fun h14 => CellsAt w16 a7 0 h14.cells ∧
  Calls Tryz.prog 8 #[.pointer x0, h14.val] w16 (onRet (fun r_9 w17 => Ip6V.ex fun h15 => ∃ x16 : Int, ∃ x23 : Int, ∃ x32 : Int, r_9 = .tuple #[h15.val, .int .i64 x16, .int .i64 x23, .int .i64 x32] ∧
  NewVC w17 (.cells (Ip6V.z : Ip6V).cells.toArray 30) fun g3 w18 =>
  Stores ⟨g3, 0, none⟩ 0 h15.cells w18 fun w19 =>
  Br (decide (x32 ≠ x15))
    (R (.returned (.bool false)) w19)
    (Br (decide (x23 ≠ x01))
      (R (.returned (.bool false)) w19)
      (Br (decide (x23 = 1))
        (Br (decide (x16 ≠ id))
          (R (.returned (.bool false)) w19)
          (Ip6V.ex fun h16 => CellsAt w19 ⟨g3, 0, none⟩ 0 h16.cells ∧
          Ip6V.ex fun h17 => CellsAt w19 ⟨g1, 0, none⟩ 0 h17.cells ∧
          Calls Tryz.prog 9 #[h16.val, h17.val] w19 (onRet (fun r_10 w20 => ∃ x8 : Bool, r_10 = .bool x8 ∧
          Br (!x8)
    (R (.returned (.bool false)) w20)
    (Br (decide (x32 = 0))
    (IdxVC xA xn 1 i fun a8 =>
    ∃ x9 : Int, w20.cell? a8 = some (.int .i64 x9) ∧
    NewVC w20 (.cells #[.int .i64 x9] 3) fun g4 w21 =>
    AppVC Tryz.prog #[31, 31] 31 (.slice seenA seenn seenc) (.slice (some ⟨g4, 0, none⟩) 1 1) w21 fun lA ln lc w22 =>
    K8186 ((lA, ln, lc), IntKind.i64.wrap (i + 1)) w22)
    (K8186 ((seenA, seenn, seenc), IntKind.i64.wrap (i + 1)) w20)))
            (fun ch10 w20 => R (.panicked ch10) w20))))
        (Br (decide (x32 = 0))
    (IdxVC xA xn 1 i fun a9 =>
    ∃ x10 : Int, w19.cell? a9 = some (.int .i64 x10) ∧
    NewVC w19 (.cells #[.int .i64 x10] 3) fun g5 w23 =>
    AppVC Tryz.prog #[31, 31] 31 (.slice seenA seenn seenc) (.slice (some ⟨g5, 0, none⟩) 1 1) w23 fun lA1 ln1 lc1 w24 =>
    K8186 ((lA1, ln1, lc1), IntKind.i64.wrap (i + 1)) w24)
    (K8186 ((seenA, seenn, seenc), IntKind.i64.wrap (i + 1)) w19)))))
    (fun ch9 w17 => R (.panicked ch9) w17)))
    (fun ch8 w16 => R (.panicked ch8) w16))
set_option maxRecDepth 100000 in
def weirtop_TopWholeOnce6_L8186 (R : Ending → World → Prop) (id : Int) (othersA : Option Addr) (othersn : Nat) (g1 : Nat) (x0A1 : Option Addr) (x0n1 : Nat) (x0 : Option Addr) (xA : Option Addr) (xn : Nat) (seenA : Option Addr) (seenn : Nat) (seenc : Nat) (i : Int) (w11 : World) (K8186 : ((Option Addr × Nat × Nat) × Int → World → Prop)) : Prop :=
  Br (decide (i < (xn : Int)))
    (JoinVC (S := Unit) (fun J130980 =>
      JoinVC (S := Bool) (fun J261960 =>
          DrawVC w11 fun S1 w12 =>
          Br (decide (i < (othersn : Int)))
            (IdxVC othersA othersn 44 i fun a1 =>
            IPV.ex fun h8 => (∀ w' : World, S1 w' → CellsAt w' (a1.add 3) 0 h8.cells) ∧
            IPV.ex fun h9 => (∀ w' : World, S1 w' → CellsAt w' ⟨g1, 3, none⟩ 0 h9.cells) ∧
            Br (!((IPV.beq h8 h9)))
              (J261960 true w12)
              (IdxVC othersA othersn 44 i fun a2 =>
              IPV.ex fun h10 => (∀ w' : World, S1 w' → CellsAt w' (a2.add 20) 0 h10.cells) ∧
              IPV.ex fun h11 => (∀ w' : World, S1 w' → CellsAt w' ⟨g1, 20, none⟩ 0 h11.cells) ∧
              Br (!((IPV.beq h10 h11)))
                (J261960 true w12)
                (IdxVC othersA othersn 44 i fun a3 =>
                ∃ x5 : Int, (∀ w' : World, S1 w' → w'.cell? ((a3.add 38).add 2) = some (.int .i64 x5)) ∧
                J261960 (decide (x5 ≠ id)) w12)))
            (J261960 false w12))
        (fun s_ w13 => weirtop_TopWholeOnce6_J261960 R othersA othersn x0 i J130980 s_ w13))
    (fun _ w15 => weirtop_TopWholeOnce6_J130980 R id g1 x0A1 x0n1 x0 xA xn seenA seenn seenc i K8186 w15))
    (Br (decide ((seenn : Int) = (x0n1 : Int)))
    (Calls Tryz.prog 12 #[.pointer x0] w11 (onRet (fun r_11 w25 => ∃ x17 : Int, r_11 = .int .i64 x17 ∧
    R (.returned (.bool (decide ((1 : Int) ≤ x17)))) w25)
      (fun ch11 w25 => R (.panicked ch11) w25)))
    (R (.returned (.bool false)) w11))
set_option maxRecDepth 100000 in
def weirtop_TopWholeOnce6_VC (h : Ip6V) (mtu : Int) (id : Int) (orderA : Option Addr) (ordern : Nat) (orderc : Nat) (othersA : Option Addr) (othersn : Nat) (_othersc : Nat) (w : World) (R : Ending → World → Prop) : Prop :=
  NewVC w (.cells h.cells.toArray 30) fun g1 w1 =>
  Ip6V.ex fun h1 => CellsAt w1 ⟨g1, 0, none⟩ 0 h1.cells ∧
  Calls Tryz.prog 4 #[h1.val, .int .i64 mtu, .int .i64 id] w1 (onRet (fun r_ w2 => ∃ (x0A : Option Addr) (x0n x0c : Nat), ∃ x1 : Int, r_ = .tuple #[.slice x0A x0n x0c, .int .i64 x1] ∧
  Ip6V.ex fun h2 => CellsAt w2 ⟨g1, 0, none⟩ 0 h2.cells ∧
  Calls Tryz.prog 5 #[h2.val] w2 (onRet (fun r_1 w3 => ∃ x : Int, r_1 = .int .i64 x ∧
  Br (decide (x ≠ 0))
    (R (.returned (.bool true)) w3)
    (Br (decide (x1 ≠ 0))
      (R (.returned (.bool true)) w3)
      (Br (decide ((1024 : Int) < (x0n : Int)))
        (R (.returned (.bool true)) w3)
        (∃ x2 : Bool, w3.cell? ⟨g1, 38, none⟩ = some (.bool x2) ∧
        Br x2
          (R (.returned (.bool true)) w3)
          (Br (decide ((100 : Int) < (othersn : Int)))
    (R (.returned (.bool true)) w3)
    (Ip6V.ex fun h3 => CellsAt w3 ⟨g1, 0, none⟩ 0 h3.cells ∧
  Calls Tryz.prog 6 #[h3.val, .int .i64 mtu, .int .i64 id] w3 (onRet (fun r_2 w4 => ∃ (x0A1 : Option Addr) (x0n1 x0c1 : Nat), ∃ x11 : Int, r_2 = .tuple #[.slice x0A1 x0n1 x0c1, .int .i64 x11] ∧
  Calls Tryz.prog 7 #[.int .i64 256, .int .i64 3] w4 (onRet (fun r_3 w5 => ∃ x0 : Option Addr, ∃ x12 : Int, r_3 = .tuple #[.pointer x0, .int .i64 x12] ∧
  Br (decide (x11 ≠ 0))
    (R (.returned (.bool false)) w5)
    (Br (decide (x12 ≠ 0))
      (R (.returned (.bool false)) w5)
      (Br x0.isNone
        (R (.returned (.bool false)) w5)
        (Br (decide ((x0n1 : Int) = 0))
    (R (.returned (.bool false)) w5)
    (Br (decide ((x0n1 : Int) = 1))
    (IdxVC x0A1 x0n1 44 0 fun a =>
    Ip6V.ex fun h4 => CellsAt w5 a 0 h4.cells ∧
    Calls Tryz.prog 8 #[.pointer x0, h4.val] w5 (onRet (fun r_4 w6 => Ip6V.ex fun h5 => ∃ x13 : Int, ∃ x21 : Int, ∃ x3 : Int, r_4 = .tuple #[h5.val, .int .i64 x13, .int .i64 x21, .int .i64 x3] ∧
    NewVC w6 (.cells (Ip6V.z : Ip6V).cells.toArray 30) fun g2 w7 =>
    Stores ⟨g2, 0, none⟩ 0 h5.cells w7 fun w8 =>
    Br (decide (x3 = 0))
      (Br (decide (x13 = 0))
        (Br (decide (x21 = 1))
          (Ip6V.ex fun h6 => CellsAt w8 ⟨g2, 0, none⟩ 0 h6.cells ∧
          Ip6V.ex fun h7 => CellsAt w8 ⟨g1, 0, none⟩ 0 h7.cells ∧
          Calls Tryz.prog 9 #[h6.val, h7.val] w8 (onRet (fun r_5 w9 => ∃ x4 : Bool, r_5 = .bool x4 ∧
          R (.returned (.bool x4)) w9)
            (fun ch5 w9 => R (.panicked ch5) w9)))
          (R (.returned (.bool false)) w8))
        (R (.returned (.bool false)) w8))
      (R (.returned (.bool false)) w8))
      (fun ch4 w6 => R (.panicked ch4) w6)))
    (Calls Tryz.prog 10 #[.int .i64 (x0n1 : Int), .slice orderA ordern orderc] w5 (onRet (fun r_6 w10 => ∃ (xA : Option Addr) (xn xc : Nat), r_6 = .slice xA xn xc ∧
  LoopVC (S := (Option Addr × Nat × Nat) × Int) (fun s_ w11 K8186 => weirtop_TopWholeOnce6_L8186 R id othersA othersn g1 x0A1 x0n1 x0 xA xn s_.1.1 s_.1.2.1 s_.1.2.2 s_.2 w11 K8186) ((none, 0, 0), 0) w10)
    (fun ch6 w10 => R (.panicked ch6) w10))))))))
    (fun ch3 w5 => R (.panicked ch3) w5)))
    (fun ch2 w4 => R (.panicked ch2) w4))))))))
    (fun ch1 w3 => R (.panicked ch1) w3)))
    (fun ch w2 => R (.panicked ch) w2))
def weirtop_TopWholeOnce6_H : Hints := [(8186, [(21, .slice), (23, .int .i64)]), (261960, [(156, .bool)]), (130980, [])]
set_option maxRecDepth 100000 in
theorem weirtop_TopWholeOnce6_of (h : Ip6V) (mtu : Int) (id : Int) (orderA : Option Addr) (ordern : Nat) (orderc : Nat) (othersA : Option Addr) (othersn : Nat) (othersc : Nat) (w : World) (R : Ending → World → Prop) (hvc_ : weirtop_TopWholeOnce6_VC h mtu id orderA ordern orderc othersA othersn othersc w R) :
    Calls Tryz.prog 3 #[h.val, .int .i64 mtu, .int .i64 id, .slice orderA ordern orderc, .slice othersA othersn othersc] w R :=
  calls_of_wpc callOk mixedOk (H := weirtop_TopWholeOnce6_H) (args := [h.val, .int .i64 mtu, .int .i64 id, .slice orderA ordern orderc, .slice othersA othersn othersc]) (fn := Tryz.f3) (c := bodyOf Tryz.f3) Tryz.func3 rfl (Nat.le_of_ble_eq_true rfl)
    (Eq.mp (by kernel_rfl : weirtop_TopWholeOnce6_VC h mtu id orderA ordern orderc othersA othersn othersc w R = wpc Tryz.prog callF Tryz.f3.ntmps weirtop_TopWholeOnce6_H 1 (bodyOf Tryz.f3) (argEnv 0 [h.val, .int .i64 mtu, .int .i64 id, .slice orderA ordern orderc, .slice othersA othersn othersc]) [] w (finish Tryz.prog callF Tryz.f3.results.toList R)) hvc_)
end N6
end Go.Proofs.YthhgbpmihhljdaaGreatDoor
