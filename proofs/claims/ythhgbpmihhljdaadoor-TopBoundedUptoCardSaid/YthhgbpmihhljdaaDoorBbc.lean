/- WRITTEN BY a program of this session (vc.py): for each Go function the condition that is enough for its contract, and the theorem that it is. -/
import Derived.Test.YthhgbpmihhljdaaDoorProg
import Derived.Test.YthhgbpmihhljdaaDoorBae
import Derived.Test.YthhgbpmihhljdaaDoorBax
import Derived.Test.YthhgbpmihhljdaaDoorBag
namespace Go.Proofs.YthhgbpmihhljdaaDoor
open Go.Eng
namespace N6

set_option maxRecDepth 100000 in
def reasm_joined_VC (h : Ip6V) (dataA : Option Addr) (datan : Nat) (datac : Nat) (w : World) (R : Ending → World → Prop) : Prop :=
  NewVC w (.cells h.cells.toArray 43) fun g1 w1 =>
  NewVC w1 (.cells (Ip6V.z : Ip6V).cells.toArray 43) fun g2 w2 =>
  ∃ x : Int, w2.cell? ⟨g1, 42, none⟩ = some (.int .i64 x) ∧
  Calls Tryd.prog 38 #[.int .i64 x, .slice dataA datan datac] w2 (onRet (fun r_ w3 => ∃ (x0A : Option Addr) (x0n x0c : Nat), ∃ x1 : Int, ∃ (x2A : Option Addr) (x2n x2c : Nat), ∃ x3 : Int, r_ = .tuple #[.slice x0A x0n x0c, .int .i64 x1, .slice x2A x2n x2c, .int .i64 x3] ∧
  Br (decide (x3 ≠ 0))
    (Stores ⟨g2, 0, none⟩ 0 (Ip6V.z : Ip6V).cells w3 fun w4 =>
    Ip6V.ex fun res => CellsAt w4 ⟨g2, 0, none⟩ 0 res.cells ∧
  R (.returned (.tuple #[res.val, .bool false])) w4)
    (∃ (xA : Option Addr) (xn xc : Nat), w3.cell? ⟨g1, 37, none⟩ = some (.slice xA xn xc) ∧
  ∃ (xA1 : Option Addr) (xn1 xc1 : Nat), w3.cell? ⟨g1, 37, none⟩ = some (.slice xA1 xn1 xc1) ∧
  ∃ (xA2 : Option Addr) (xn2 xc2 : Nat), w3.cell? ⟨g1, 37, none⟩ = some (.slice xA2 xn2 xc2) ∧
  SliceVC xA xn xc 3 none (some (xn1 : Int)) (some (xn2 : Int)) fun sA sn sc =>
  AppVC Tryd.prog #[39, 39] 39 (.slice sA sn sc) (.slice x0A x0n x0c) w3 fun lA ln lc w5 =>
  SetVC w5 ⟨g1, 37, none⟩ (.slice lA ln lc) fun w6 =>
  Stores ⟨g1, 38, none⟩ 0 (FragV.z : FragV).cells w6 fun w7 =>
  SetVC w7 ⟨g1, 42, none⟩ (.int .i64 x1) fun w8 =>
  SetVC w8 ⟨g1, 43, none⟩ (.slice x2A x2n x2c) fun w9 =>
  DrawVC w9 fun S1 w10 =>
  Ip6V.ex fun h1 => (∀ w' : World, S1 w' → CellsAt w' ⟨g1, 0, none⟩ 0 h1.cells) ∧
  Ip6V.ex fun h2 => (∀ w' : World, S1 w' → CellsAt w' ⟨g1, 0, none⟩ 0 h2.cells) ∧
  Calls Tryd.prog 19 #[h2.val] w10 (onRet (fun r_1 w11 => ∃ x2 : Int, r_1 = .int .i64 x2 ∧
  S1 w11 ∧
  Stores ⟨g2, 0, none⟩ 0 h1.cells w11 fun w12 =>
  S1 w12 ∧
  Ip6V.ex fun res1 => CellsAt w12 ⟨g2, 0, none⟩ 0 res1.cells ∧
  R (.returned (.tuple #[res1.val, .bool (decide (x2 = 0))])) w12)
    (fun _ _ => False))))
    (fun ch w3 => R (.panicked ch) w3))
def reasm_joined_H : Hints := []
set_option maxRecDepth 100000 in
theorem reasm_joined_of (h : Ip6V) (dataA : Option Addr) (datan : Nat) (datac : Nat) (w : World) (R : Ending → World → Prop) (hvc_ : reasm_joined_VC h dataA datan datac w R) :
    Calls Tryd.prog 21 #[h.val, .slice dataA datan datac] w R :=
  calls_of_wpc callOk mixedOk (H := reasm_joined_H) (args := [h.val, .slice dataA datan datac]) (fn := Tryd.f21) (c := bodyOf Tryd.f21) Tryd.func21 rfl (Nat.le_of_ble_eq_true rfl)
    (Eq.mp (by kernel_rfl : reasm_joined_VC h dataA datan datac w R = wpc Tryd.prog callF Tryd.f21.ntmps reasm_joined_H 1 (bodyOf Tryd.f21) (argEnv 0 [h.val, .slice dataA datan datac]) [] w (finish Tryd.prog callF Tryd.f21.results.toList R)) hvc_)

set_option maxRecDepth 100000 in
def reasm_Table_Offer4_J2046 (g1 : Nat) (g4 : Nat) (J1023 : (Unit → World → Prop)) (t94_ : Bool) (w19 : World) : Prop :=
  Br t94_
    (DrawVC w19 fun S2 w20 =>
    ∃ x16 : Option Addr, (∀ w' : World, S2 w' → w'.cell? ⟨g4, 0, none⟩ = some (.pointer x16)) ∧
    ∃ x17 : Option Addr, (∀ w' : World, S2 w' → w'.cell? ⟨g4, 0, none⟩ = some (.pointer x17)) ∧
    Ip4V.ex fun h9 => (∀ w' : World, S2 w' → CellsAt w' ⟨g1, 0, none⟩ 0 h9.cells) ∧
    Calls Tryd.prog 15 #[h9.val] w20 (onRet (fun r_4 w21 => Ip4V.ex fun h10 => r_4 = h10.val ∧
    S2 w21 ∧
    NilVC x16 fun p2 =>
    SetVC w21 (p2.add 42) (.bool true) fun w22 =>
    S2 w22 ∧
    NilVC x17 fun p3 =>
    Stores (p3.add 43) 0 h10.cells w22 fun w23 =>
    J1023 () w23)
      (fun _ _ => False)))
    (J1023 () w19)
set_option maxRecDepth 100000 in
def reasm_Table_Offer4_J1023 (R : Ending → World → Prop) (g2 : Nat) (g4 : Nat)  (w24 : World) : Prop :=
  ∃ x18 : Option Addr, w24.cell? ⟨g4, 0, none⟩ = some (.pointer x18) ∧
  NilVC x18 fun p4 =>
  ∃ x19 : Option Addr, w24.cell? (p4.add 40) = some (.pointer x19) ∧
  Calls Tryd.prog 16 #[.pointer x19] w24 (onRet (fun r_5 w25 => ∃ (x0A : Option Addr) (x0n x0c : Nat), ∃ x110 : Bool, r_5 = .tuple #[.slice x0A x0n x0c, .bool x110] ∧
  Br (!x110)
    (Stores ⟨g2, 0, none⟩ 0 (Ip4V.z : Ip4V).cells w25 fun w26 =>
    Ip4V.ex fun res4 => CellsAt w26 ⟨g2, 0, none⟩ 0 res4.cells ∧
  R (.returned (.tuple #[res4.val, .int .i64 2, .int .i64 0])) w26)
    (∃ x20 : Option Addr, w25.cell? ⟨g4, 0, none⟩ = some (.pointer x20) ∧
  NilVC x20 fun p5 =>
  Ip4V.ex fun h11 => CellsAt w25 (p5.add 43) 0 h11.cells ∧
  NewVC w25 (.cells (Ip4V.z : Ip4V).cells.toArray 35) fun g5 w27 =>
  Stores ⟨g5, 0, none⟩ 0 h11.cells w27 fun w28 =>
  SetVC w28 ⟨g5, 3, none⟩ (.bool false) fun w29 =>
  SetVC w29 ⟨g5, 4, none⟩ (.int .i64 0) fun w30 =>
  SetVC w30 ⟨g5, 42, none⟩ (.slice x0A x0n x0c) fun w31 =>
  Ip4V.ex fun h12 => CellsAt w31 ⟨g5, 0, none⟩ 0 h12.cells ∧
  Calls Tryd.prog 11 #[h12.val] w31 (onRet (fun r_6 w32 => ∃ x21 : Int, r_6 = .int .i64 x21 ∧
  Br (decide (x21 ≠ 0))
    (DrawVC w32 fun S3 w33 =>
    ∃ x22 : Option Addr, (∀ w' : World, S3 w' → w'.cell? ⟨g4, 0, none⟩ = some (.pointer x22)) ∧
    ∃ x23 : Option Addr, (∀ w' : World, S3 w' → w'.cell? ⟨g4, 0, none⟩ = some (.pointer x23)) ∧
    NilVC x23 fun p6 =>
    ∃ x24 : Int, (∀ w' : World, S3 w' → w'.cell? (p6.add 41) = some (.int .i64 x24)) ∧
    Calls Tryd.prog 17 #[.pointer x22, .int .i64 123, .int .i64 (IntKind.i64.wrap (x24 - 1))] w33 (onRet (fun r_7 w34 => r_7 = .tuple #[] ∧
    Stores ⟨g2, 0, none⟩ 0 (Ip4V.z : Ip4V).cells w34 fun w35 =>
    Ip4V.ex fun res5 => CellsAt w35 ⟨g2, 0, none⟩ 0 res5.cells ∧
  R (.returned (.tuple #[res5.val, .int .i64 0, .int .i64 123])) w35)
      (fun _ _ => False)))
    (∃ x25 : Option Addr, w32.cell? ⟨g4, 0, none⟩ = some (.pointer x25) ∧
  Calls Tryd.prog 18 #[.pointer x25] w32 (onRet (fun r_8 w36 => r_8 = .tuple #[] ∧
  Ip4V.ex fun h13 => CellsAt w36 ⟨g5, 0, none⟩ 0 h13.cells ∧
  Stores ⟨g2, 0, none⟩ 0 h13.cells w36 fun w37 =>
  Ip4V.ex fun res6 => CellsAt w37 ⟨g2, 0, none⟩ 0 res6.cells ∧
  R (.returned (.tuple #[res6.val, .int .i64 1, .int .i64 0])) w37)
    (fun ch8 w36 => R (.panicked ch8) w36))))
    (fun ch6 w32 => R (.panicked ch6) w32))))
    (fun ch5 w25 => R (.panicked ch5) w25))
set_option maxRecDepth 100000 in
def reasm_Table_Offer4_J255 (R : Ending → World → Prop) (g1 : Nat) (g2 : Nat) (g4 : Nat) (e_1 : Int) (w17 : World) : Prop :=
  Br (decide (e_1 ≠ 0))
    (Stores ⟨g2, 0, none⟩ 0 (Ip4V.z : Ip4V).cells w17 fun w18 =>
    Ip4V.ex fun res3 => CellsAt w18 ⟨g2, 0, none⟩ 0 res3.cells ∧
  R (.returned (.tuple #[res3.val, .int .i64 0, .int .i64 e_1])) w18)
    (JoinVC (S := Unit) (fun J1023 =>
      JoinVC (S := Bool) (fun J2046 =>
          ∃ x13 : Int, w17.cell? ⟨g1, 4, none⟩ = some (.int .i64 x13) ∧
          Br (decide (x13 = 0))
            (∃ x14 : Option Addr, w17.cell? ⟨g4, 0, none⟩ = some (.pointer x14) ∧
            NilVC x14 fun p1 =>
            ∃ x15 : Bool, w17.cell? (p1.add 42) = some (.bool x15) ∧
            J2046 (!x15) w17)
            (J2046 false w17))
        (fun s_ w19 => reasm_Table_Offer4_J2046 g1 g4 J1023 s_ w19))
    (fun _ w24 => reasm_Table_Offer4_J1023 R g2 g4 w24))
set_option maxRecDepth 100000 in
def reasm_Table_Offer4_J127 (R : Ending → World → Prop) (t : Option Addr) (g1 : Nat) (g2 : Nat) (g4 : Nat) (e_ : Int) (w15 : World) : Prop :=
  JoinVC (S := Int) (fun J255 =>
      Br (decide (e_ = 0))
        (LaidV.ex fun h8 => CellsAt w15 ⟨g4, 0, none⟩ 0 h8.cells ∧
        Calls Tryd.prog 14 #[.pointer t, h8.val] w15 (onRet (fun r_3 w16 => ∃ x12 : Int, r_3 = .int .i64 x12 ∧
        J255 x12 w16)
          (fun ch3 w16 => R (.panicked ch3) w16)))
        (J255 e_ w15))
    (fun s_ w17 => reasm_Table_Offer4_J255 R g1 g2 g4 s_ w17)
set_option maxRecDepth 100000 in
def reasm_Table_Offer4_J7 (R : Ending → World → Prop) (t : Option Addr) (g1 : Nat) (g2 : Nat)  (w6 : World) : Prop :=
  IPV.ex fun h3 => CellsAt w6 ⟨g1, 7, none⟩ 0 h3.cells ∧
  IPV.ex fun h4 => CellsAt w6 ⟨g1, 24, none⟩ 0 h4.cells ∧
  ∃ x3 : Int, w6.cell? ⟨g1, 6, none⟩ = some (.int .i64 x3) ∧
  ∃ x4 : Int, w6.cell? ⟨g1, 1, none⟩ = some (.int .i64 x4) ∧
  NewVC w6 (.cells (KeyV.z : KeyV).cells.toArray 54) fun g3 w7 =>
  Stores ⟨g3, 0, none⟩ 0 (⟨h3, h4, x3, x4⟩ : KeyV).cells w7 fun w8 =>
  DrawVC w8 fun S1 w9 =>
  NilVC t fun p =>
  ∃ x5 : Option Nat, (∀ w' : World, S1 w' → w'.cell? (p.add 3) = some (.map x5)) ∧
  KeyV.ex fun h5 => (∀ w' : World, S1 w' → CellsAt w' ⟨g3, 0, none⟩ 0 h5.cells) ∧
  ∃ c : Option Addr, (∀ w' : World, S1 w' → (Instr.lookup 49 (.map x5) (h5.val) false).run Tryd.prog w' = .ok (.pointer c) w') ∧
  Calls Tryd.prog 12 #[.pointer c, .int .i64 125, .int .i64 123] w9 (onRet (fun r_1 w10 => ∃ x6 : Int, r_1 = .int .i64 x6 ∧
  S1 w10 ∧
  Br (decide (x6 ≠ 0))
    (Stores ⟨g2, 0, none⟩ 0 (Ip4V.z : Ip4V).cells w10 fun w11 =>
    Ip4V.ex fun res2 => CellsAt w11 ⟨g2, 0, none⟩ 0 res2.cells ∧
  R (.returned (.tuple #[res2.val, .int .i64 0, .int .i64 x6])) w11)
    (KeyV.ex fun h6 => CellsAt w10 ⟨g3, 0, none⟩ 0 h6.cells ∧
  ∃ x7 : Int, w10.cell? ⟨g1, 4, none⟩ = some (.int .i64 x7) ∧
  ∃ (xA : Option Addr) (xn xc : Nat), w10.cell? ⟨g1, 42, none⟩ = some (.slice xA xn xc) ∧
  ∃ x8 : Bool, w10.cell? ⟨g1, 3, none⟩ = some (.bool x8) ∧
  Calls Tryd.prog 13 #[.pointer t, h6.val, .int .i64 65515, .int .i64 x7, .slice xA xn xc, .bool x8] w10 (onRet (fun r_2 w12 => LaidV.ex fun h7 => ∃ x11 : Int, r_2 = .tuple #[h7.val, .int .i64 x11] ∧
  NewVC w12 (.cells (LaidV.z : LaidV).cells.toArray 60) fun g4 w13 =>
  Stores ⟨g4, 0, none⟩ 0 h7.cells w13 fun w14 =>
  JoinVC (S := Int) (fun J127 =>
      Br (decide (x11 = 0))
        (∃ x9 : Int, w14.cell? ⟨g4, 2, none⟩ = some (.int .i64 x9) ∧
        Br (decide (x9 = 0))
          (∃ x10 : Bool, w14.cell? ⟨g4, 5, none⟩ = some (.bool x10) ∧
          Br (!x10)
        (J127 121 w14)
        (J127 x11 w14))
          (J127 x11 w14))
        (J127 x11 w14))
    (fun s_ w15 => reasm_Table_Offer4_J127 R t g1 g2 g4 s_ w15))
    (fun ch2 w12 => R (.panicked ch2) w12))))
    (fun _ _ => False))
set_option maxRecDepth 100000 in
def reasm_Table_Offer4_VC (t : Option Addr) (h : Ip4V) (w : World) (R : Ending → World → Prop) : Prop :=
  NewVC w (.cells h.cells.toArray 35) fun g1 w1 =>
  NewVC w1 (.cells (Ip4V.z : Ip4V).cells.toArray 35) fun g2 w2 =>
  Ip4V.ex fun h1 => CellsAt w2 ⟨g1, 0, none⟩ 0 h1.cells ∧
  Calls Tryd.prog 11 #[h1.val] w2 (onRet (fun r_ w3 => ∃ x : Int, r_ = .int .i64 x ∧
  Br (decide (x ≠ 0))
    (Stores ⟨g2, 0, none⟩ 0 (Ip4V.z : Ip4V).cells w3 fun w4 =>
    Ip4V.ex fun res => CellsAt w4 ⟨g2, 0, none⟩ 0 res.cells ∧
  R (.returned (.tuple #[res.val, .int .i64 0, .int .i64 x])) w4)
    (JoinVC (S := Unit) (fun J7 =>
      ∃ x1 : Bool, w3.cell? ⟨g1, 3, none⟩ = some (.bool x1) ∧
      Br (!x1)
        (∃ x2 : Int, w3.cell? ⟨g1, 4, none⟩ = some (.int .i64 x2) ∧
        Br (decide (x2 = 0))
        (Ip4V.ex fun h2 => CellsAt w3 ⟨g1, 0, none⟩ 0 h2.cells ∧
        Stores ⟨g2, 0, none⟩ 0 h2.cells w3 fun w5 =>
        Ip4V.ex fun res1 => CellsAt w5 ⟨g2, 0, none⟩ 0 res1.cells ∧
  R (.returned (.tuple #[res1.val, .int .i64 1, .int .i64 0])) w5)
        (J7 () w3))
        (J7 () w3))
    (fun _ w6 => reasm_Table_Offer4_J7 R t g1 g2 w6)))
    (fun ch w3 => R (.panicked ch) w3))
def reasm_Table_Offer4_H : Hints := [(7, []), (127, [(11, .int .i64)]), (255, [(11, .int .i64)]), (2046, [(94, .bool)]), (1023, [])]
set_option maxRecDepth 100000 in
theorem reasm_Table_Offer4_of (t : Option Addr) (h : Ip4V) (w : World) (R : Ending → World → Prop) (hvc_ : reasm_Table_Offer4_VC t h w R) :
    Calls Tryd.prog 5 #[.pointer t, h.val] w R :=
  calls_of_wpc callOk mixedOk (H := reasm_Table_Offer4_H) (args := [.pointer t, h.val]) (fn := Tryd.f5) (c := bodyOf Tryd.f5) Tryd.func5 rfl (Nat.le_of_ble_eq_true rfl)
    (Eq.mp (by kernel_rfl : reasm_Table_Offer4_VC t h w R = wpc Tryd.prog callF Tryd.f5.ntmps reasm_Table_Offer4_H 1 (bodyOf Tryd.f5) (argEnv 0 [.pointer t, h.val]) [] w (finish Tryd.prog callF Tryd.f5.results.toList R)) hvc_)

set_option maxRecDepth 100000 in
def reasm_Table_Offer6_J16382 (g1 : Nat) (g7 : Nat) (J8191 : (Unit → World → Prop)) (t147_ : Bool) (w32 : World) : Prop :=
  Br t147_
    (DrawVC w32 fun S3 w33 =>
    ∃ x21 : Option Addr, (∀ w' : World, S3 w' → w'.cell? ⟨g7, 0, none⟩ = some (.pointer x21)) ∧
    ∃ x22 : Option Addr, (∀ w' : World, S3 w' → w'.cell? ⟨g7, 0, none⟩ = some (.pointer x22)) ∧
    Ip6V.ex fun h14 => (∀ w' : World, S3 w' → CellsAt w' ⟨g1, 0, none⟩ 0 h14.cells) ∧
    Calls Tryd.prog 20 #[h14.val] w33 (onRet (fun r_7 w34 => Ip6V.ex fun h15 => r_7 = h15.val ∧
    S3 w34 ∧
    NilVC x21 fun p4 =>
    SetVC w34 (p4.add 42) (.bool true) fun w35 =>
    S3 w35 ∧
    NilVC x22 fun p5 =>
    Stores (p5.add 86) 0 h15.cells w35 fun w36 =>
    J8191 () w36)
      (fun _ _ => False)))
    (J8191 () w32)
set_option maxRecDepth 100000 in
def reasm_Table_Offer6_J8191 (R : Ending → World → Prop) (g2 : Nat) (x1 : Int) (g7 : Nat)  (w37 : World) : Prop :=
  ∃ x23 : Option Addr, w37.cell? ⟨g7, 0, none⟩ = some (.pointer x23) ∧
  NilVC x23 fun p6 =>
  ∃ x24 : Option Addr, w37.cell? (p6.add 40) = some (.pointer x24) ∧
  Calls Tryd.prog 16 #[.pointer x24] w37 (onRet (fun r_8 w38 => ∃ (x0A : Option Addr) (x0n x0c : Nat), ∃ x110 : Bool, r_8 = .tuple #[.slice x0A x0n x0c, .bool x110] ∧
  Br (!x110)
    (Stores ⟨g2, 0, none⟩ 0 (Ip6V.z : Ip6V).cells w38 fun w39 =>
    Ip6V.ex fun res6 => CellsAt w39 ⟨g2, 0, none⟩ 0 res6.cells ∧
  R (.returned (.tuple #[res6.val, .int .i64 0, .int .i64 2, .int .i64 0])) w39)
    (∃ x25 : Option Addr, w38.cell? ⟨g7, 0, none⟩ = some (.pointer x25) ∧
  NilVC x25 fun p7 =>
  Ip6V.ex fun h16 => CellsAt w38 (p7.add 86) 0 h16.cells ∧
  Calls Tryd.prog 21 #[h16.val, .slice x0A x0n x0c] w38 (onRet (fun r_9 w40 => Ip6V.ex fun h17 => ∃ x111 : Bool, r_9 = .tuple #[h17.val, .bool x111] ∧
  NewVC w40 (.cells (Ip6V.z : Ip6V).cells.toArray 43) fun g8 w41 =>
  Stores ⟨g8, 0, none⟩ 0 h17.cells w41 fun w42 =>
  Br (!x111)
    (DrawVC w42 fun S4 w43 =>
    ∃ x26 : Option Addr, (∀ w' : World, S4 w' → w'.cell? ⟨g7, 0, none⟩ = some (.pointer x26)) ∧
    ∃ x27 : Option Addr, (∀ w' : World, S4 w' → w'.cell? ⟨g7, 0, none⟩ = some (.pointer x27)) ∧
    NilVC x27 fun p8 =>
    ∃ x28 : Int, (∀ w' : World, S4 w' → w'.cell? (p8.add 41) = some (.int .i64 x28)) ∧
    Calls Tryd.prog 17 #[.pointer x26, .int .i64 126, .int .i64 (IntKind.i64.wrap (x28 - 1))] w43 (onRet (fun r_10 w44 => r_10 = .tuple #[] ∧
    Stores ⟨g2, 0, none⟩ 0 (Ip6V.z : Ip6V).cells w44 fun w45 =>
    Ip6V.ex fun res7 => CellsAt w45 ⟨g2, 0, none⟩ 0 res7.cells ∧
  R (.returned (.tuple #[res7.val, .int .i64 0, .int .i64 0, .int .i64 126])) w45)
      (fun _ _ => False)))
    (∃ x29 : Option Addr, w42.cell? ⟨g7, 0, none⟩ = some (.pointer x29) ∧
  Calls Tryd.prog 18 #[.pointer x29] w42 (onRet (fun r_11 w46 => r_11 = .tuple #[] ∧
  Ip6V.ex fun h18 => CellsAt w46 ⟨g8, 0, none⟩ 0 h18.cells ∧
  Stores ⟨g2, 0, none⟩ 0 h18.cells w46 fun w47 =>
  Ip6V.ex fun res8 => CellsAt w47 ⟨g2, 0, none⟩ 0 res8.cells ∧
  R (.returned (.tuple #[res8.val, .int .i64 x1, .int .i64 1, .int .i64 0])) w47)
    (fun ch11 w46 => R (.panicked ch11) w46))))
    (fun ch9 w40 => R (.panicked ch9) w40))))
    (fun ch8 w38 => R (.panicked ch8) w38))
set_option maxRecDepth 100000 in
def reasm_Table_Offer6_J2047 (R : Ending → World → Prop) (g1 : Nat) (g2 : Nat) (x1 : Int) (g7 : Nat) (e_ : Int) (w30 : World) : Prop :=
  Br (decide (e_ ≠ 0))
    (Stores ⟨g2, 0, none⟩ 0 (Ip6V.z : Ip6V).cells w30 fun w31 =>
    Ip6V.ex fun res5 => CellsAt w31 ⟨g2, 0, none⟩ 0 res5.cells ∧
  R (.returned (.tuple #[res5.val, .int .i64 0, .int .i64 0, .int .i64 e_])) w31)
    (JoinVC (S := Unit) (fun J8191 =>
      JoinVC (S := Bool) (fun J16382 =>
          ∃ x18 : Int, w30.cell? ⟨g1, 41, none⟩ = some (.int .i64 x18) ∧
          Br (decide (x18 = 0))
            (∃ x19 : Option Addr, w30.cell? ⟨g7, 0, none⟩ = some (.pointer x19) ∧
            NilVC x19 fun p3 =>
            ∃ x20 : Bool, w30.cell? (p3.add 42) = some (.bool x20) ∧
            J16382 (!x20) w30)
            (J16382 false w30))
        (fun s_ w32 => reasm_Table_Offer6_J16382 g1 g7 J8191 s_ w32))
    (fun _ w37 => reasm_Table_Offer6_J8191 R g2 x1 g7 w37))
set_option maxRecDepth 100000 in
def reasm_Table_Offer6_J255 (R : Ending → World → Prop) (t : Option Addr) (g1 : Nat) (g2 : Nat) (x1 : Int) (g6 : Nat) (c : Option Addr) (why : Int) (w21 : World) : Prop :=
  Calls Tryd.prog 12 #[.pointer c, .int .i64 125, .int .i64 why] w21 (onRet (fun r_3 w22 => ∃ x7 : Int, r_3 = .int .i64 x7 ∧
  Br (decide (x7 ≠ 0))
    (Stores ⟨g2, 0, none⟩ 0 (Ip6V.z : Ip6V).cells w22 fun w23 =>
    Ip6V.ex fun res4 => CellsAt w23 ⟨g2, 0, none⟩ 0 res4.cells ∧
  R (.returned (.tuple #[res4.val, .int .i64 0, .int .i64 0, .int .i64 x7])) w23)
    (KeyV.ex fun h11 => CellsAt w22 ⟨g6, 0, none⟩ 0 h11.cells ∧
  ∃ x8 : Int, w22.cell? ⟨g1, 41, none⟩ = some (.int .i64 x8) ∧
  ∃ (xA3 : Option Addr) (xn3 xc3 : Nat), w22.cell? ⟨g1, 43, none⟩ = some (.slice xA3 xn3 xc3) ∧
  ∃ x9 : Bool, w22.cell? ⟨g1, 39, none⟩ = some (.bool x9) ∧
  Calls Tryd.prog 13 #[.pointer t, h11.val, .int .i64 65495, .int .i64 x8, .slice xA3 xn3 xc3, .bool x9] w22 (onRet (fun r_4 w24 => LaidV.ex fun h12 => ∃ x12 : Int, r_4 = .tuple #[h12.val, .int .i64 x12] ∧
  NewVC w24 (.cells (LaidV.z : LaidV).cells.toArray 60) fun g7 w25 =>
  Stores ⟨g7, 0, none⟩ 0 h12.cells w25 fun w26 =>
  JoinVC (S := Int) (fun J2047 =>
      Br (decide (x12 ≠ 0))
        (J2047 x12 w26)
        (∃ x10 : Bool, w26.cell? ⟨g7, 4, none⟩ = some (.bool x10) ∧
        Br x10
          (J2047 121 w26)
          (∃ x13 : Int, w26.cell? ⟨g7, 3, none⟩ = some (.int .i64 x13) ∧
          Br (decide ((0 : Int) < x13))
            (DrawVC w26 fun S2 w27 =>
            ∃ x14 : Option Addr, (∀ w' : World, S2 w' → w'.cell? ⟨g7, 0, none⟩ = some (.pointer x14)) ∧
            ∃ x15 : Option Addr, (∀ w' : World, S2 w' → w'.cell? ⟨g7, 0, none⟩ = some (.pointer x15)) ∧
            NilVC x15 fun p2 =>
            ∃ x16 : Int, (∀ w' : World, S2 w' → w'.cell? (p2.add 41) = some (.int .i64 x16)) ∧
            Calls Tryd.prog 17 #[.pointer x14, .int .i64 122, .int .i64 x16] w27 (onRet (fun r_5 w28 => r_5 = .tuple #[] ∧
            J2047 122 w28)
              (fun _ _ => False)))
            (LaidV.ex fun h13 => CellsAt w26 ⟨g7, 0, none⟩ 0 h13.cells ∧
            Calls Tryd.prog 14 #[.pointer t, h13.val] w26 (onRet (fun r_6 w29 => ∃ x17 : Int, r_6 = .int .i64 x17 ∧
            J2047 x17 w29)
              (fun ch6 w29 => R (.panicked ch6) w29))))))
    (fun s_ w30 => reasm_Table_Offer6_J2047 R g1 g2 x1 g7 s_ w30))
    (fun ch4 w24 => R (.panicked ch4) w24))))
    (fun ch3 w22 => R (.panicked ch3) w22))
set_option maxRecDepth 100000 in
def reasm_Table_Offer6_J243 (R : Ending → World → Prop) (t : Option Addr) (g1 : Nat) (g2 : Nat) (x1 : Int) (t39_ : Bool) (w6 : World) : Prop :=
  Br t39_
    (∃ (xA : Option Addr) (xn xc : Nat), w6.cell? ⟨g1, 37, none⟩ = some (.slice xA xn xc) ∧
    Calls Tryd.prog 20 #[(⟨0, 0, 0, (IPV.z : IPV), (IPV.z : IPV), ⟨xA, xn, xc⟩, (FragV.z : FragV), 0, ⟨none, 0, 0⟩⟩ : Ip6V).val] w6 (onRet (fun r_1 w7 => Ip6V.ex fun h3 => r_1 = h3.val ∧
    NewVC w7 (.cells (Ip6V.z : Ip6V).cells.toArray 43) fun g3 w8 =>
    Stores ⟨g3, 0, none⟩ 0 h3.cells w8 fun w9 =>
    Ip6V.ex fun h4 => CellsAt w9 ⟨g1, 0, none⟩ 0 h4.cells ∧
    NewVC w9 (.cells (Ip6V.z : Ip6V).cells.toArray 43) fun g4 w10 =>
    Stores ⟨g4, 0, none⟩ 0 h4.cells w10 fun w11 =>
    ∃ (xA1 : Option Addr) (xn1 xc1 : Nat), w11.cell? ⟨g3, 37, none⟩ = some (.slice xA1 xn1 xc1) ∧
    SetVC w11 ⟨g4, 37, none⟩ (.slice xA1 xn1 xc1) fun w12 =>
    Ip6V.ex fun h5 => CellsAt w12 ⟨g4, 0, none⟩ 0 h5.cells ∧
    ∃ (xA2 : Option Addr) (xn2 xc2 : Nat), w12.cell? ⟨g1, 43, none⟩ = some (.slice xA2 xn2 xc2) ∧
    Calls Tryd.prog 21 #[h5.val, .slice xA2 xn2 xc2] w12 (onRet (fun r_2 w13 => Ip6V.ex fun h6 => ∃ x11 : Bool, r_2 = .tuple #[h6.val, .bool x11] ∧
    NewVC w13 (.cells (Ip6V.z : Ip6V).cells.toArray 43) fun g5 w14 =>
    Stores ⟨g5, 0, none⟩ 0 h6.cells w14 fun w15 =>
    Br (!x11)
      (Stores ⟨g2, 0, none⟩ 0 (Ip6V.z : Ip6V).cells w15 fun w16 =>
      Ip6V.ex fun res2 => CellsAt w16 ⟨g2, 0, none⟩ 0 res2.cells ∧
  R (.returned (.tuple #[res2.val, .int .i64 0, .int .i64 0, .int .i64 126])) w16)
      (Ip6V.ex fun h7 => CellsAt w15 ⟨g5, 0, none⟩ 0 h7.cells ∧
    Stores ⟨g2, 0, none⟩ 0 h7.cells w15 fun w17 =>
    Ip6V.ex fun res3 => CellsAt w17 ⟨g2, 0, none⟩ 0 res3.cells ∧
  R (.returned (.tuple #[res3.val, .int .i64 x1, .int .i64 1, .int .i64 0])) w17))
      (fun ch2 w13 => R (.panicked ch2) w13)))
      (fun ch1 w7 => R (.panicked ch1) w7)))
    (IPV.ex fun h8 => CellsAt w6 ⟨g1, 3, none⟩ 0 h8.cells ∧
  IPV.ex fun h9 => CellsAt w6 ⟨g1, 20, none⟩ 0 h9.cells ∧
  NewVC w6 (.cells (KeyV.z : KeyV).cells.toArray 54) fun g6 w18 =>
  Stores ⟨g6, 0, none⟩ 0 (⟨h8, h9, (-1), x1⟩ : KeyV).cells w18 fun w19 =>
  DrawVC w19 fun S1 w20 =>
  NilVC t fun p =>
  ∃ x5 : Option Nat, (∀ w' : World, S1 w' → w'.cell? (p.add 3) = some (.map x5)) ∧
  KeyV.ex fun h10 => (∀ w' : World, S1 w' → CellsAt w' ⟨g6, 0, none⟩ 0 h10.cells) ∧
  ∃ c : Option Addr, (∀ w' : World, S1 w' → (Instr.lookup 49 (.map x5) (h10.val) false).run Tryd.prog w' = .ok (.pointer c) w') ∧
  JoinVC (S := Int) (fun J255 =>
      Br (!(c.isNone))
        (NilVC c fun p1 =>
        ∃ x6 : Int, w20.cell? (p1.add 39) = some (.int .i64 x6) ∧
        J255 x6 w20)
        (J255 126 w20))
    (fun s_ w21 => reasm_Table_Offer6_J255 R t g1 g2 x1 g6 c s_ w21))
set_option maxRecDepth 100000 in
def reasm_Table_Offer6_VC (t : Option Addr) (h : Ip6V) (w : World) (R : Ending → World → Prop) : Prop :=
  NewVC w (.cells h.cells.toArray 43) fun g1 w1 =>
  NewVC w1 (.cells (Ip6V.z : Ip6V).cells.toArray 43) fun g2 w2 =>
  Ip6V.ex fun h1 => CellsAt w2 ⟨g1, 0, none⟩ 0 h1.cells ∧
  Calls Tryd.prog 19 #[h1.val] w2 (onRet (fun r_ w3 => ∃ x : Int, r_ = .int .i64 x ∧
  Br (decide (x ≠ 0))
    (Stores ⟨g2, 0, none⟩ 0 (Ip6V.z : Ip6V).cells w3 fun w4 =>
    Ip6V.ex fun res => CellsAt w4 ⟨g2, 0, none⟩ 0 res.cells ∧
  R (.returned (.tuple #[res.val, .int .i64 0, .int .i64 0, .int .i64 x])) w4)
    (∃ x1 : Int, w3.cell? ⟨g1, 40, none⟩ = some (.int .i64 x1) ∧
  ∃ x2 : Bool, w3.cell? ⟨g1, 38, none⟩ = some (.bool x2) ∧
  Br (!x2)
    (Ip6V.ex fun h2 => CellsAt w3 ⟨g1, 0, none⟩ 0 h2.cells ∧
    Stores ⟨g2, 0, none⟩ 0 h2.cells w3 fun w5 =>
    Ip6V.ex fun res1 => CellsAt w5 ⟨g2, 0, none⟩ 0 res1.cells ∧
  R (.returned (.tuple #[res1.val, .int .i64 0, .int .i64 1, .int .i64 0])) w5)
    (JoinVC (S := Bool) (fun J243 =>
        ∃ x3 : Int, w3.cell? ⟨g1, 41, none⟩ = some (.int .i64 x3) ∧
        Br (decide (x3 = 0))
          (∃ x4 : Bool, w3.cell? ⟨g1, 39, none⟩ = some (.bool x4) ∧
          J243 (!x4) w3)
          (J243 false w3))
      (fun s_ w6 => reasm_Table_Offer6_J243 R t g1 g2 x1 s_ w6))))
    (fun ch w3 => R (.panicked ch) w3))
def reasm_Table_Offer6_H : Hints := [(243, [(39, .bool)]), (255, [(16, .int .i64)]), (2047, [(19, .int .i64)]), (16382, [(147, .bool)]), (8191, [])]
set_option maxRecDepth 100000 in
theorem reasm_Table_Offer6_of (t : Option Addr) (h : Ip6V) (w : World) (R : Ending → World → Prop) (hvc_ : reasm_Table_Offer6_VC t h w R) :
    Calls Tryd.prog 8 #[.pointer t, h.val] w R :=
  calls_of_wpc callOk mixedOk (H := reasm_Table_Offer6_H) (args := [.pointer t, h.val]) (fn := Tryd.f8) (c := bodyOf Tryd.f8) Tryd.func8 rfl (Nat.le_of_ble_eq_true rfl)
    (Eq.mp (by kernel_rfl : reasm_Table_Offer6_VC t h w R = wpc Tryd.prog callF Tryd.f8.ntmps reasm_Table_Offer6_H 1 (bodyOf Tryd.f8) (argEnv 0 [.pointer t, h.val]) [] w (finish Tryd.prog callF Tryd.f8.results.toList R)) hvc_)

set_option maxRecDepth 100000 in
def reasm_Table_Tick_L58 (R : Ending → World → Prop) (t : Option Addr) (xA : Option Addr) (xn : Nat) (outA : Option Addr) (outn : Nat) (outc : Nat) (t10_ : Int) (w2 : World) (K58 : ((Option Addr × Nat × Nat) × Int → World → Prop)) : Prop :=
  Br (decide (t10_ < (xn : Int)))
    (IdxVC xA xn 1 t10_ fun a =>
  ∃ x : Option Addr, w2.cell? a = some (.pointer x) ∧
  NilVC x fun p =>
  ∃ x1 : Int, w2.cell? (p.add 37) = some (.int .i64 x1) ∧
  NilVC x fun p1 =>
  SetVC w2 (p1.add 37) (.int .i64 (IntKind.i64.wrap (x1 - 1))) fun w3 =>
  NilVC x fun p2 =>
  ∃ x2 : Int, w3.cell? (p2.add 37) = some (.int .i64 x2) ∧
  Br (decide ((0 : Int) < x2))
    (K58 ((outA, outn, outc), IntKind.i64.wrap (t10_ + 1)) w3)
    (DrawVC w3 fun S1 w4 =>
  NilVC t fun p3 =>
  ∃ x3 : Option Nat, (∀ w' : World, S1 w' → w'.cell? (p3.add 3) = some (.map x3)) ∧
  NilVC x fun p4 =>
  KeyV.ex fun h => (∀ w' : World, S1 w' → CellsAt w' p4 0 h.cells) ∧
  DelVC Tryd.prog #[49, 54] 0 (.map x3) (h.val) w4 fun w5 =>
  NilVC x fun p5 =>
  ∃ x4 : Int, w5.cell? (p5.add 38) = some (.int .i64 x4) ∧
  Br (decide (x4 = 1))
    (K58 ((outA, outn, outc), IntKind.i64.wrap (t10_ + 1)) w5)
    (DrawVC w5 fun S2 w6 =>
  NilVC x fun p6 =>
  ∃ x5 : Int, (∀ w' : World, S2 w' → w'.cell? (p6.add 41) = some (.int .i64 x5)) ∧
  NilVC x fun p7 =>
  ∃ x6 : Bool, (∀ w' : World, S2 w' → w'.cell? (p7.add 42) = some (.bool x6)) ∧
  NilVC x fun p8 =>
  Ip4V.ex fun h1 => (∀ w' : World, S2 w' → CellsAt w' (p8.add 43) 0 h1.cells) ∧
  NilVC x fun p9 =>
  Ip6V.ex fun h2 => (∀ w' : World, S2 w' → CellsAt w' (p9.add 86) 0 h2.cells) ∧
  NewVC w6 (.cells (LateV.z : LateV).cells.toArray 78) fun g1 w7 =>
  S2 w7 ∧
  Stores ⟨g1, 0, none⟩ 0 (⟨4, x5, x6, h1, h2⟩ : LateV).cells w7 fun w8 =>
  NilVC x fun p10 =>
  ∃ x7 : Int, w8.cell? p10 = some (.int .i64 x7) ∧
  Br (decide (x7 = 6))
    (SetVC w8 ⟨g1, 0, none⟩ (.int .i64 6) fun w9 =>
    LateV.ex fun h3 => CellsAt w9 ⟨g1, 0, none⟩ 0 h3.cells ∧
  NewVC w9 (.cells h3.cells.toArray 78) fun g2 w10 =>
  AppVC Tryd.prog #[46, 46] 46 (.slice outA outn outc) (.slice (some ⟨g2, 0, none⟩) 1 1) w10 fun lA ln lc w11 =>
  K58 ((lA, ln, lc), IntKind.i64.wrap (t10_ + 1)) w11)
    (LateV.ex fun h4 => CellsAt w8 ⟨g1, 0, none⟩ 0 h4.cells ∧
  NewVC w8 (.cells h4.cells.toArray 78) fun g3 w12 =>
  AppVC Tryd.prog #[46, 46] 46 (.slice outA outn outc) (.slice (some ⟨g3, 0, none⟩) 1 1) w12 fun lA1 ln1 lc1 w13 =>
  K58 ((lA1, ln1, lc1), IntKind.i64.wrap (t10_ + 1)) w13))))
    (R (.returned (.slice outA outn outc)) w2)
set_option maxRecDepth 100000 in
def reasm_Table_Tick_VC (t : Option Addr) (w : World) (R : Ending → World → Prop) : Prop :=
  Calls Tryd.prog 22 #[.pointer t, .int .i64 (-1)] w (onRet (fun r_ w1 => ∃ (xA : Option Addr) (xn xc : Nat), r_ = .slice xA xn xc ∧
  LoopVC (S := (Option Addr × Nat × Nat) × Int) (fun s_ w2 K58 => reasm_Table_Tick_L58 R t xA xn s_.1.1 s_.1.2.1 s_.1.2.2 s_.2 w2 K58) ((none, 0, 0), 0) w1)
    (fun ch w1 => R (.panicked ch) w1))
def reasm_Table_Tick_H : Hints := [(58, [(3, .slice), (10, .int .i64)])]
set_option maxRecDepth 100000 in
theorem reasm_Table_Tick_of (t : Option Addr) (w : World) (R : Ending → World → Prop) (hvc_ : reasm_Table_Tick_VC t w R) :
    Calls Tryd.prog 9 #[.pointer t] w R :=
  calls_of_wpc callOk mixedOk (H := reasm_Table_Tick_H) (args := [.pointer t]) (fn := Tryd.f9) (c := bodyOf Tryd.f9) Tryd.func9 rfl (Nat.le_of_ble_eq_true rfl)
    (Eq.mp (by kernel_rfl : reasm_Table_Tick_VC t w R = wpc Tryd.prog callF Tryd.f9.ntmps reasm_Table_Tick_H 1 (bodyOf Tryd.f9) (argEnv 0 [.pointer t]) [] w (finish Tryd.prog callF Tryd.f9.results.toList R)) hvc_)

set_option maxRecDepth 100000 in
def reasm_Table_Live_VC (t : Option Addr) (w : World) (R : Ending → World → Prop) : Prop :=
  NilVC t fun p =>
  ∃ x : Option Nat, w.cell? (p.add 3) = some (.map x) ∧
  LenVC Tryd.prog #[49] 3 (.map x) w fun n =>
  R (.returned (.int .i64 n)) w
def reasm_Table_Live_H : Hints := []
set_option maxRecDepth 100000 in
theorem reasm_Table_Live_of (t : Option Addr) (w : World) (R : Ending → World → Prop) (hvc_ : reasm_Table_Live_VC t w R) :
    Calls Tryd.prog 6 #[.pointer t] w R :=
  calls_of_wpc callOk mixedOk (H := reasm_Table_Live_H) (args := [.pointer t]) (fn := Tryd.f6) (c := bodyOf Tryd.f6) Tryd.func6 rfl (Nat.le_of_ble_eq_true rfl)
    (Eq.mp (by kernel_rfl : reasm_Table_Live_VC t w R = wpc Tryd.prog callF Tryd.f6.ntmps reasm_Table_Live_H 1 (bodyOf Tryd.f6) (argEnv 0 [.pointer t]) [] w (finish Tryd.prog callF Tryd.f6.results.toList R)) hvc_)

set_option maxRecDepth 100000 in
def reasm_Table_Held_L58 (R : Ending → World → Prop) (g1 : Nat) (n : Int) (w2 : World) (K58 : (Int → World → Prop)) : Prop :=
  NextVC Tryd.prog (.pointer (some ⟨g1, 0, none⟩)) 0 w2 (fun w3 =>
    R (.returned (.int .i64 n)) w3)
   (fun _nk _nv w4 =>
    EntryVC Tryd.prog (.pointer (some ⟨g1, 0, none⟩)) w4 fun _ek ep =>
  NilVC ep fun p1 =>
  ∃ x1 : Int, w4.cell? (p1.add 41) = some (.int .i64 x1) ∧
  K58 (IntKind.i64.wrap (n + x1)) w4)
set_option maxRecDepth 100000 in
def reasm_Table_Held_VC (t : Option Addr) (w : World) (R : Ending → World → Prop) : Prop :=
  NilVC t fun p =>
  ∃ x : Option Nat, w.cell? (p.add 3) = some (.map x) ∧
  RangeVC Tryd.prog 49 (.map x) w fun g1 w1 =>
  LoopVC (S := Int) (fun s_ w2 K58 => reasm_Table_Held_L58 R g1 s_ w2 K58) 0 w1
def reasm_Table_Held_H : Hints := [(58, [(3, .int .i64)])]
set_option maxRecDepth 100000 in
theorem reasm_Table_Held_of (t : Option Addr) (w : World) (R : Ending → World → Prop) (hvc_ : reasm_Table_Held_VC t w R) :
    Calls Tryd.prog 7 #[.pointer t] w R :=
  calls_of_wpc callOk mixedOk (H := reasm_Table_Held_H) (args := [.pointer t]) (fn := Tryd.f7) (c := bodyOf Tryd.f7) Tryd.func7 rfl (Nat.le_of_ble_eq_true rfl)
    (Eq.mp (by kernel_rfl : reasm_Table_Held_VC t w R = wpc Tryd.prog callF Tryd.f7.ntmps reasm_Table_Held_H 1 (bodyOf Tryd.f7) (argEnv 0 [.pointer t]) [] w (finish Tryd.prog callF Tryd.f7.results.toList R)) hvc_)

set_option maxRecDepth 100000 in
def reasm_Table_Finished_VC (t : Option Addr) (w : World) (R : Ending → World → Prop) : Prop :=
  Calls Tryd.prog 22 #[.pointer t, .int .i64 1] w (onRet (fun r_ w1 => ∃ (xA : Option Addr) (xn xc : Nat), r_ = .slice xA xn xc ∧
  R (.returned (.int .i64 (xn : Int))) w1)
    (fun ch w1 => R (.panicked ch) w1))
def reasm_Table_Finished_H : Hints := []
set_option maxRecDepth 100000 in
theorem reasm_Table_Finished_of (t : Option Addr) (w : World) (R : Ending → World → Prop) (hvc_ : reasm_Table_Finished_VC t w R) :
    Calls Tryd.prog 10 #[.pointer t] w R :=
  calls_of_wpc callOk mixedOk (H := reasm_Table_Finished_H) (args := [.pointer t]) (fn := Tryd.f10) (c := bodyOf Tryd.f10) Tryd.func10 rfl (Nat.le_of_ble_eq_true rfl)
    (Eq.mp (by kernel_rfl : reasm_Table_Finished_VC t w R = wpc Tryd.prog callF Tryd.f10.ntmps reasm_Table_Finished_H 1 (bodyOf Tryd.f10) (argEnv 0 [.pointer t]) [] w (finish Tryd.prog callF Tryd.f10.results.toList R)) hvc_)
end N6
end Go.Proofs.YthhgbpmihhljdaaDoor
