/- WRITTEN BY a program of this session (vc.py): for each Go function the condition that is enough for its contract, and the theorem that it is. -/
import Derived.Test.YteppichfkeknbaaDoorProg
import Derived.Test.YteppichfkeknbaaDoorBq
import Derived.Test.YteppichfkeknbaaDoorCb
import Derived.Test.YteppichfkeknbaaDoorBe
import Derived.Test.YteppichfkeknbaaDoorCc
import Derived.Test.YteppichfkeknbaaDoorCd
namespace Go.Proofs.YteppichfkeknbaaDoor
open Go.Eng
namespace N6

set_option maxRecDepth 100000 in
def weirlaw13_placed_VC (at_ : Int) (n : Int) (w : World) (R : Ending → World → Prop) : Prop :=
  DivVC n (
  Br (decide (Int.tmod at_ n < 0))
    (R (.returned (.int .i64 (IntKind.i64.wrap (Int.tmod at_ n + n)))) w)
    (R (.returned (.int .i64 (Int.tmod at_ n))) w))
def weirlaw13_placed_H : Hints := []
set_option maxRecDepth 100000 in
theorem weirlaw13_placed_of (at_ : Int) (n : Int) (w : World) (R : Ending → World → Prop) (hvc_ : weirlaw13_placed_VC at_ n w R) :
    Calls Tryd.prog 77 #[.int .i64 at_, .int .i64 n] w R :=
  calls_of_wpc callOk mixedOk (H := weirlaw13_placed_H) (args := [.int .i64 at_, .int .i64 n]) (fn := Tryd.f77) (c := bodyOf Tryd.f77) Tryd.func77 rfl (Nat.le_of_ble_eq_true rfl)
    (Eq.mp (by kernel_rfl : weirlaw13_placed_VC at_ n w R = wpc Tryd.prog callF Tryd.f77.ntmps weirlaw13_placed_H 1 (bodyOf Tryd.f77) (argEnv 0 [.int .i64 at_, .int .i64 n]) [] w (finish Tryd.prog callF Tryd.f77.results.toList R)) hvc_)

set_option maxRecDepth 100000 in
def weirlaw13_put_VC (lA : Option Addr) (ln : Nat) (_lc : Nat) (at_ : Int) (by_ : Int) (w : World) (R : Ending → World → Prop) : Prop :=
  Br (decide ((0 : Int) < (ln : Int)))
    (Calls Tryd.prog 77 #[.int .i64 at_, .int .i64 (ln : Int)] w (onRet (fun r_ w1 => ∃ x : Int, r_ = .int .i64 x ∧
    IdxVC lA ln 1 x fun a =>
    SetVC w1 a (.int .u8 (IntKind.u8.wrap by_)) fun w2 =>
    R (.returned (.tuple #[])) w2)
      (fun ch w1 => R (.panicked ch) w1)))
    (R (.returned (.tuple #[])) w)
def weirlaw13_put_H : Hints := []
set_option maxRecDepth 100000 in
theorem weirlaw13_put_of (lA : Option Addr) (ln : Nat) (lc : Nat) (at_ : Int) (by_ : Int) (w : World) (R : Ending → World → Prop) (hvc_ : weirlaw13_put_VC lA ln lc at_ by_ w R) :
    Calls Tryd.prog 76 #[.slice lA ln lc, .int .i64 at_, .int .i64 by_] w R :=
  calls_of_wpc callOk mixedOk (H := weirlaw13_put_H) (args := [.slice lA ln lc, .int .i64 at_, .int .i64 by_]) (fn := Tryd.f76) (c := bodyOf Tryd.f76) Tryd.func76 rfl (Nat.le_of_ble_eq_true rfl)
    (Eq.mp (by kernel_rfl : weirlaw13_put_VC lA ln lc at_ by_ w R = wpc Tryd.prog callF Tryd.f76.ntmps weirlaw13_put_H 1 (bodyOf Tryd.f76) (argEnv 0 [.slice lA ln lc, .int .i64 at_, .int .i64 by_]) [] w (finish Tryd.prog callF Tryd.f76.results.toList R)) hvc_)

set_option maxRecDepth 100000 in
def weirlaw13_bent_J245 (h : Option Addr) (g1 : Nat) (J15 : (Unit → World → Prop)) (x7 : Int)  (w12 : World) : Prop :=
  ∃ x11 : Int, w12.cell? ⟨g1, 0, none⟩ = some (.int .i64 x11) ∧
  Br (decide (x11 = 3))
    (DrawVC w12 fun S5 w13 =>
    NilVC h fun p5 =>
    ∃ (xA6 : Option Addr) (xn6 xc6 : Nat), (∀ w' : World, S5 w' → w'.cell? (p5.add 41) = some (.slice xA6 xn6 xc6)) ∧
    ∃ x12 : Int, (∀ w' : World, S5 w' → w'.cell? ⟨g1, 1, none⟩ = some (.int .i64 x12)) ∧
    IdxVC xA6 xn6 2 x7 fun a1 =>
    SetVC w13 a1 (.int .i64 x12) fun w14 =>
    J15 () w14)
    (J15 () w12)
set_option maxRecDepth 100000 in
def weirlaw13_bent_J253 (R : Ending → World → Prop) (g : Option Addr) (g1 : Nat) (x14 : Int)  (w20 : World) : Prop :=
  ∃ x17 : Int, w20.cell? ⟨g1, 0, none⟩ = some (.int .i64 x17) ∧
  Br (decide (x17 = 5))
    (DrawVC w20 fun S8 w21 =>
    NilVC g fun p9 =>
    ∃ (xA10 : Option Addr) (xn10 xc10 : Nat), (∀ w' : World, S8 w' → w'.cell? (p9.add 37) = some (.slice xA10 xn10 xc10)) ∧
    IdxVC xA10 xn10 3 x14 fun a3 =>
    ∃ (xA11 : Option Addr) (xn11 xc11 : Nat), (∀ w' : World, S8 w' → w'.cell? (a3.add 2) = some (.slice xA11 xn11 xc11)) ∧
    ∃ x18 : Int, (∀ w' : World, S8 w' → w'.cell? ⟨g1, 2, none⟩ = some (.int .i64 x18)) ∧
    ∃ x19 : Int, (∀ w' : World, S8 w' → w'.cell? ⟨g1, 1, none⟩ = some (.int .i64 x19)) ∧
    Calls Tryd.prog 76 #[.slice xA11 xn11 xc11, .int .i64 x18, .int .i64 x19] w21 (onRet (fun r_5 w22 => r_5 = .tuple #[] ∧
    R (.returned (.tuple #[])) w22)
      (fun _ _ => False)))
    (R (.returned (.tuple #[])) w20)
set_option maxRecDepth 100000 in
def weirlaw13_bent_J15 (R : Ending → World → Prop) (g : Option Addr) (g1 : Nat)  (w15 : World) : Prop :=
  NilVC g fun p6 =>
  ∃ (xA7 : Option Addr) (xn7 xc7 : Nat), w15.cell? (p6.add 37) = some (.slice xA7 xn7 xc7) ∧
  Br (decide ((0 : Int) < (xn7 : Int)))
    (DrawVC w15 fun S6 w16 =>
    ∃ x13 : Int, (∀ w' : World, S6 w' → w'.cell? ⟨g1, 1, none⟩ = some (.int .i64 x13)) ∧
    NilVC g fun p7 =>
    ∃ (xA8 : Option Addr) (xn8 xc8 : Nat), (∀ w' : World, S6 w' → w'.cell? (p7.add 37) = some (.slice xA8 xn8 xc8)) ∧
    Calls Tryd.prog 77 #[.int .i64 x13, .int .i64 (xn8 : Int)] w16 (onRet (fun r_4 w17 => ∃ x14 : Int, r_4 = .int .i64 x14 ∧
    S6 w17 ∧
    JoinVC (S := Unit) (fun J253 =>
        ∃ x15 : Int, w17.cell? ⟨g1, 0, none⟩ = some (.int .i64 x15) ∧
        Br (decide (x15 = 4))
          (DrawVC w17 fun S7 w18 =>
          NilVC g fun p8 =>
          ∃ (xA9 : Option Addr) (xn9 xc9 : Nat), (∀ w' : World, S7 w' → w'.cell? (p8.add 37) = some (.slice xA9 xn9 xc9)) ∧
          ∃ x16 : Int, (∀ w' : World, S7 w' → w'.cell? ⟨g1, 2, none⟩ = some (.int .i64 x16)) ∧
          IdxVC xA9 xn9 3 x14 fun a2 =>
          SetVC w18 a2 (.int .i64 x16) fun w19 =>
          J253 () w19)
          (J253 () w17))
      (fun _ w20 => weirlaw13_bent_J253 R g g1 x14 w20))
      (fun _ _ => False)))
    (R (.returned (.tuple #[])) w15)
set_option maxRecDepth 100000 in
def weirlaw13_bent_J7 (R : Ending → World → Prop) (h : Option Addr) (g : Option Addr) (g1 : Nat)  (w7 : World) : Prop :=
  JoinVC (S := Unit) (fun J15 =>
      NilVC h fun p2 =>
      ∃ (xA2 : Option Addr) (xn2 xc2 : Nat), w7.cell? (p2.add 41) = some (.slice xA2 xn2 xc2) ∧
      Br (decide ((0 : Int) < (xn2 : Int)))
        (DrawVC w7 fun S3 w8 =>
        ∃ x6 : Int, (∀ w' : World, S3 w' → w'.cell? ⟨g1, 2, none⟩ = some (.int .i64 x6)) ∧
        NilVC h fun p3 =>
        ∃ (xA3 : Option Addr) (xn3 xc3 : Nat), (∀ w' : World, S3 w' → w'.cell? (p3.add 41) = some (.slice xA3 xn3 xc3)) ∧
        Calls Tryd.prog 77 #[.int .i64 x6, .int .i64 (xn3 : Int)] w8 (onRet (fun r_2 w9 => ∃ x7 : Int, r_2 = .int .i64 x7 ∧
        S3 w9 ∧
        JoinVC (S := Unit) (fun J245 =>
            ∃ x8 : Int, w9.cell? ⟨g1, 0, none⟩ = some (.int .i64 x8) ∧
            Br (decide (x8 = 2))
              (DrawVC w9 fun S4 w10 =>
              NilVC h fun p4 =>
              ∃ (xA4 : Option Addr) (xn4 xc4 : Nat), (∀ w' : World, S4 w' → w'.cell? (p4.add 41) = some (.slice xA4 xn4 xc4)) ∧
              IdxVC xA4 xn4 2 x7 fun a =>
              ∃ (xA5 : Option Addr) (xn5 xc5 : Nat), (∀ w' : World, S4 w' → w'.cell? (a.add 1) = some (.slice xA5 xn5 xc5)) ∧
              ∃ x9 : Int, (∀ w' : World, S4 w' → w'.cell? ⟨g1, 1, none⟩ = some (.int .i64 x9)) ∧
              ∃ x10 : Int, (∀ w' : World, S4 w' → w'.cell? ⟨g1, 2, none⟩ = some (.int .i64 x10)) ∧
              Calls Tryd.prog 76 #[.slice xA5 xn5 xc5, .int .i64 x9, .int .i64 x10] w10 (onRet (fun r_3 w11 => r_3 = .tuple #[] ∧
              J245 () w11)
                (fun _ _ => False)))
              (J245 () w9))
          (fun _ w12 => weirlaw13_bent_J245 h g1 J15 x7 w12))
          (fun _ _ => False)))
        (J15 () w7))
    (fun _ w15 => weirlaw13_bent_J15 R g g1 w15)
set_option maxRecDepth 100000 in
def weirlaw13_bent_J3 (R : Ending → World → Prop) (h : Option Addr) (g : Option Addr) (g1 : Nat)  (w4 : World) : Prop :=
  JoinVC (S := Unit) (fun J7 =>
      ∃ x3 : Int, w4.cell? ⟨g1, 0, none⟩ = some (.int .i64 x3) ∧
      Br (decide (x3 = 1))
        (DrawVC w4 fun S2 w5 =>
        NilVC g fun p1 =>
        ∃ (xA1 : Option Addr) (xn1 xc1 : Nat), (∀ w' : World, S2 w' → w'.cell? (p1.add 43) = some (.slice xA1 xn1 xc1)) ∧
        ∃ x4 : Int, (∀ w' : World, S2 w' → w'.cell? ⟨g1, 1, none⟩ = some (.int .i64 x4)) ∧
        ∃ x5 : Int, (∀ w' : World, S2 w' → w'.cell? ⟨g1, 2, none⟩ = some (.int .i64 x5)) ∧
        Calls Tryd.prog 76 #[.slice xA1 xn1 xc1, .int .i64 x4, .int .i64 x5] w5 (onRet (fun r_1 w6 => r_1 = .tuple #[] ∧
        J7 () w6)
          (fun _ _ => False)))
        (J7 () w4))
    (fun _ w7 => weirlaw13_bent_J7 R h g g1 w7)
set_option maxRecDepth 100000 in
def weirlaw13_bent_VC (h : Option Addr) (g : Option Addr) (t : TurnV) (w : World) (R : Ending → World → Prop) : Prop :=
  NewVC w (.cells t.cells.toArray 73) fun g1 w1 =>
  JoinVC (S := Unit) (fun J3 =>
      ∃ x : Int, w1.cell? ⟨g1, 0, none⟩ = some (.int .i64 x) ∧
      Br (decide (x = 0))
        (DrawVC w1 fun S1 w2 =>
        NilVC h fun p =>
        ∃ (xA : Option Addr) (xn xc : Nat), (∀ w' : World, S1 w' → w'.cell? (p.add 42) = some (.slice xA xn xc)) ∧
        ∃ x1 : Int, (∀ w' : World, S1 w' → w'.cell? ⟨g1, 1, none⟩ = some (.int .i64 x1)) ∧
        ∃ x2 : Int, (∀ w' : World, S1 w' → w'.cell? ⟨g1, 2, none⟩ = some (.int .i64 x2)) ∧
        Calls Tryd.prog 76 #[.slice xA xn xc, .int .i64 x1, .int .i64 x2] w2 (onRet (fun r_ w3 => r_ = .tuple #[] ∧
        J3 () w3)
          (fun _ _ => False)))
        (J3 () w1))
    (fun _ w4 => weirlaw13_bent_J3 R h g g1 w4)
def weirlaw13_bent_H : Hints := [(3, []), (7, []), (245, []), (15, []), (253, [])]
set_option maxRecDepth 100000 in
theorem weirlaw13_bent_of (h : Option Addr) (g : Option Addr) (t : TurnV) (w : World) (R : Ending → World → Prop) (hvc_ : weirlaw13_bent_VC h g t w R) :
    Calls Tryd.prog 40 #[.pointer h, .pointer g, t.val] w R :=
  calls_of_wpc callOk mixedOk (H := weirlaw13_bent_H) (args := [.pointer h, .pointer g, t.val]) (fn := Tryd.f40) (c := bodyOf Tryd.f40) Tryd.func40 rfl (Nat.le_of_ble_eq_true rfl)
    (Eq.mp (by kernel_rfl : weirlaw13_bent_VC h g t w R = wpc Tryd.prog callF Tryd.f40.ntmps weirlaw13_bent_H 1 (bodyOf Tryd.f40) (argEnv 0 [.pointer h, .pointer g, t.val]) [] w (finish Tryd.prog callF Tryd.f40.results.toList R)) hvc_)

set_option maxRecDepth 100000 in
def weirlaw13_copied4_VC (h : Ip4V) (w : World) (R : Ending → World → Prop) : Prop :=
  NewVC w (.cells h.cells.toArray 28) fun g1 w1 =>
  NewVC w1 (.cells (Ip4V.z : Ip4V).cells.toArray 28) fun g2 w2 =>
  Ip4V.ex fun h1 => CellsAt w2 ⟨g1, 0, none⟩ 0 h1.cells ∧
  NewVC w2 (.cells (Ip4V.z : Ip4V).cells.toArray 28) fun g3 w3 =>
  Stores ⟨g3, 0, none⟩ 0 h1.cells w3 fun w4 =>
  ∃ (xA : Option Addr) (xn xc : Nat), w4.cell? ⟨g1, 41, none⟩ = some (.slice xA xn xc) ∧
  Calls Tryd.prog 18 #[.slice xA xn xc] w4 (onRet (fun r_ w5 => ∃ (xA1 : Option Addr) (xn1 xc1 : Nat), r_ = .slice xA1 xn1 xc1 ∧
  SetVC w5 ⟨g3, 41, none⟩ (.slice xA1 xn1 xc1) fun w6 =>
  NewVC w6 (.cells #[] 5) fun g4 w7 =>
  ∃ (xA2 : Option Addr) (xn2 xc2 : Nat), w7.cell? ⟨g1, 42, none⟩ = some (.slice xA2 xn2 xc2) ∧
  AppVC Tryd.prog #[26, 26] 26 (.slice (some ⟨g4, 0, none⟩) 0 0) (.slice xA2 xn2 xc2) w7 fun lA ln lc w8 =>
  SetVC w8 ⟨g3, 42, none⟩ (.slice lA ln lc) fun w9 =>
  Ip4V.ex fun h2 => CellsAt w9 ⟨g3, 0, none⟩ 0 h2.cells ∧
  Stores ⟨g2, 0, none⟩ 0 h2.cells w9 fun w10 =>
  Ip4V.ex fun res => CellsAt w10 ⟨g2, 0, none⟩ 0 res.cells ∧
  R (.returned res.val) w10)
    (fun ch w5 => R (.panicked ch) w5))
def weirlaw13_copied4_H : Hints := []
set_option maxRecDepth 100000 in
theorem weirlaw13_copied4_of (h : Ip4V) (w : World) (R : Ending → World → Prop) (hvc_ : weirlaw13_copied4_VC h w R) :
    Calls Tryd.prog 34 #[h.val] w R :=
  calls_of_wpc callOk mixedOk (H := weirlaw13_copied4_H) (args := [h.val]) (fn := Tryd.f34) (c := bodyOf Tryd.f34) Tryd.func34 rfl (Nat.le_of_ble_eq_true rfl)
    (Eq.mp (by kernel_rfl : weirlaw13_copied4_VC h w R = wpc Tryd.prog callF Tryd.f34.ntmps weirlaw13_copied4_H 1 (bodyOf Tryd.f34) (argEnv 0 [h.val]) [] w (finish Tryd.prog callF Tryd.f34.results.toList R)) hvc_)

set_option maxRecDepth 100000 in
def weirlaw13_SplitAgain_L122 (R : Ending → World → Prop) (mtu : Int) (id : Int) (turnsA : Option Addr) (turnsn : Nat) (g3 : Nat) (g4 : Nat) (i : Int) (w9 : World) (K122 : (Int → World → Prop)) : Prop :=
  Br (decide (i ≤ (turnsn : Int)))
    (Ip4V.ex fun h5 => CellsAt w9 ⟨g3, 0, none⟩ 0 h5.cells ∧
  Calls Tryd.prog 34 #[h5.val] w9 (onRet (fun r_2 w10 => Ip4V.ex fun h6 => r_2 = h6.val ∧
  NewVC w10 (.cells (Ip4V.z : Ip4V).cells.toArray 28) fun g5 w11 =>
  Stores ⟨g5, 0, none⟩ 0 h6.cells w11 fun w12 =>
  Ip6V.ex fun h7 => CellsAt w12 ⟨g4, 0, none⟩ 0 h7.cells ∧
  Calls Tryd.prog 19 #[h7.val] w12 (onRet (fun r_3 w13 => Ip6V.ex fun h8 => r_3 = h8.val ∧
  NewVC w13 (.cells (Ip6V.z : Ip6V).cells.toArray 44) fun g6 w14 =>
  Stores ⟨g6, 0, none⟩ 0 h8.cells w14 fun w15 =>
  Ip4V.ex fun h9 => CellsAt w15 ⟨g3, 0, none⟩ 0 h9.cells ∧
  Calls Tryd.prog 12 #[h9.val, .int .i64 mtu] w15 (onRet (fun r_4 w16 => ∃ (x0A : Option Addr) (x0n x0c : Nat), ∃ x1 : Int, r_4 = .tuple #[.slice x0A x0n x0c, .int .i64 x1] ∧
  Ip4V.ex fun h10 => CellsAt w16 ⟨g5, 0, none⟩ 0 h10.cells ∧
  Calls Tryd.prog 35 #[h10.val, .int .i64 mtu] w16 (onRet (fun r_5 w17 => ∃ (x0A1 : Option Addr) (x0n1 x0c1 : Nat), ∃ x11 : Int, r_5 = .tuple #[.slice x0A1 x0n1 x0c1, .int .i64 x11] ∧
  Ip6V.ex fun h11 => CellsAt w17 ⟨g4, 0, none⟩ 0 h11.cells ∧
  Calls Tryd.prog 20 #[h11.val, .int .i64 mtu, .int .i64 id] w17 (onRet (fun r_6 w18 => ∃ (x0A2 : Option Addr) (x0n2 x0c2 : Nat), ∃ x12 : Int, r_6 = .tuple #[.slice x0A2 x0n2 x0c2, .int .i64 x12] ∧
  Ip6V.ex fun h12 => CellsAt w18 ⟨g6, 0, none⟩ 0 h12.cells ∧
  Calls Tryd.prog 36 #[h12.val, .int .i64 mtu, .int .i64 id] w18 (onRet (fun r_7 w19 => ∃ (x0A3 : Option Addr) (x0n3 x0c3 : Nat), ∃ x13 : Int, r_7 = .tuple #[.slice x0A3 x0n3 x0c3, .int .i64 x13] ∧
  Ip4V.ex fun h13 => CellsAt w19 ⟨g3, 0, none⟩ 0 h13.cells ∧
  Calls Tryd.prog 37 #[h13.val, .int .i64 mtu] w19 (onRet (fun r_8 w20 => ∃ x : Bool, r_8 = .bool x ∧
  Ip6V.ex fun h14 => CellsAt w20 ⟨g4, 0, none⟩ 0 h14.cells ∧
  Calls Tryd.prog 33 #[h14.val, .int .i64 mtu] w20 (onRet (fun r_9 w21 => ∃ x2 : Bool, r_9 = .bool x2 ∧
  Calls Tryd.prog 13 #[.int .i64 x1] w21 (onRet (fun r_10 w22 => ∃ x3 : Int, r_10 = .int .i64 x3 ∧
  Br (decide (x3 ≠ x11))
    (R (.returned (.bool false)) w22)
    (Calls Tryd.prog 13 #[.int .i64 x12] w22 (onRet (fun r_11 w23 => ∃ x4 : Int, r_11 = .int .i64 x4 ∧
    Br (decide (x4 ≠ x13))
      (R (.returned (.bool false)) w23)
      (Calls Tryd.prog 28 #[.slice x0A x0n x0c, .slice x0A1 x0n1 x0c1] w23 (onRet (fun r_12 w24 => ∃ x5 : Bool, r_12 = .bool x5 ∧
      Br (!x5)
        (R (.returned (.bool false)) w24)
        (Calls Tryd.prog 29 #[.slice x0A2 x0n2 x0c2, .slice x0A3 x0n3 x0c3] w24 (onRet (fun r_13 w25 => ∃ x6 : Bool, r_13 = .bool x6 ∧
        Br (!x6)
          (R (.returned (.bool false)) w25)
          (Ip4V.ex fun h15 => CellsAt w25 ⟨g5, 0, none⟩ 0 h15.cells ∧
          Calls Tryd.prog 38 #[h15.val, .int .i64 mtu] w25 (onRet (fun r_14 w26 => ∃ x7 : Bool, r_14 = .bool x7 ∧
          Br (!(x == x7))
            (R (.returned (.bool false)) w26)
            (Ip6V.ex fun h16 => CellsAt w26 ⟨g6, 0, none⟩ 0 h16.cells ∧
            Calls Tryd.prog 39 #[h16.val, .int .i64 mtu] w26 (onRet (fun r_15 w27 => ∃ x8 : Bool, r_15 = .bool x8 ∧
            Br (!(x2 == x8))
    (R (.returned (.bool false)) w27)
    (Ip4V.ex fun h17 => CellsAt w27 ⟨g3, 0, none⟩ 0 h17.cells ∧
  Ip4V.ex fun h18 => CellsAt w27 ⟨g5, 0, none⟩ 0 h18.cells ∧
  Calls Tryd.prog 16 #[h17.val, h18.val] w27 (onRet (fun r_16 w28 => ∃ x9 : Bool, r_16 = .bool x9 ∧
  Br (!x9)
    (R (.returned (.bool false)) w28)
    (Ip6V.ex fun h19 => CellsAt w28 ⟨g4, 0, none⟩ 0 h19.cells ∧
    Ip6V.ex fun h20 => CellsAt w28 ⟨g6, 0, none⟩ 0 h20.cells ∧
    Calls Tryd.prog 25 #[h19.val, h20.val] w28 (onRet (fun r_17 w29 => ∃ x10 : Bool, r_17 = .bool x10 ∧
    Br (!x10)
    (R (.returned (.bool false)) w29)
    (Br (decide (i < (turnsn : Int)))
    (IdxVC turnsA turnsn 3 i fun a =>
    TurnV.ex fun h21 => CellsAt w29 a 0 h21.cells ∧
    Calls Tryd.prog 40 #[.pointer (some ⟨g3, 0, none⟩), .pointer (some ⟨g4, 0, none⟩), h21.val] w29 (onRet (fun r_18 w30 => r_18 = .tuple #[] ∧
    K122 (IntKind.i64.wrap (i + 1)) w30)
      (fun ch18 w30 => R (.panicked ch18) w30)))
    (K122 (IntKind.i64.wrap (i + 1)) w29)))
      (fun ch17 w29 => R (.panicked ch17) w29))))
    (fun ch16 w28 => R (.panicked ch16) w28))))
              (fun ch15 w27 => R (.panicked ch15) w27))))
            (fun ch14 w26 => R (.panicked ch14) w26))))
          (fun ch13 w25 => R (.panicked ch13) w25))))
        (fun ch12 w24 => R (.panicked ch12) w24))))
      (fun ch11 w23 => R (.panicked ch11) w23))))
    (fun ch10 w22 => R (.panicked ch10) w22)))
    (fun ch9 w21 => R (.panicked ch9) w21)))
    (fun ch8 w20 => R (.panicked ch8) w20)))
    (fun ch7 w19 => R (.panicked ch7) w19)))
    (fun ch6 w18 => R (.panicked ch6) w18)))
    (fun ch5 w17 => R (.panicked ch5) w17)))
    (fun ch4 w16 => R (.panicked ch4) w16)))
    (fun ch3 w13 => R (.panicked ch3) w13)))
    (fun ch2 w10 => R (.panicked ch2) w10)))
    (Calls Tryd.prog 14 #[] w9 (onRet (fun r_19 w31 => ∃ x14 : Bool, r_19 = .bool x14 ∧
  R (.returned (.bool x14)) w31)
    (fun ch19 w31 => R (.panicked ch19) w31)))
set_option maxRecDepth 100000 in
def weirlaw13_SplitAgain_VC (h : Ip4V) (g : Ip6V) (mtu : Int) (id : Int) (turnsA : Option Addr) (turnsn : Nat) (_turnsc : Nat) (w : World) (R : Ending → World → Prop) : Prop :=
  NewVC w (.cells h.cells.toArray 28) fun g1 w1 =>
  NewVC w1 (.cells g.cells.toArray 44) fun g2 w2 =>
  Ip4V.ex fun h1 => CellsAt w2 ⟨g1, 0, none⟩ 0 h1.cells ∧
  Calls Tryd.prog 34 #[h1.val] w2 (onRet (fun r_ w3 => Ip4V.ex fun h2 => r_ = h2.val ∧
  NewVC w3 (.cells (Ip4V.z : Ip4V).cells.toArray 28) fun g3 w4 =>
  Stores ⟨g3, 0, none⟩ 0 h2.cells w4 fun w5 =>
  Ip6V.ex fun h3 => CellsAt w5 ⟨g2, 0, none⟩ 0 h3.cells ∧
  Calls Tryd.prog 19 #[h3.val] w5 (onRet (fun r_1 w6 => Ip6V.ex fun h4 => r_1 = h4.val ∧
  NewVC w6 (.cells (Ip6V.z : Ip6V).cells.toArray 44) fun g4 w7 =>
  Stores ⟨g4, 0, none⟩ 0 h4.cells w7 fun w8 =>
  LoopVC (S := Int) (fun s_ w9 K122 => weirlaw13_SplitAgain_L122 R mtu id turnsA turnsn g3 g4 s_ w9 K122) 0 w8)
    (fun ch1 w6 => R (.panicked ch1) w6)))
    (fun ch w3 => R (.panicked ch) w3))
def weirlaw13_SplitAgain_H : Hints := [(122, [(13, .int .i64)])]
set_option maxRecDepth 100000 in
theorem weirlaw13_SplitAgain_of (h : Ip4V) (g : Ip6V) (mtu : Int) (id : Int) (turnsA : Option Addr) (turnsn : Nat) (turnsc : Nat) (w : World) (R : Ending → World → Prop) (hvc_ : weirlaw13_SplitAgain_VC h g mtu id turnsA turnsn turnsc w R) :
    Calls Tryd.prog 9 #[h.val, g.val, .int .i64 mtu, .int .i64 id, .slice turnsA turnsn turnsc] w R :=
  calls_of_wpc callOk mixedOk (H := weirlaw13_SplitAgain_H) (args := [h.val, g.val, .int .i64 mtu, .int .i64 id, .slice turnsA turnsn turnsc]) (fn := Tryd.f9) (c := bodyOf Tryd.f9) Tryd.func9 rfl (Nat.le_of_ble_eq_true rfl)
    (Eq.mp (by kernel_rfl : weirlaw13_SplitAgain_VC h g mtu id turnsA turnsn turnsc w R = wpc Tryd.prog callF Tryd.f9.ntmps weirlaw13_SplitAgain_H 1 (bodyOf Tryd.f9) (argEnv 0 [h.val, g.val, .int .i64 mtu, .int .i64 id, .slice turnsA turnsn turnsc]) [] w (finish Tryd.prog callF Tryd.f9.results.toList R)) hvc_)
end N6
end Go.Proofs.YteppichfkeknbaaDoor
/- SplitAgain's small functions: a place, a byte put at it; one part of many is changed. -/
namespace Go.Eng
open Go Go.RowKit
section
variable {w w' : World} {M : Nat → Prop}
/-- One part, wherever it stands, is changed. -/
theorem Sep.modMid {l1 l2 : List Fct} {f : Fct} (H : Sep (l1 ++ f :: l2) w) (h : Mod M w w') (hM : ∀ k, k < w.heap.size → M k → f.R k) (f' : Fct) (hφ : f'.φ w') (hR : ∀ k, f'.R k → f.R k ∨ (w.heap.size ≤ k ∧ k < w'.heap.size)) : Sep (l1 ++ f' :: l2) w' := by
  have hi : (l1 ++ f :: l2)[l1.length]? = some f := by simp
  have := H.mod l1.length hi h hM f' hφ hR
  simpa using this
/-- A cell of a row of the call's own is written. -/
theorem SetVC.ownAt {b e size n c : Nat} {A : Option Addr} {xs : List Value} {j : Nat} {v : Value} {F : World → Prop} {a : Addr} (ho : w.ownsRow b e size (.slice A n c) n xs) (ha : A = some a) (hj : j < xs.length)
    (h : ∀ w', Mod (fun k => (Value.slice A n c).ownBlock = some k) w w' → w'.heap.size = w.heap.size → w'.ownsRow b e size (.slice A n c) n (xs.set j v) → F w') : SetVC w (a.add j) v F := by
  rcases ho.2 with ⟨hv, _⟩ | ⟨g, cap, cur, hv, hb, hg, hnc, hcm, hcs, ht⟩
  · injection hv with h1 _ _
    rw [h1] at ha; cases ha
  · injection hv with h1 _ h3
    rw [h1] at ha; cases ha
    subst h3
    rw [addr_add, Nat.zero_add]
    have hB : Blk w g e cur.toList := by unfold Blk; simpa using hg
    have hlen := ho.1
    have hjc : j < cur.toList.length := by
      have := congrArg List.length ht
      rw [List.length_take] at this
      omega
    refine SetVC.blk hB hjc fun w' hz hm hb' => h w' (hm.mono fun k _ e => by subst e; rw [h1]; rfl) hz ⟨by rw [List.length_set]; exact hlen, .inr ⟨g, c, (cur.toList.set j v).toArray, by rw [h1], hb, by unfold Blk at hb'; simpa using hb', hnc, hcm, by simpa using hcs, ?_⟩⟩
    rw [← ht]
    simp only [List.take_set]
end
end Go.Eng
namespace Go.Proofs.YteppichfkeknbaaDoor
namespace N6
open Go.Eng Go.RowKit
section
variable {w : World}
theorem placed_spec {at' : Int} {n : Nat} (h : 0 < n) (hn : n ≤ 4000000) : Calls Tryd.prog 77 #[.int .i64 at', .int .i64 n] w fun e w' => w' = w ∧ ∃ k : Nat, k < n ∧ e = .returned (.int .i64 k) := by
  refine weirlaw13_placed_of at' n w _ ?_
  unfold weirlaw13_placed_VC
  have h1 := Int.tmod_lt_of_pos at' (show (0 : Int) < n by omega)
  have h2 : -(n : Int) < Int.tmod at' n := by
    rcases Int.le_total 0 at' with h0 | h0
    · have := Int.tmod_nonneg (n : Int) h0; omega
    · have := Int.tmod_lt_of_pos (-at') (show (0 : Int) < n by omega)
      rw [Int.neg_tmod] at this; omega
  refine ⟨by omega, Br.dec (fun hlt => ⟨rfl, ((Int.tmod at' n + n).toNat), by omega, ?_⟩) fun hge => ⟨rfl, (Int.tmod at' n).toNat, by omega, ?_⟩⟩
  · rw [w64 (by omega) (by omega), Int.toNat_of_nonneg (by omega)]
  · rw [Int.toNat_of_nonneg (by omega)]
/-- A byte of a row of the call's own, put at a place of it, if there is one. -/
theorem put_spec {s : Sl} {l : List Int} {b : Nat} {at' by' : Int} (ho : w.ownsRow b 5 1 s.val s.n (l.map (.int .u8))) (hl : l.length = s.n) (hB : Bts l) (hn : s.n ≤ 4000000) :
    Calls Tryd.prog 76 #[s.val, .int .i64 at', .int .i64 by'] w fun e w' => e = .returned (.tuple #[]) ∧ w'.heap.size = w.heap.size ∧ Mod (fun k => s.val.ownBlock = some k) w w' ∧ ∃ l', l'.length = l.length ∧ Bts l' ∧ w'.ownsRow b 5 1 s.val s.n (l'.map (.int .u8)) := by
  refine weirlaw13_put_of s.A s.n s.k at' by' w _ ?_
  unfold weirlaw13_put_VC
  refine Br.dec (fun h0 => ?_) fun h0 => ⟨rfl, rfl, Mod.refl _ _, l, rfl, hB, ho⟩
  refine (placed_spec (by omega) hn).mono ?_
  rintro _ w1 ⟨hw1, k, hk, rfl⟩
  subst w1
  refine ⟨_, rfl, ?_⟩
  have hc : Cells w s.A (l.map (.int .u8)) := own_cells (A := s.A) (c := s.k) ho
  obtain ⟨a, ha, _⟩ := hc.at (i := k) (by rw [List.length_map]; omega)
  refine ⟨a, ha, by omega, by omega, ?_⟩
  rw [Int.toNat_natCast, Nat.mul_one]
  refine SetVC.ownAt (A := s.A) (n := s.n) (c := s.k) ho ha (by rw [List.length_map]; omega) fun w' hm hz ho' => ⟨rfl, hz, hm, l.set k (IntKind.u8.wrap by'), by simp, fun x hx => ?_, by rw [← map_set]; exact ho'⟩
  rcases List.mem_or_eq_of_mem_set hx with hx | hx
  · exact hB x hx
  · subst hx
    rw [IntKind.wrap_u8]; omega
set_option maxHeartbeats 1000000 in
theorem copied4_spec {h : Ip4V} {os : List OptR} {data : List Int} (hA : Ip4At w h os data) : Calls Tryd.prog 34 #[h.val] w fun e w' => ∃ r : Ip4R, e = .returned r.v.val ∧ r.d = h.d os data ∧ Ip4Fine r ∧
    Sep (Fct.rest w None :: rowB w.heap.size r.v.data r.data :: optFs w.heap.size r.v.opts r.opts) w' := by
  refine weirlaw13_copied4_of h w _ ?_
  unfold weirlaw13_copied4_VC
  have hdl := hA.data.len
  have hds := hA.data.small
  refine NewVC.sep (Sep.start0 w) fun g1 w1 H => NewVC.sep H fun g2 w2 H => Ip4V.of h ⟨H.at 1 rfl, NewVC.sep H fun g3 w3 H => Stores.sep H 3 rfl (Ip4V.one _) (Nat.le_refl _) (splice_all rfl) fun w4 H => ⟨_, _, _, H.cell 1 rfl 41 rfl, ?_⟩⟩
  have hz4 := (H.restOf 0 rfl).size
  refine (cloneOpts_spec (s := h.opts) (rs := os) (hA.opts.ext (H.restOf 0 rfl))).mono ?_
  rintro _ w5 ⟨so, os', rfl, hod, hof, H5⟩
  have H5 := (AllLe.append (AllLe.refl [Fct.rest w4 None]) (optFs_less hz4)).sep H5
  have H := H.mades H5
  refine ⟨_, _, _, rfl, SetVC.sep H 3 rfl (show 41 < 43 by decide) fun w6 H => NewVC.sep H fun g4 w7 H => ?_⟩
  have H := H.front
  have hz7 := (H.restOf 1 rfl).size
  have hg := H.fresh 1 0 (by decide) rfl rfl
  have H := H.blkOwn 0 rfl (b := w.heap.size) (n := 0) (c := 0) hg rfl (Nat.le_refl _) (by decide)
  refine ⟨_, _, _, H.cell 2 rfl 42 rfl, ?_⟩
  refine appB (m := h.data.n) (xs := []) (ys := data) H 0 rfl ((hA.data.ext (H.restOf 1 rfl)).cells) hdl (by omega) (by omega) fun A2 c2 w8 H hc2 => ?_
  rw [Nat.zero_add] at H ⊢
  refine SetVC.sep H 4 rfl (show 42 < 43 by decide) fun w9 H => ?_
  obtain ⟨sd, hsd⟩ : ∃ sd : Sl, sd = ⟨A2, h.data.n, c2⟩ := ⟨_, rfl⟩
  refine Ip4V.of { h with opts := so, data := sd } ⟨by rw [hsd]; exact H.at 4 rfl, Stores.sep H 3 rfl (Ip4V.one _) (Nat.le_refl _) (splice_all rfl) fun w10 H => ?_⟩
  refine Ip4V.of { h with opts := so, data := sd } ⟨H.at 3 rfl, ⟨⟨{ h with opts := so, data := sd }, os', data⟩, rfl, ?_, ⟨hof, ⟨by rw [hsd]; exact hds, hA.data.bts⟩, hA.src, hA.dst⟩, ?_⟩⟩
  · unfold Ip4R.d Ip4V.d
    rw [hod]
  · have H := H.sub (Γ' := rowB w.heap.size sd data :: Fct.rest w None :: optFs w.heap.size so os') (by
      rw [hsd]
      exact .cons_cons _ (.cons_cons _ (.cons _ (.cons _ (.cons _ (List.Sublist.refl _))))))
    exact H.perm (.swap _ _ _)
theorem put_step {l1 l2 : List Fct} {s : Sl} {l : List Int} {b : Nat} {at' by' : Int} (H : Sep (l1 ++ rowB b s l :: l2) w) (hf : BFine s l) : Calls Tryd.prog 76 #[s.val, .int .i64 at', .int .i64 by'] w fun e w' => e = .returned (.tuple #[]) ∧ ∃ l', l'.length = l.length ∧ BFine s l' ∧ Sep (l1 ++ rowB b s l' :: l2) w' := by
  have ho : w.ownsRow b 5 1 s.val s.n (l.map (.int .u8)) := H.mem (f := rowB b s l) (by simp)
  have hl : l.length = s.n := by have := ho.1; simpa using this
  refine (put_spec ho hl hf.2 hf.1).mono ?_
  rintro _ w' ⟨rfl, hz, hm, l', hl', hB', ho'⟩
  exact ⟨rfl, l', hl', ⟨hf.1, hB'⟩, H.modMid hm (fun k _ e => e) (rowB b s l') ho' fun k hk => .inl hk⟩
/-- The first cell of a record of a row of the call's own is written. -/
theorem kind_step {l1 l2 : List Fct} {s : Sl} {xs : List Value} {b e size i : Nat} {v : Value} {K : World → Prop} (H : Sep (l1 ++ Fct.own b e size s.val s.n xs :: l2) w) (hi : i < s.n) (h0 : 0 < size)
    (hK : ∀ w', Sep (l1 ++ Fct.own b e size s.val s.n (xs.set (i * size) v) :: l2) w' → K w') : IdxVC s.A s.n size (i : Int) fun a => SetVC w a v K := by
  have ho : w.ownsRow b e size s.val s.n xs := H.mem (f := Fct.own b e size s.val s.n xs) (by simp)
  have hlen := ho.1
  have hlt : i * size < xs.length := by
    rw [hlen]
    exact Nat.mul_lt_mul_of_pos_right hi h0
  have hc : Cells w s.A xs := own_cells (A := s.A) (c := s.k) ho
  obtain ⟨a, ha, _⟩ := hc.at hlt
  refine ⟨a, ha, by omega, by omega, ?_⟩
  rw [Int.toNat_natCast]
  refine SetVC.ownAt (A := s.A) (n := s.n) (c := s.k) ho ha hlt fun w' hm hz ho' => hK w' (H.modMid hm (fun k _ e => e) _ ho' fun k hk => .inl hk)
end
end N6
end Go.Proofs.YteppichfkeknbaaDoor
/- SplitAgain's changes in place. -/
namespace Go.Proofs.YteppichfkeknbaaDoor
namespace N6
open Go.Eng Go.RowKit
section
variable {w : World}
/-- The two datagrams of the law's own, in blocks and rows of their own. -/
def dgA (b g3 : Nat) (rA : Ip4R) : List Fct := Fct.blk g3 28 rA.v.cells :: rowB b rA.v.data rA.data :: optFs b rA.v.opts rA.opts
def dgB (b g4 : Nat) (rB : Ip6R) : List Fct := Fct.blk g4 44 rB.v.cells :: rowB b rB.v.data rB.data :: extFs b rB.v.exts rB.exts
/-- An option of the list has other bytes. -/
theorem opt_put {l1 l2 : List Fct} {b : Nat} {s : Sl} {rs : List OptR} {i : Nat} {r : OptR} {at' by' : Int} (H : Sep (l1 ++ (optFs b s rs ++ l2)) w) (hf : OptsFine s rs) (hi : rs[i]? = some r) :
    Calls Tryd.prog 76 #[r.v.data.val, .int .i64 at', .int .i64 by'] w fun e w' => e = .returned (.tuple #[]) ∧ ∃ rs', OptsFine s rs' ∧ Sep (l1 ++ (optFs b s rs' ++ l2)) w' := by
  obtain ⟨hlt, hri⟩ := List.getElem?_eq_some_iff.1 hi
  have hsplit : rs = rs.take i ++ r :: rs.drop (i + 1) := by
    rw [← hri, ← List.drop_eq_getElem_cons hlt, List.take_append_drop]
  have e1 : l1 ++ (optFs b s rs ++ l2) = (l1 ++ (rowO b s rs :: (rs.take i).map fun r => rowB b r.v.data r.data)) ++ (rowB b r.v.data r.data :: ((rs.drop (i + 1)).map (fun r => rowB b r.v.data r.data) ++ l2)) := by
    unfold optFs
    conv => lhs; rw [show (rs.map fun r => rowB b r.v.data r.data) = ((rs.take i ++ r :: rs.drop (i + 1)).map fun r => rowB b r.v.data r.data) by rw [← hsplit]]
    simp
  rw [e1] at H
  refine (put_step H (hf.each r (List.mem_of_getElem? hi))).mono ?_
  rintro _ w' ⟨rfl, l', hl', hf', H'⟩
  refine ⟨rfl, rs.take i ++ ⟨r.v, l'⟩ :: rs.drop (i + 1), ⟨?_, hf.small, fun x hx => ?_⟩, ?_⟩
  · have := hf.len
    have h2 := congrArg List.length hsplit
    simp only [List.length_append, List.length_cons] at h2 ⊢
    omega
  · rcases List.mem_append.1 hx with hx | hx
    · exact hf.each x (List.mem_of_mem_take hx)
    · rcases List.mem_cons.1 hx with rfl | hx
      · exact hf'
      · exact hf.each x (List.mem_of_mem_drop hx)
  · have e2 : rowO b s (rs.take i ++ ⟨r.v, l'⟩ :: rs.drop (i + 1)) = rowO b s rs := by
      unfold rowO
      congr 2
      conv => rhs; rw [hsplit]
      simp
    unfold optFs
    rw [e2]
    simpa using H'
/-- An option of the list has another kind. -/
theorem opt_kind {l1 l2 : List Fct} {b : Nat} {s : Sl} {rs : List OptR} {i : Nat} {k : Int} {K : World → Prop} (H : Sep (l1 ++ (optFs b s rs ++ l2)) w) (hf : OptsFine s rs) (hi : i < s.n)
    (hK : ∀ w' rs', OptsFine s rs' → Sep (l1 ++ (optFs b s rs' ++ l2)) w' → K w') : IdxVC s.A s.n 2 (i : Int) fun a => SetVC w a (.int .i64 k) K := by
  have hlt : i < rs.length := by rw [hf.len]; exact hi
  have e1 : l1 ++ (optFs b s rs ++ l2) = l1 ++ (rowO b s rs :: ((rs.map fun r => rowB b r.v.data r.data) ++ l2)) := by unfold optFs; simp
  rw [e1] at H
  refine kind_step H hi (by decide) fun w' H' => hK w' (rs.take i ++ ⟨⟨k, rs[i].v.data⟩, rs[i].data⟩ :: rs.drop (i + 1)) ⟨?_, hf.small, fun x hx => ?_⟩ ?_
  · have := hf.len
    simp only [List.length_append, List.length_take, List.length_cons, List.length_drop]
    omega
  · rcases List.mem_append.1 hx with hx | hx
    · exact hf.each x (List.mem_of_mem_take hx)
    · rcases List.mem_cons.1 hx with rfl | hx
      · exact hf.each rs[i] (List.getElem_mem _)
      · exact hf.each x (List.mem_of_mem_drop hx)
  · have hsplit : rs = rs.take i ++ rs[i] :: rs.drop (i + 1) := by rw [← List.drop_eq_getElem_cons hlt, List.take_append_drop]
    have hm : (rs.take i ++ ⟨⟨k, rs[i].v.data⟩, rs[i].data⟩ :: rs.drop (i + 1)).map (fun r => rowB b r.v.data r.data) = rs.map fun r => rowB b r.v.data r.data := by
      have := congrArg (List.map fun r : OptR => rowB b r.v.data r.data) hsplit
      rw [List.map_append, List.map_cons] at this
      rw [List.map_append, List.map_cons]
      exact this.symm
    have hfl : ((rs.take i ++ ⟨⟨k, rs[i].v.data⟩, rs[i].data⟩ :: rs.drop (i + 1)).map fun r => r.v.cells).flatten = ((rs.map fun r => r.v.cells).flatten).set (i * 2) (.int .i64 k) := by
      conv => rhs; rw [hsplit]
      simp only [List.map_append, List.flatten_append, List.map_cons, List.flatten_cons]
      have hl2 : (((rs.take i).map fun r => r.v.cells).flatten).length = i * 2 := by
        have : ∀ l : List OptR, ((l.map fun r => r.v.cells).flatten).length = l.length * 2 := by
          intro l
          induction l with
          | nil => rfl
          | cons x l ih => simp only [List.map_cons, List.flatten_cons, List.length_append, ih, List.length_cons]; show 2 + _ = _; omega
        rw [this, List.length_take]; omega
      rw [List.set_append_right _ _ (by omega), hl2, Nat.sub_self]
      rfl
    unfold optFs rowO
    rw [hm, hfl]
    simpa using H'
/-- A header of the list has other bytes. -/
theorem ext_put {l1 : List Fct} {b : Nat} {s : Sl} {rs : List ExtR} {i : Nat} {r : ExtR} {at' by' : Int} (H : Sep (l1 ++ extFs b s rs) w) (hf : ExtsFine s rs) (hi : rs[i]? = some r) :
    Calls Tryd.prog 76 #[r.v.data.val, .int .i64 at', .int .i64 by'] w fun e w' => e = .returned (.tuple #[]) ∧ ∃ rs', ExtsFine s rs' ∧ Sep (l1 ++ extFs b s rs') w' := by
  obtain ⟨hlt, hri⟩ := List.getElem?_eq_some_iff.1 hi
  have hsplit : rs = rs.take i ++ r :: rs.drop (i + 1) := by
    rw [← hri, ← List.drop_eq_getElem_cons hlt, List.take_append_drop]
  have hfm := congrArg (List.flatMap (extF b)) hsplit
  rw [List.flatMap_append, List.flatMap_cons] at hfm
  have e1 : l1 ++ extFs b s rs = (l1 ++ (rowE b s rs :: ((rs.take i).flatMap (extF b) ++ optFs b r.v.opts r.opts))) ++ (rowB b r.v.data r.data :: (rs.drop (i + 1)).flatMap (extF b)) := by
    unfold extFs
    rw [hfm]
    unfold extF
    simp
  rw [e1] at H
  refine (put_step H (hf.data r (List.mem_of_getElem? hi))).mono ?_
  rintro _ w' ⟨rfl, l', hl', hf', H'⟩
  have hmem : ∀ x ∈ rs.take i ++ ⟨r.v, r.opts, l'⟩ :: rs.drop (i + 1), x = ⟨r.v, r.opts, l'⟩ ∨ x ∈ rs := fun x hx => by
    rcases List.mem_append.1 hx with hx | hx
    · exact .inr (List.mem_of_mem_take hx)
    · rcases List.mem_cons.1 hx with rfl | hx
      · exact .inl rfl
      · exact .inr (List.mem_of_mem_drop hx)
  refine ⟨rfl, rs.take i ++ ⟨r.v, r.opts, l'⟩ :: rs.drop (i + 1), ⟨?_, hf.small, fun x hx => ?_, fun x hx => ?_⟩, ?_⟩
  · have := hf.len
    have h2 := congrArg List.length hsplit
    simp only [List.length_append, List.length_cons] at h2 ⊢
    omega
  · rcases hmem x hx with rfl | hx
    · exact hf.opts r (List.mem_of_getElem? hi)
    · exact hf.opts x hx
  · rcases hmem x hx with rfl | hx
    · exact hf'
    · exact hf.data x hx
  · have e2 : rowE b s (rs.take i ++ ⟨r.v, r.opts, l'⟩ :: rs.drop (i + 1)) = rowE b s rs := by
      unfold rowE
      congr 2
      have := congrArg (List.map fun r : ExtR => r.v.cells) hsplit
      rw [List.map_append, List.map_cons] at this
      rw [List.map_append, List.map_cons]
      exact this.symm
    unfold extFs
    rw [e2, List.flatMap_append, List.flatMap_cons]
    unfold extF at H' ⊢
    simpa using H'
/-- A header of the list has another kind. -/
theorem ext_kind {l1 : List Fct} {b : Nat} {s : Sl} {rs : List ExtR} {i : Nat} {k : Int} {K : World → Prop} (H : Sep (l1 ++ extFs b s rs) w) (hf : ExtsFine s rs) (hi : i < s.n)
    (hK : ∀ w' rs', ExtsFine s rs' → Sep (l1 ++ extFs b s rs') w' → K w') : IdxVC s.A s.n 3 (i : Int) fun a => SetVC w a (.int .i64 k) K := by
  have hlt : i < rs.length := by rw [hf.len]; exact hi
  have H : Sep (l1 ++ (rowE b s rs :: rs.flatMap (extF b))) w := H
  have hsplit : rs = rs.take i ++ rs[i] :: rs.drop (i + 1) := by rw [← List.drop_eq_getElem_cons hlt, List.take_append_drop]
  have hmem : ∀ x ∈ rs.take i ++ ⟨⟨k, rs[i].v.opts, rs[i].v.data⟩, rs[i].opts, rs[i].data⟩ :: rs.drop (i + 1), x = ⟨⟨k, rs[i].v.opts, rs[i].v.data⟩, rs[i].opts, rs[i].data⟩ ∨ x ∈ rs := fun x hx => by
    rcases List.mem_append.1 hx with hx | hx
    · exact .inr (List.mem_of_mem_take hx)
    · rcases List.mem_cons.1 hx with rfl | hx
      · exact .inl rfl
      · exact .inr (List.mem_of_mem_drop hx)
  refine kind_step H hi (by decide) fun w' H' => hK w' (rs.take i ++ ⟨⟨k, rs[i].v.opts, rs[i].v.data⟩, rs[i].opts, rs[i].data⟩ :: rs.drop (i + 1)) ⟨?_, hf.small, fun x hx => ?_, fun x hx => ?_⟩ ?_
  · have := hf.len
    simp only [List.length_append, List.length_take, List.length_cons, List.length_drop]
    omega
  · rcases hmem x hx with rfl | hx
    · exact hf.opts rs[i] (List.getElem_mem _)
    · exact hf.opts x hx
  · rcases hmem x hx with rfl | hx
    · exact hf.data rs[i] (List.getElem_mem _)
    · exact hf.data x hx
  · have hm : (rs.take i ++ ⟨⟨k, rs[i].v.opts, rs[i].v.data⟩, rs[i].opts, rs[i].data⟩ :: rs.drop (i + 1)).flatMap (extF b) = rs.flatMap (extF b) := by
      have := congrArg (List.flatMap (extF b)) hsplit
      rw [List.flatMap_append, List.flatMap_cons] at this
      rw [List.flatMap_append, List.flatMap_cons]
      exact this.symm
    have hfl : ((rs.take i ++ ⟨⟨k, rs[i].v.opts, rs[i].v.data⟩, rs[i].opts, rs[i].data⟩ :: rs.drop (i + 1)).map fun r => r.v.cells).flatten = ((rs.map fun r => r.v.cells).flatten).set (i * 3) (.int .i64 k) := by
      have hs2 := congrArg (fun l : List ExtR => (l.map fun r => r.v.cells).flatten) hsplit
      simp only [List.map_append, List.flatten_append, List.map_cons, List.flatten_cons] at hs2
      rw [hs2]
      simp only [List.map_append, List.flatten_append, List.map_cons, List.flatten_cons]
      have hl2 : (((rs.take i).map fun r => r.v.cells).flatten).length = i * 3 := by
        have : ∀ l : List ExtR, ((l.map fun r => r.v.cells).flatten).length = l.length * 3 := by
          intro l
          induction l with
          | nil => rfl
          | cons x l ih => simp only [List.map_cons, List.flatten_cons, List.length_append, ih, List.length_cons]; show 3 + _ = _; omega
        rw [this, List.length_take]; omega
      rw [List.set_append_right _ _ (by omega), hl2, Nat.sub_self]
      rfl
    unfold extFs rowE
    rw [hm, hfl]
    exact H'
end
end N6
end Go.Proofs.YteppichfkeknbaaDoor
/- SplitAgain: one change in place. -/
namespace Go.Proofs.YteppichfkeknbaaDoor
namespace N6
open Go.Eng Go.RowKit
section
variable {w : World}
def pre (w0 : World) (gt g3 g4 : Nat) (t : TurnV) (hA : Ip4V) (hB : Ip6V) : List Fct := [Fct.blk gt 73 t.cells, Fct.rest w0 None, Fct.blk g3 28 hA.cells, Fct.blk g4 44 hB.cells]
structure Held (w0 : World) (l : List Fct) (hA : Ip4V) (hB : Ip6V) (w : World) : Prop where
  h : ∃ oA dA eB dB, OptsFine hA.opts oA ∧ BFine hA.data dA ∧ ExtsFine hB.exts eB ∧ BFine hB.data dB ∧ Sep (l ++ (rowB w0.heap.size hA.data dA :: (optFs w0.heap.size hA.opts oA ++ (rowB w0.heap.size hB.data dB :: extFs w0.heap.size hB.exts eB)))) w
section
variable {w0 : World} {l : List Fct} {hA : Ip4V} {hB : Ip6V} {at' by' : Int}
theorem Held.put0 (h : Held w0 l hA hB w) : Calls Tryd.prog 76 #[hA.data.val, .int .i64 at', .int .i64 by'] w fun e w' => e = .returned (.tuple #[]) ∧ Held w0 l hA hB w' := by
  obtain ⟨oA, dA, eB, dB, h1, h2, h3, h4, H⟩ := h.h
  refine (put_step H h2).mono ?_
  rintro _ w' ⟨rfl, l', _, hf, H⟩
  exact ⟨rfl, ⟨oA, l', eB, dB, h1, hf, h3, h4, H⟩⟩
theorem Held.put1 (h : Held w0 l hA hB w) : Calls Tryd.prog 76 #[hB.data.val, .int .i64 at', .int .i64 by'] w fun e w' => e = .returned (.tuple #[]) ∧ Held w0 l hA hB w' := by
  obtain ⟨oA, dA, eB, dB, h1, h2, h3, h4, H⟩ := h.h
  have e : ∀ d : List Int, l ++ (rowB w0.heap.size hA.data dA :: (optFs w0.heap.size hA.opts oA ++ (rowB w0.heap.size hB.data d :: extFs w0.heap.size hB.exts eB))) = (l ++ rowB w0.heap.size hA.data dA :: optFs w0.heap.size hA.opts oA) ++ (rowB w0.heap.size hB.data d :: extFs w0.heap.size hB.exts eB) := fun d => by simp
  rw [e] at H
  refine (put_step H h4).mono ?_
  rintro _ w' ⟨rfl, l', _, hf, H⟩
  exact ⟨rfl, ⟨oA, dA, eB, l', h1, h2, h3, hf, by rw [e]; exact H⟩⟩
/-- All of it, as it lies. -/
theorem Held.a (h : Held w0 l hA hB w) (hs : Bts hA.src.bytes) (hd : Bts hA.dst.bytes) : ∃ oA dA, OptsFine hA.opts oA ∧ Ip4At w hA oA dA := by
  obtain ⟨oA, dA, eB, dB, h1, h2, h3, h4, H⟩ := h.h
  refine ⟨oA, dA, h1, ⟨optsAt_of (b := w0.heap.size) (fun f hf => H.mem ?_) h1, bytesAt_of (b := w0.heap.size) (H.mem ?_) h2, hs, hd⟩⟩
  · simp only [List.mem_append, List.mem_cons]
    exact .inr (.inr (.inl hf))
  · simp only [List.mem_append, List.mem_cons]
    exact .inr (.inl trivial)
theorem Held.b (h : Held w0 l hA hB w) (hs : Bts hB.src.bytes) (hd : Bts hB.dst.bytes) : ∃ eB dB, ExtsFine hB.exts eB ∧ Ip6At w hB eB dB := by
  obtain ⟨oA, dA, eB, dB, h1, h2, h3, h4, H⟩ := h.h
  refine ⟨eB, dB, h3, ⟨extsAt_of (b := w0.heap.size) (fun f hf => H.mem ?_) h3, bytesAt_of (b := w0.heap.size) (H.mem ?_) h4, hs, hd⟩⟩
  · simp only [List.mem_append, List.mem_cons]
    exact .inr (.inr (.inr (.inr hf)))
  · simp only [List.mem_append, List.mem_cons]
    exact .inr (.inr (.inr (.inl trivial)))
theorem Held.kind3 (h : Held w0 l hA hB w) {i : Nat} (hi : i < hA.opts.n) {k : Int} {K : World → Prop} (hK : ∀ w', Held w0 l hA hB w' → K w') : IdxVC hA.opts.A hA.opts.n 2 (i : Int) fun a => SetVC w a (.int .i64 k) K := by
  obtain ⟨oA, dA, eB, dB, h1, h2, h3, h4, H⟩ := h.h
  have e : ∀ o : List OptR, l ++ (rowB w0.heap.size hA.data dA :: (optFs w0.heap.size hA.opts o ++ (rowB w0.heap.size hB.data dB :: extFs w0.heap.size hB.exts eB))) = (l ++ [rowB w0.heap.size hA.data dA]) ++ (optFs w0.heap.size hA.opts o ++ (rowB w0.heap.size hB.data dB :: extFs w0.heap.size hB.exts eB)) := fun o => by simp
  rw [e] at H
  exact opt_kind H h1 hi fun w' o' hf H' => hK w' ⟨o', dA, eB, dB, hf, h2, h3, h4, by rw [e]; exact H'⟩
theorem Held.kind4 (h : Held w0 l hA hB w) {i : Nat} (hi : i < hB.exts.n) {k : Int} {K : World → Prop} (hK : ∀ w', Held w0 l hA hB w' → K w') : IdxVC hB.exts.A hB.exts.n 3 (i : Int) fun a => SetVC w a (.int .i64 k) K := by
  obtain ⟨oA, dA, eB, dB, h1, h2, h3, h4, H⟩ := h.h
  have e : ∀ x : List ExtR, l ++ (rowB w0.heap.size hA.data dA :: (optFs w0.heap.size hA.opts oA ++ (rowB w0.heap.size hB.data dB :: extFs w0.heap.size hB.exts x))) = (l ++ rowB w0.heap.size hA.data dA :: (optFs w0.heap.size hA.opts oA ++ [rowB w0.heap.size hB.data dB])) ++ extFs w0.heap.size hB.exts x := fun x => by simp
  rw [e] at H
  exact ext_kind H h3 hi fun w' x' hf H' => hK w' ⟨oA, dA, x', dB, h1, h2, hf, h4, by rw [e]; exact H'⟩
theorem put2_of {oA : List OptR} {dA : List Int} {eB : List ExtR} {dB : List Int} (h1 : OptsFine hA.opts oA) (h2 : BFine hA.data dA) (h3 : ExtsFine hB.exts eB) (h4 : BFine hB.data dB)
    (H : Sep (l ++ (rowB w0.heap.size hA.data dA :: (optFs w0.heap.size hA.opts oA ++ (rowB w0.heap.size hB.data dB :: extFs w0.heap.size hB.exts eB)))) w) {i : Nat} {r : OptR} (hr : oA[i]? = some r) :
    Calls Tryd.prog 76 #[r.v.data.val, .int .i64 at', .int .i64 by'] w fun e w' => e = .returned (.tuple #[]) ∧ Held w0 l hA hB w' := by
  have e : ∀ o : List OptR, l ++ (rowB w0.heap.size hA.data dA :: (optFs w0.heap.size hA.opts o ++ (rowB w0.heap.size hB.data dB :: extFs w0.heap.size hB.exts eB))) = (l ++ [rowB w0.heap.size hA.data dA]) ++ (optFs w0.heap.size hA.opts o ++ (rowB w0.heap.size hB.data dB :: extFs w0.heap.size hB.exts eB)) := fun o => by simp
  rw [e] at H
  refine (opt_put H h1 hr).mono ?_
  rintro _ w' ⟨rfl, o', hf, H'⟩
  exact ⟨rfl, ⟨o', dA, eB, dB, hf, h2, h3, h4, by rw [e]; exact H'⟩⟩
theorem put5_of {oA : List OptR} {dA : List Int} {eB : List ExtR} {dB : List Int} (h1 : OptsFine hA.opts oA) (h2 : BFine hA.data dA) (h3 : ExtsFine hB.exts eB) (h4 : BFine hB.data dB)
    (H : Sep (l ++ (rowB w0.heap.size hA.data dA :: (optFs w0.heap.size hA.opts oA ++ (rowB w0.heap.size hB.data dB :: extFs w0.heap.size hB.exts eB)))) w) {i : Nat} {r : ExtR} (hr : eB[i]? = some r) :
    Calls Tryd.prog 76 #[r.v.data.val, .int .i64 at', .int .i64 by'] w fun e w' => e = .returned (.tuple #[]) ∧ Held w0 l hA hB w' := by
  have e : ∀ x : List ExtR, l ++ (rowB w0.heap.size hA.data dA :: (optFs w0.heap.size hA.opts oA ++ (rowB w0.heap.size hB.data dB :: extFs w0.heap.size hB.exts x))) = (l ++ rowB w0.heap.size hA.data dA :: (optFs w0.heap.size hA.opts oA ++ [rowB w0.heap.size hB.data dB])) ++ extFs w0.heap.size hB.exts x := fun x => by simp
  rw [e] at H
  refine (ext_put H h3 hr).mono ?_
  rintro _ w' ⟨rfl, x', hf, H'⟩
  exact ⟨rfl, ⟨oA, dA, x', dB, h1, h2, hf, h4, by rw [e]; exact H'⟩⟩
end
end
end N6
end Go.Proofs.YteppichfkeknbaaDoor
/- SplitAgain: the change is done. -/
namespace Go.Proofs.YteppichfkeknbaaDoor
namespace N6
open Go.Eng Go.RowKit
section
variable {w : World}
theorem Held.sep {w0 : World} {l : List Fct} {hA : Ip4V} {hB : Ip6V} (h : Held w0 l hA hB w) : Sep l w := by
  obtain ⟨oA, dA, eB, dB, h1, h2, h3, h4, H⟩ := h.h
  exact H.sub (List.sublist_append_left _ _)
theorem Held.ext {w0 w' : World} {l : List Fct} {hA : Ip4V} {hB : Ip6V} (h : Held w0 l hA hB w) (hE : Ext w w') : Held w0 l hA hB w' := by
  obtain ⟨oA, dA, eB, dB, h1, h2, h3, h4, H⟩ := h.h
  exact ⟨oA, dA, eB, dB, h1, h2, h3, h4, H.ext hE⟩
theorem Held.draw {w0 : World} {l : List Fct} {hA : Ip4V} {hB : Ip6V} {B : (World → Prop) → World → Prop} (h : Held w0 l hA hB w) (S : World → Prop) (hS : ∀ w', Held w0 l hA hB w' → S w' ∧ B S w') : DrawVC w B :=
  DrawVC.of S fun w' hE _ => hS w' (h.ext hE)
theorem p_at {g o : Nat} {w' : World} {t : TypeId} {cs : List Value} (hb : Blk w' g t cs) {v : Value} (hv : cs[o]? = some v) : w'.cell? ((⟨g, 0, none⟩ : Addr).add o) = some v := cells_get (CellsAt.blk hb) o hv
set_option maxHeartbeats 2000000 in
theorem bent01 {w0 : World} {gt g3 g4 : Nat} {t : TurnV} {hA : Ip4V} {hB : Ip6V} {R : Ending → World → Prop} (h : Held w0 (pre w0 gt g3 g4 t hA hB) hA hB w) (hK : ∀ w', Held w0 (pre w0 gt g3 g4 t hA hB) hA hB w' → weirlaw13_bent_J7 R (some ⟨g3, 0, none⟩) (some ⟨g4, 0, none⟩) gt w') :
    weirlaw13_bent_J3 R (some ⟨g3, 0, none⟩) (some ⟨g4, 0, none⟩) gt w := by
  unfold weirlaw13_bent_J3
  refine JoinVC.of (fun _ w' => Held w0 (pre w0 gt g3 g4 t hA hB) hA hB w') ?_ fun _ w' h => hK w' h
  refine ⟨_, h.sep.cell 0 rfl 0 rfl, Br.dec (fun _ => ?_) fun _ => h⟩
  refine h.draw (fun w' => Blk w' gt 73 t.cells ∧ Blk w' g4 44 hB.cells) fun w5 h => ⟨⟨h.sep.blk 0 rfl, h.sep.blk 3 rfl⟩, ⟨g4, 0, none⟩, rfl, _, _, _, fun w' hb => p_at hb.2 rfl, _, fun w' hb => hb.1.cell 1, _, fun w' hb => hb.1.cell 2, ?_⟩
  refine h.put1.mono ?_
  rintro _ w6 ⟨rfl, h⟩
  exact ⟨rfl, h⟩
set_option maxHeartbeats 2000000 in
theorem bent45 {w0 : World} {gt g3 g4 : Nat} {t : TurnV} {hA : Ip4V} {hB : Ip6V} {R : Ending → World → Prop} (h : Held w0 (pre w0 gt g3 g4 t hA hB) hA hB w) (hK : ∀ w', Held w0 (pre w0 gt g3 g4 t hA hB) hA hB w' → R (.returned (.tuple #[])) w') :
    weirlaw13_bent_J15 R (some ⟨g4, 0, none⟩) gt w := by
  unfold weirlaw13_bent_J15
  refine ⟨⟨g4, 0, none⟩, rfl, _, _, _, p_at (h.sep.blk 3 rfl) rfl, Br.dec (fun h0 => ?_) fun _ => hK w h⟩
  have hn : hB.exts.n ≤ 4000000 := by obtain ⟨oA, dA, eB, dB, h1, h2, h3, h4, H⟩ := h.h; exact h3.small
  refine h.draw (fun w' => Blk w' gt 73 t.cells ∧ Blk w' g4 44 hB.cells) fun w16 h => ⟨⟨h.sep.blk 0 rfl, h.sep.blk 3 rfl⟩, _, fun w' hb => hb.1.cell 1, ⟨g4, 0, none⟩, rfl, _, _, _, fun w' hb => p_at hb.2 rfl, ?_⟩
  refine (placed_spec (by omega) hn).mono ?_
  rintro _ w17 ⟨hw17, k, hk, rfl⟩
  subst w17
  refine ⟨_, rfl, ⟨h.sep.blk 0 rfl, h.sep.blk 3 rfl⟩, ?_⟩
  refine JoinVC.of (fun _ w' => Held w0 (pre w0 gt g3 g4 t hA hB) hA hB w') ?_ ?_
  · refine ⟨_, h.sep.cell 0 rfl 0 rfl, Br.dec (fun _ => ?_) fun _ => h⟩
    refine h.draw (fun w' => Blk w' gt 73 t.cells ∧ Blk w' g4 44 hB.cells) fun w18 h => ⟨⟨h.sep.blk 0 rfl, h.sep.blk 3 rfl⟩, ⟨g4, 0, none⟩, rfl, _, _, _, fun w' hb => p_at hb.2 rfl, _, fun w' hb => hb.1.cell 2, ?_⟩
    exact h.kind4 hk fun w' h' => h'
  rintro _ w20 h
  unfold weirlaw13_bent_J253
  refine ⟨_, h.sep.cell 0 rfl 0 rfl, Br.dec (fun _ => ?_) fun _ => hK w20 h⟩
  obtain ⟨oA, dA, eB, dB, h1, h2, h3, h4, H⟩ := h.h
  have hX : ∀ {w'}, Ext w20 w' → ExtsAt w' hB.exts eB := fun hE => extsAt_of (b := w0.heap.size) (fun f hf => (H.ext hE).mem (by
    simp only [List.mem_append, List.mem_cons]
    exact .inr (.inr (.inr (.inr hf))))) h3
  have hkl : k < eB.length := by rw [h3.len]; exact hk
  have hre : eB[k]? = some eB[k] := List.getElem?_eq_getElem hkl
  refine DrawVC.of (fun w' => (Blk w' gt 73 t.cells ∧ Blk w' g4 44 hB.cells) ∧ ExtsAt w' hB.exts eB) fun w21 hE _ => ⟨⟨⟨(h.sep.ext hE).blk 0 rfl, (h.sep.ext hE).blk 3 rfl⟩, hX hE⟩, ⟨g4, 0, none⟩, rfl, _, _, _, fun w' hb => p_at hb.1.2 rfl, ?_⟩
  refine ExtsAt.idxD (S := fun w' => (Blk w' gt 73 t.cells ∧ Blk w' g4 44 hB.cells) ∧ ExtsAt w' hB.exts eB) ⟨⟨(h.sep.ext hE).blk 0 rfl, (h.sep.ext hE).blk 3 rfl⟩, hX hE⟩ (fun w' h => h.2) hre fun a ha => ⟨_, _, _, fun w' h => c2 (ha w' h), _, fun w' hb => hb.1.1.cell 2, _, fun w' hb => hb.1.1.cell 1, ?_⟩
  refine (put5_of h1 h2 h3 h4 (H.ext hE) hre).mono ?_
  rintro _ w22 ⟨rfl, h'⟩
  exact ⟨rfl, hK w22 h'⟩
set_option maxHeartbeats 2000000 in
theorem bent23 {w0 : World} {gt g3 g4 : Nat} {t : TurnV} {hA : Ip4V} {hB : Ip6V} {R : Ending → World → Prop} (h : Held w0 (pre w0 gt g3 g4 t hA hB) hA hB w) (hK : ∀ w', Held w0 (pre w0 gt g3 g4 t hA hB) hA hB w' → R (.returned (.tuple #[])) w') :
    weirlaw13_bent_J7 R (some ⟨g3, 0, none⟩) (some ⟨g4, 0, none⟩) gt w := by
  unfold weirlaw13_bent_J7
  refine JoinVC.of (fun _ w' => Held w0 (pre w0 gt g3 g4 t hA hB) hA hB w') ?_ fun _ w' h => bent45 h hK
  refine ⟨⟨g3, 0, none⟩, rfl, _, _, _, p_at (h.sep.blk 2 rfl) rfl, Br.dec (fun h0 => ?_) fun _ => h⟩
  have hn : hA.opts.n ≤ 4000000 := by obtain ⟨oA, dA, eB, dB, h1, h2, h3, h4, H⟩ := h.h; exact h1.small
  refine h.draw (fun w' => Blk w' gt 73 t.cells ∧ Blk w' g3 28 hA.cells) fun w8 h => ⟨⟨h.sep.blk 0 rfl, h.sep.blk 2 rfl⟩, _, fun w' hb => hb.1.cell 2, ⟨g3, 0, none⟩, rfl, _, _, _, fun w' hb => p_at hb.2 rfl, ?_⟩
  refine (placed_spec (by omega) hn).mono ?_
  rintro _ w9 ⟨hw9, k, hk, rfl⟩
  subst w9
  refine ⟨_, rfl, ⟨h.sep.blk 0 rfl, h.sep.blk 2 rfl⟩, ?_⟩
  refine JoinVC.of (fun _ w' => Held w0 (pre w0 gt g3 g4 t hA hB) hA hB w') ?_ ?_
  · refine ⟨_, h.sep.cell 0 rfl 0 rfl, Br.dec (fun _ => ?_) fun _ => h⟩
    obtain ⟨oA, dA, eB, dB, h1, h2, h3, h4, H⟩ := h.h
    have hX : ∀ {w'}, Ext w8 w' → OptsAt w' hA.opts oA := fun hE => optsAt_of (b := w0.heap.size) (fun f hf => (H.ext hE).mem (by
      simp only [List.mem_append, List.mem_cons]
      exact .inr (.inr (.inl hf)))) h1
    have hkl : k < oA.length := by rw [h1.len]; exact hk
    have hre : oA[k]? = some oA[k] := List.getElem?_eq_getElem hkl
    refine DrawVC.of (fun w' => (Blk w' gt 73 t.cells ∧ Blk w' g3 28 hA.cells) ∧ OptsAt w' hA.opts oA) fun w10 hE _ => ⟨⟨⟨(h.sep.ext hE).blk 0 rfl, (h.sep.ext hE).blk 2 rfl⟩, hX hE⟩, ⟨g3, 0, none⟩, rfl, _, _, _, fun w' hb => p_at hb.1.2 rfl, ?_⟩
    refine OptsAt.idxD (S := fun w' => (Blk w' gt 73 t.cells ∧ Blk w' g3 28 hA.cells) ∧ OptsAt w' hA.opts oA) ⟨⟨(h.sep.ext hE).blk 0 rfl, (h.sep.ext hE).blk 2 rfl⟩, hX hE⟩ (fun w' h => h.2) hre fun a ha => ⟨_, _, _, fun w' h => c1 (ha w' h), _, fun w' hb => hb.1.1.cell 1, _, fun w' hb => hb.1.1.cell 2, ?_⟩
    refine (put2_of h1 h2 h3 h4 (H.ext hE) hre).mono ?_
    rintro _ w11 ⟨rfl, h'⟩
    exact ⟨rfl, h'⟩
  rintro _ w12 h
  unfold weirlaw13_bent_J245
  refine ⟨_, h.sep.cell 0 rfl 0 rfl, Br.dec (fun _ => ?_) fun _ => h⟩
  refine h.draw (fun w' => Blk w' gt 73 t.cells ∧ Blk w' g3 28 hA.cells) fun w13 h => ⟨⟨h.sep.blk 0 rfl, h.sep.blk 2 rfl⟩, ⟨g3, 0, none⟩, rfl, _, _, _, fun w' hb => p_at hb.2 rfl, _, fun w' hb => hb.1.cell 1, ?_⟩
  exact h.kind3 hk fun w' h' => h'
set_option maxHeartbeats 1000000 in
/-- Both datagrams, one change later. -/
theorem bent_spec {w0 : World} {g3 g4 : Nat} {t : TurnV} {hA : Ip4V} {hB : Ip6V} (h : Held w0 [Fct.rest w0 None, Fct.blk g3 28 hA.cells, Fct.blk g4 44 hB.cells] hA hB w) :
    Calls Tryd.prog 40 #[.pointer (some ⟨g3, 0, none⟩), .pointer (some ⟨g4, 0, none⟩), t.val] w fun e w' => e = .returned (.tuple #[]) ∧ Held w0 [Fct.rest w0 None, Fct.blk g3 28 hA.cells, Fct.blk g4 44 hB.cells] hA hB w' := by
  refine weirlaw13_bent_of (some ⟨g3, 0, none⟩) (some ⟨g4, 0, none⟩) t w _ ?_
  unfold weirlaw13_bent_VC
  obtain ⟨oA, dA, eB, dB, h1, h2, h3, h4, H⟩ := h.h
  refine NewVC.sep H fun gt w1 H => ?_
  have h : Held w0 (pre w0 gt g3 g4 t hA hB) hA hB w1 := ⟨oA, dA, eB, dB, h1, h2, h3, h4, H.front⟩
  refine JoinVC.of (fun _ w' => Held w0 (pre w0 gt g3 g4 t hA hB) hA hB w') ?_ fun _ w' h => bent01 h fun w'' h => bent23 h fun w3 h => ⟨rfl, ?_⟩
  · refine ⟨_, h.sep.cell 0 rfl 0 rfl, Br.dec (fun _ => ?_) fun _ => h⟩
    refine h.draw (fun w' => Blk w' gt 73 t.cells ∧ Blk w' g3 28 hA.cells) fun w2 h => ⟨⟨h.sep.blk 0 rfl, h.sep.blk 2 rfl⟩, ⟨g3, 0, none⟩, rfl, _, _, _, fun w' hb => p_at hb.2 rfl, _, fun w' hb => hb.1.cell 1, _, fun w' hb => hb.1.cell 2, ?_⟩
    refine h.put0.mono ?_
    rintro _ w3 ⟨rfl, h⟩
    exact ⟨rfl, h⟩
  · obtain ⟨oA, dA, eB, dB, h1, h2, h3, h4, H⟩ := h.h
    exact ⟨oA, dA, eB, dB, h1, h2, h3, h4, H.tail⟩
end
end N6
end Go.Proofs.YteppichfkeknbaaDoor
/- SplitAgain: both datagrams, changed in place, looked at anew each time. -/
namespace Go.Proofs.YteppichfkeknbaaDoor
namespace N6
open Go.Eng Go.RowKit
section
variable {w : World}
set_option maxHeartbeats 2000000 in
theorem again_law {h : Ip4V} {g : Ip6V} {os : List OptR} {data : List Int} {es : List ExtR} {dt : List Int} {mtu id : Int} {s : Sl} {ts : List TurnV} (hA : Ip4At w h os data) (hB : Ip6At w g es dt) (hT : TurnsAt w s ts) (hK : Kn w) :
    Calls Tryd.prog 9 #[h.val, g.val, .int .i64 mtu, .int .i64 id, s.val] w fun e w' => e = .returned (.bool true) ∧ Ext w w' := by
  refine weirlaw13_SplitAgain_of h g mtu id s.A s.n s.k w _ ?_
  unfold weirlaw13_SplitAgain_VC
  have hsn := hT.small
  refine NewVC.sep (Sep.start0 w) fun g1 w1 H => NewVC.sep H fun g2 w2 H => Ip4V.of h ⟨H.at 1 rfl, ?_⟩
  refine (copied4_spec (hA.ext (H.restOf 0 rfl))).mono ?_
  rintro _ w3 ⟨rA, rfl, hrA, hfA, H3⟩
  have hz2 := (H.restOf 0 rfl).size
  have H3 := (AllLe.append (AllLe.refl [Fct.rest w2 None]) (AllLe.cons (own_less hz2).1 (own_less hz2).2 (optFs_less hz2))).sep H3
  have H := H.mades H3
  refine onRet_ret (Ip4V.of rA.v ⟨rfl, NewVC.sep H fun g3 w4 H => ?_⟩)
  have H := H.front
  refine Stores.sep H 0 rfl (Ip4V.one _) (Nat.le_refl _) (splice_all rfl) fun w5 H => Ip6V.of g ⟨H.at 3 rfl, ?_⟩
  have hz5 := (H.restOf 1 rfl).size
  refine (clone6_spec (hB.ext (H.restOf 1 rfl))).mono ?_
  rintro _ w6 ⟨rB, rfl, hrB, hfB, H6⟩
  have H6 := (AllLe.append (AllLe.refl [Fct.rest w5 None]) (AllLe.cons (own_less hz5).1 (own_less hz5).2 (extFs_less hz5))).sep H6
  have H := H.mades H6
  refine onRet_ret (Ip6V.of rB.v ⟨rfl, NewVC.sep H fun g4 w7 H => ?_⟩)
  have H := H.front
  refine Stores.sep H 0 rfl (Ip6V.one _) (Nat.le_refl _) (splice_all rfl) fun w8 H => ?_
  have hH : Held w [Fct.rest w None, Fct.blk g3 28 rA.v.cells, Fct.blk g4 44 rB.v.cells] rA.v rB.v w8 := by
    refine ⟨rA.opts, rA.data, rB.exts, rB.data, hfA.opts, hfA.data, hfB.exts, hfB.data, ?_⟩
    have H := H.sub (Γ' := Fct.blk g4 44 rB.v.cells :: Fct.blk g3 28 rA.v.cells :: Fct.rest w None :: (rowB w.heap.size rA.v.data rA.data :: (optFs w.heap.size rA.v.opts rA.opts ++ (rowB w.heap.size rB.v.data rB.data :: extFs w.heap.size rB.v.exts rB.exts)))) (by
      refine .cons_cons _ (.cons_cons _ (.cons_cons _ (.cons _ (.cons _ ?_))))
      simp)
    refine H.perm ?_
    show (Fct.rest w None :: Fct.blk g3 28 rA.v.cells :: Fct.blk g4 44 rB.v.cells :: _).Perm _
    exact ((List.Perm.swap _ _ _).trans (.cons _ (.swap _ _ _))).trans ((List.Perm.swap _ _ _))
  clear H H3 H6
  refine LoopVC.of (fun st w' => ∃ i : Nat, st = (i : Int) ∧ i ≤ s.n + 1 ∧ Held w [Fct.rest w None, Fct.blk g3 28 rA.v.cells, Fct.blk g4 44 rB.v.cells] rA.v rB.v w') (fun st _ => ((s.n : Int) + 1 - st).toNat) ⟨0, rfl, by omega, hH⟩ ?_
  rintro _ w9 ⟨i, rfl, hi, hH⟩
  unfold weirlaw13_SplitAgain_L122
  have hW := hH.sep.restOf 0 rfl
  refine Br.dec (fun hle => ?_) fun hgt => ?_
  · obtain ⟨oA, dA, -, hAt⟩ := hH.a hfA.src hfA.dst
    obtain ⟨eB, dB, -, hBt⟩ := hH.b hfB.src hfB.dst
    have hg3 := hH.sep.blk 1 rfl
    have hg4 := hH.sep.blk 2 rfl
    refine Ip4V.of rA.v ⟨CellsAt.blk hg3, ?_⟩
    refine (copied4_spec hAt).mono ?_
    rintro _ w10 ⟨rC, rfl, hrC, hfC, H10⟩
    have hC : Ip4At w10 rC.v rC.opts rC.data := ⟨optsAt_of (b := w9.heap.size) (fun f hf => H10.mem (by simp only [List.mem_cons]; exact .inr (.inr hf))) hfC.opts, bytesAt_of (b := w9.heap.size) (H10.mem (by simp)) hfC.data, hfC.src, hfC.dst⟩
    have hCd : rC.v.d rC.opts rC.data = rA.v.d oA dA := hrC
    have hE10 := H10.restOf 0 rfl
    refine onRet_ret (Ip4V.of rC.v ⟨rfl, NewVC.sep (Sep.start0 w10) fun g5 w11 H => Stores.sep H 1 rfl (Ip4V.one _) (Nat.le_refl _) (splice_all rfl) fun w12 H => ?_⟩)
    have hg5 := H.blk 1 rfl
    have hE12 := hE10.trans (H.restOf 0 rfl)
    have hC := hC.ext (H.restOf 0 rfl)
    clear H H10
    refine Ip6V.of rB.v ⟨CellsAt.blk (hg4.ext hE12), ?_⟩
    refine (clone6_spec (hBt.ext hE12)).mono ?_
    rintro _ w13 ⟨rD, rfl, hrD, hfD, H13⟩
    have hD : Ip6At w13 rD.v rD.exts rD.data := ⟨extsAt_of (b := w12.heap.size) (fun f hf => H13.mem (by simp only [List.mem_cons]; exact .inr (.inr hf))) hfD.exts, bytesAt_of (b := w12.heap.size) (H13.mem (by simp)) hfD.data, hfD.src, hfD.dst⟩
    have hDd : rD.v.d rD.exts rD.data = rB.v.d eB dB := hrD
    have hF13 := H13.restOf 0 rfl
    refine onRet_ret (Ip6V.of rD.v ⟨rfl, NewVC.sep (Sep.start0 w13) fun g6 w14 H => Stores.sep H 1 rfl (Ip6V.one _) (Nat.le_refl _) (splice_all rfl) fun w15 H => ?_⟩)
    have hg6 := H.blk 1 rfl
    have hF15 := hF13.trans (H.restOf 0 rfl)
    have hD := hD.ext (H.restOf 0 rfl)
    have hE15 := hE12.trans hF15
    have hC := hC.ext hF15
    have hg5 := hg5.ext hF15
    clear H H13 hF13 hF15
    refine Ip4V.of rA.v ⟨CellsAt.blk (hg3.ext hE15), ?_⟩
    refine (split4_spec (mtu := mtu) (hAt.ext hE15)).mono ?_
    intro e w16 hc
    obtain ⟨s1, r1, rfl, hr1, hat1, hF16⟩ := hc.at
    refine ⟨_, _, _, _, rfl, Ip4V.of rC.v ⟨CellsAt.blk (hg5.ext hF16), ?_⟩⟩
    refine (refSplit4_spec (mtu := mtu) (hC.ext hF16)).mono ?_
    intro e w17 hc
    obtain ⟨s2, r2, rfl, hr2, hat2, hF17⟩ := hc.at
    rw [hCd] at hr2 ⊢
    have hF17' := hF16.trans hF17
    refine ⟨_, _, _, _, rfl, Ip6V.of rB.v ⟨CellsAt.blk (hg4.ext (hE15.trans hF17')), ?_⟩⟩
    refine (split6_spec (mtu := mtu) (id := id) (hBt.ext (hE15.trans hF17')) (hK.ext (hW.trans (hE15.trans hF17')))).mono ?_
    intro e w18 hc
    obtain ⟨s3, r3, rfl, hr3, hat3, hF18⟩ := hc.at
    have hF18' := hF17'.trans hF18
    refine ⟨_, _, _, _, rfl, Ip6V.of rD.v ⟨CellsAt.blk (hg6.ext hF18'), ?_⟩⟩
    refine (refSplit6_spec (mtu := mtu) (id := id) (hD.ext hF18')).mono ?_
    intro e w19 hc
    obtain ⟨s4, r4, rfl, hr4, hat4, hF19⟩ := hc.at
    rw [hDd] at hr4 ⊢
    have hF19' := hF18'.trans hF19
    refine ⟨_, _, _, _, rfl, Ip4V.of rA.v ⟨CellsAt.blk (hg3.ext (hE15.trans hF19')), ?_⟩⟩
    refine (fits4_spec (mtu := mtu) (hAt.ext (hE15.trans hF19'))).mono ?_
    rintro _ w20 ⟨hF20, rfl⟩
    have hF20' := hF19'.trans hF20
    refine ⟨_, rfl, Ip6V.of rB.v ⟨CellsAt.blk (hg4.ext (hE15.trans hF20')), ?_⟩⟩
    refine (fits6_spec (mtu := mtu) (hBt.ext (hE15.trans hF20')) (hK.ext (hW.trans (hE15.trans hF20')))).mono ?_
    rintro _ w21 ⟨hF21, rfl⟩
    have hF21' := hF20'.trans hF21
    refine ⟨_, rfl, ?_⟩
    refine num_spec.mono ?_
    rintro _ w22 ⟨hw22, rfl⟩
    subst w22
    refine ⟨_, rfl, Br.no (fun x => x rfl) ?_⟩
    refine num_spec.mono ?_
    rintro _ w23 ⟨hw23, rfl⟩
    subst w23
    refine ⟨_, rfl, Br.no (fun x => x rfl) ?_⟩
    have hX : Ext w16 w21 := ((((hF17.trans hF18).trans hF19).trans hF20).trans hF21)
    have hX17 : Ext w17 w21 := (((hF18.trans hF19).trans hF20).trans hF21)
    have hX18 : Ext w18 w21 := ((hF19.trans hF20).trans hF21)
    have hX19 : Ext w19 w21 := (hF20.trans hF21)
    refine (sames4_spec (s := s1) (t := s2) (hat1.ext hX) (hat2.ext hX17)).mono ?_
    rintro _ w24 ⟨x, rfl, hx, hF24⟩
    have hxt := hx.2 (hr1.trans hr2.symm)
    subst hxt
    refine ⟨_, rfl, Br.f rfl ?_⟩
    refine (sames6_spec (s := s3) (t := s4) ((hat3.ext hX18).ext hF24) ((hat4.ext hX19).ext hF24)).mono ?_
    rintro _ w25 ⟨x, rfl, hx, hF25⟩
    have hxt := hx.2 (hr3.trans hr4.symm)
    subst hxt
    have hF25' := hF21'.trans (hF24.trans hF25)
    refine ⟨_, rfl, Br.f rfl (Ip4V.of rC.v ⟨CellsAt.blk (hg5.ext hF25'), ?_⟩)⟩
    refine (refFits4_spec (mtu := mtu) (hC.ext hF25')).mono ?_
    rintro _ w26 ⟨hF26, rfl⟩
    have hF26' := hF25'.trans hF26
    rw [hCd]
    have hdl : rC.data.length = dA.length := congrArg (fun d : Ip4D => d.data.length) hCd
    rw [hdl]
    refine ⟨_, rfl, bne_br (fun x => absurd rfl x) fun _ => Ip6V.of rD.v ⟨CellsAt.blk (hg6.ext hF26'), ?_⟩⟩
    refine (refFits6_spec (mtu := mtu) (hD.ext hF26')).mono ?_
    rintro _ w27 ⟨hF27, rfl⟩
    have hF27' := hF26'.trans hF27
    rw [hDd]
    refine ⟨_, rfl, bne_br (fun x => absurd rfl x) fun _ => Ip4V.of rA.v ⟨CellsAt.blk (hg3.ext (hE15.trans hF27')), Ip4V.of rC.v ⟨CellsAt.blk (hg5.ext hF27'), ?_⟩⟩⟩
    refine (same4_spec (hAt.ext (hE15.trans hF27')) (hC.ext hF27')).mono ?_
    rintro _ w28 ⟨x, rfl, hx, hF28⟩
    have hxt := hx.2 hCd.symm
    subst hxt
    have hF28' := hF27'.trans hF28
    refine ⟨_, rfl, Br.f rfl (Ip6V.of rB.v ⟨CellsAt.blk (hg4.ext (hE15.trans hF28')), Ip6V.of rD.v ⟨CellsAt.blk (hg6.ext hF28'), ?_⟩⟩)⟩
    refine (same6_spec (hBt.ext (hE15.trans hF28')) (hD.ext hF28')).mono ?_
    rintro _ w29 ⟨x, rfl, hx, hF29⟩
    have hxt := hx.2 hDd.symm
    subst hxt
    have hE29 := hE15.trans (hF28'.trans hF29)
    have hH := hH.ext hE29
    refine ⟨_, rfl, Br.f rfl (Br.dec (fun hlt => ?_) fun hge => ?_)⟩
    · refine (hT.ext (hW.trans hE29)).idx (i := i) (by omega) fun a t ht => TurnV.of t ⟨ht, ?_⟩
      refine (bent_spec hH).mono ?_
      rintro _ w30 ⟨rfl, hH⟩
      refine ⟨rfl, ?_⟩
      rw [w64 (by omega) (by omega)]
      exact ⟨⟨i + 1, by omega, by omega, hH⟩, by omega⟩
    · rw [w64 (by omega) (by omega)]
      exact ⟨⟨i + 1, by omega, by omega, hH⟩, by omega⟩
  · refine (started_spec (hK.ext hW)).mono ?_
    rintro _ w31 ⟨hE31, rfl⟩
    exact ⟨_, rfl, rfl, hW.trans hE31⟩
end
end N6
end Go.Proofs.YteppichfkeknbaaDoor
