/- WRITTEN BY a program of this session (vc.py): for each Go function the condition that is enough for its contract, and the theorem that it is. -/
import Derived.Test.YthhgbpmihhljdaaDoorProg
import Derived.Test.YthhgbpmihhljdaaDoorBae
import Derived.Test.YthhgbpmihhljdaaDoorBag
namespace Go.Proofs.YthhgbpmihhljdaaDoor
open Go.Eng
namespace N6
def bodyOf (fn : Func) : Code := match fn.body with | some c => c | none => .skip
def callF (f : Nat) : Bool := Nat.ble 3 f && Nat.ble f 96 && !(Nat.beq f 49) && !(Nat.beq f 50) && !(Nat.beq f 57) && !(Nat.beq f 63) && !(Nat.beq f 64) && !(Nat.beq f 65) && !(Nat.beq f 66) && !(Nat.beq f 67) && !(Nat.beq f 68) && !(Nat.beq f 69) && !(Nat.beq f 70) && !(Nat.beq f 71) && !(Nat.beq f 72) && !(Nat.beq f 79) && !(Nat.beq f 80) && !(Nat.beq f 81) && !(Nat.beq f 82) && !(Nat.beq f 83) && !(Nat.beq f 93)
theorem callAll : ((List.range 97).all fun f => !(callF f) || callableB Tryd.prog f) = true := by kernel_rfl
theorem callOk : ∀ f, callF f = true → callableB Tryd.prog f = true := by
  intro f hf
  have h := List.all_eq_true.1 callAll f (by simp [callF] at hf; simp; omega)
  simpa [hf] using h
theorem mixedOk : Tryd.prog.follows .mixedOrders = true := by kernel_rfl

set_option maxRecDepth 100000 in
def ip6_padding_L12 (R : Ending → World → Prop)  (outA1 : Option Addr) (outn1 : Nat) (outc1 : Nat) (n1 : Int) (w1 : World) (K12 : ((Option Addr × Nat × Nat) × Int → World → Prop)) : Prop :=
  Br (decide ((1 : Int) < n1))
    (NewVC w1 (.cells #[.int .u8 1, .int .u8 (IntKind.u8.wrap (IntKind.i64.wrap ((if 257 < n1 then 257 else n1) - 2)))] 5) fun g1 w2 =>
  AppVC Tryd.prog #[32, 32] 32 (.slice outA1 outn1 outc1) (.slice (some ⟨g1, 0, none⟩) 2 2) w2 fun lA ln lc w3 =>
  AppVC Tryd.prog #[32, 3] 32 (.slice lA ln lc) (.int .i64 (IntKind.i64.wrap ((if 257 < n1 then 257 else n1) - 2))) w3 fun lA1 ln1 lc1 w4 =>
  K12 ((lA1, ln1, lc1), IntKind.i64.wrap (n1 - (if 257 < n1 then 257 else n1))) w4)
    (Br (decide (n1 = 1))
    (NewVC w1 (.cells #[.int .u8 0] 5) fun g2 w5 =>
    AppVC Tryd.prog #[32, 32] 32 (.slice outA1 outn1 outc1) (.slice (some ⟨g2, 0, none⟩) 1 1) w5 fun lA2 ln2 lc2 w6 =>
    R (.returned (.slice lA2 ln2 lc2)) w6)
    (R (.returned (.slice outA1 outn1 outc1)) w1))
set_option maxRecDepth 100000 in
def ip6_padding_VC (outA : Option Addr) (outn : Nat) (outc : Nat) (n : Int) (w : World) (R : Ending → World → Prop) : Prop :=
  LoopVC (S := (Option Addr × Nat × Nat) × Int) (fun s_ w1 K12 => ip6_padding_L12 R s_.1.1 s_.1.2.1 s_.1.2.2 s_.2 w1 K12) ((outA, outn, outc), n) w
def ip6_padding_H : Hints := [(12, [(0, .slice), (1, .int .i64)])]
set_option maxRecDepth 100000 in
theorem ip6_padding_of (outA : Option Addr) (outn : Nat) (outc : Nat) (n : Int) (w : World) (R : Ending → World → Prop) (hvc_ : ip6_padding_VC outA outn outc n w R) :
    Calls Tryd.prog 84 #[.slice outA outn outc, .int .i64 n] w R :=
  calls_of_wpc callOk mixedOk (H := ip6_padding_H) (args := [.slice outA outn outc, .int .i64 n]) (fn := Tryd.f84) (c := bodyOf Tryd.f84) Tryd.func84 rfl (Nat.le_of_ble_eq_true rfl)
    (Eq.mp (by kernel_rfl : ip6_padding_VC outA outn outc n w R = wpc Tryd.prog callF Tryd.f84.ntmps ip6_padding_H 1 (bodyOf Tryd.f84) (argEnv 0 [.slice outA outn outc, .int .i64 n]) [] w (finish Tryd.prog callF Tryd.f84.results.toList R)) hvc_)

set_option maxRecDepth 100000 in
def ip6_putOptions_J14948 (R : Ending → World → Prop) (lA : Option Addr) (ln : Nat) (outA : Option Addr) (outn : Nat) (outc : Nat) (t11_ : Int) (K58 : ((Option Addr × Nat × Nat) × Int → World → Prop)) (g1 : Nat) (J3737 : ((Option Addr × Nat × Nat) × Int × Bool × Bool × Bool → World → Prop)) (t16_ : Bool) (w4 : World) : Prop :=
  Br t16_
    (R (.returned (.tuple #[.slice none 0 0, .int .i64 75])) w4)
    (∃ x4 : Int, w4.cell? ⟨g1, 0, none⟩ = some (.int .i64 x4) ∧
    Br (decide (x4 ≠ 0))
      (DrawVC w4 fun S1 w5 =>
      ∃ x5 : Int, (∀ w' : World, S1 w' → w'.cell? ⟨g1, 0, none⟩ = some (.int .i64 x5)) ∧
      ∃ (xA1 : Option Addr) (xn1 xc1 : Nat), (∀ w' : World, S1 w' → w'.cell? ⟨g1, 1, none⟩ = some (.slice xA1 xn1 xc1)) ∧
      ∃ (xA2 : Option Addr) (xn2 xc2 : Nat), (∀ w' : World, S1 w' → w'.cell? ⟨g1, 1, none⟩ = some (.slice xA2 xn2 xc2)) ∧
      NewVC w5 (.cells #[.int .u8 (IntKind.u8.wrap x5), .int .u8 (IntKind.u8.wrap (xn1 : Int))] 5) fun g2 w6 =>
      S1 w6 ∧
      AppVC Tryd.prog #[32, 32] 32 (.slice outA outn outc) (.slice (some ⟨g2, 0, none⟩) 2 2) w6 fun lA1 ln1 lc1 w7 =>
      S1 w7 ∧
      AppVC Tryd.prog #[32, 32] 32 (.slice lA1 ln1 lc1) (.slice xA2 xn2 xc2) w7 fun lA2 ln2 lc2 w8 =>
      S1 w8 ∧
      K58 ((lA2, ln2, lc2), IntKind.i64.wrap (t11_ + 1)) w8)
      (∃ (xA3 : Option Addr) (xn3 xc3 : Nat), w4.cell? ⟨g1, 1, none⟩ = some (.slice xA3 xn3 xc3) ∧
      Br (decide ((xn3 : Int) = 0))
        (R (.returned (.tuple #[.slice none 0 0, .int .i64 75])) w4)
        (Br (decide ((0 : Int) < t11_))
          (IdxVC lA ln 2 (IntKind.i64.wrap (t11_ - 1)) fun a1 =>
          ∃ x6 : Int, w4.cell? a1 = some (.int .i64 x6) ∧
          Br (decide (x6 = 0))
        (R (.returned (.tuple #[.slice none 0 0, .int .i64 75])) w4)
        (J3737 ((outA, outn, outc), t11_, decide ((0 : Int) < t11_), true, decide (x6 = 0)) w4))
          (J3737 ((outA, outn, outc), t11_, decide ((0 : Int) < t11_), false, false) w4))))
set_option maxRecDepth 100000 in
def ip6_putOptions_L59802 (R : Ending → World → Prop) (t11_ : Int) (K58 : ((Option Addr × Nat × Nat) × Int → World → Prop)) (g1 : Nat) (outA1 : Option Addr) (outn1 : Nat) (outc1 : Nat) (xA4 : Option Addr) (xn4 : Nat) (t79_ : Int) (w10 : World) (K59802 : (Int → World → Prop)) : Prop :=
  Br (decide (t79_ < (xn4 : Int)))
    (IdxVC xA4 xn4 1 t79_ fun a2 =>
  ∃ x7 : Int, w10.cell? a2 = some (.int .u8 x7) ∧
  Br (decide (x7 ≠ 0))
    (R (.returned (.tuple #[.slice none 0 0, .int .i64 75])) w10)
    (K59802 (IntKind.i64.wrap (t79_ + 1)) w10))
    (∃ (xA5 : Option Addr) (xn5 xc5 : Nat), w10.cell? ⟨g1, 1, none⟩ = some (.slice xA5 xn5 xc5) ∧
  Br (decide ((2046 : Int) < (xn5 : Int)))
    (R (.returned (.tuple #[.slice none 0 0, .int .i64 75])) w10)
    (∃ (xA6 : Option Addr) (xn6 xc6 : Nat), w10.cell? ⟨g1, 1, none⟩ = some (.slice xA6 xn6 xc6) ∧
  Calls Tryd.prog 84 #[.slice outA1 outn1 outc1, .int .i64 (xn6 : Int)] w10 (onRet (fun r_ w11 => ∃ (xA7 : Option Addr) (xn7 xc7 : Nat), r_ = .slice xA7 xn7 xc7 ∧
  K58 ((xA7, xn7, xc7), IntKind.i64.wrap (t11_ + 1)) w11)
    (fun ch w11 => R (.panicked ch) w11))))
set_option maxRecDepth 100000 in
def ip6_putOptions_J3737 (R : Ending → World → Prop) (t11_ : Int) (K58 : ((Option Addr × Nat × Nat) × Int → World → Prop)) (g1 : Nat) (outA1 : Option Addr) (outn1 : Nat) (outc1 : Nat) (_t64_ : Int) (_t65_ : Bool) (_t66_ : Bool) (_t74_ : Bool) (w9 : World) : Prop :=
  ∃ (xA4 : Option Addr) (xn4 xc4 : Nat), w9.cell? ⟨g1, 1, none⟩ = some (.slice xA4 xn4 xc4) ∧
  LoopVC (S := Int) (fun s_ w10 K59802 => ip6_putOptions_L59802 R t11_ K58 g1 outA1 outn1 outc1 xA4 xn4 s_ w10 K59802) 0 w9
set_option maxRecDepth 100000 in
def ip6_putOptions_L58 (R : Ending → World → Prop) (lA : Option Addr) (ln : Nat) (outA : Option Addr) (outn : Nat) (outc : Nat) (t11_ : Int) (w1 : World) (K58 : ((Option Addr × Nat × Nat) × Int → World → Prop)) : Prop :=
  Br (decide (t11_ < (ln : Int)))
    (IdxVC lA ln 2 t11_ fun a =>
  OptV.ex fun h => CellsAt w1 a 0 h.cells ∧
  NewVC w1 (.cells (OptV.z : OptV).cells.toArray 106) fun g1 w2 =>
  Stores ⟨g1, 0, none⟩ 0 h.cells w2 fun w3 =>
  JoinVC (S := (Option Addr × Nat × Nat) × Int × Bool × Bool × Bool) (fun J3737 =>
      JoinVC (S := Bool) (fun J14948 =>
          ∃ x : Int, w3.cell? ⟨g1, 0, none⟩ = some (.int .i64 x) ∧
          Br (decide (x < 0))
            (J14948 true w3)
            (∃ x1 : Int, w3.cell? ⟨g1, 0, none⟩ = some (.int .i64 x1) ∧
            Br (decide ((255 : Int) < x1))
              (J14948 true w3)
              (∃ x2 : Int, w3.cell? ⟨g1, 0, none⟩ = some (.int .i64 x2) ∧
              Br (decide (x2 = 1))
                (J14948 true w3)
                (∃ x3 : Int, w3.cell? ⟨g1, 0, none⟩ = some (.int .i64 x3) ∧
                Br (decide (x3 ≠ 0))
                  (∃ (xA : Option Addr) (xn xc : Nat), w3.cell? ⟨g1, 1, none⟩ = some (.slice xA xn xc) ∧
                  J14948 (decide ((255 : Int) < (xn : Int))) w3)
                  (J14948 false w3)))))
        (fun s_ w4 => ip6_putOptions_J14948 R lA ln outA outn outc t11_ K58 g1 J3737 s_ w4))
    (fun s_ w9 => ip6_putOptions_J3737 R t11_ K58 g1 s_.1.1 s_.1.2.1 s_.1.2.2 s_.2.1 s_.2.2.1 s_.2.2.2.1 s_.2.2.2.2 w9))
    (Br (decide (Int.tmod (outn : Int) 8 ≠ 6))
    (R (.returned (.tuple #[.slice none 0 0, .int .i64 75])) w1)
    (Br (decide ((2046 : Int) < (outn : Int)))
    (R (.returned (.tuple #[.slice none 0 0, .int .i64 75])) w1)
    (R (.returned (.tuple #[.slice outA outn outc, .int .i64 0])) w1)))
set_option maxRecDepth 100000 in
def ip6_putOptions_VC (lA : Option Addr) (ln : Nat) (_lc : Nat) (w : World) (R : Ending → World → Prop) : Prop :=
  LoopVC (S := (Option Addr × Nat × Nat) × Int) (fun s_ w1 K58 => ip6_putOptions_L58 R lA ln s_.1.1 s_.1.2.1 s_.1.2.2 s_.2 w1 K58) ((none, 0, 0), 0) w
def ip6_putOptions_H : Hints := [(58, [(4, .slice), (11, .int .i64)]), (14948, [(16, .bool)]), (3737, [(4, .slice), (64, .int .i64), (65, .bool), (66, .bool), (74, .bool)]), (59802, [(79, .int .i64)])]
set_option maxRecDepth 100000 in
theorem ip6_putOptions_of (lA : Option Addr) (ln : Nat) (lc : Nat) (w : World) (R : Ending → World → Prop) (hvc_ : ip6_putOptions_VC lA ln lc w R) :
    Calls Tryd.prog 74 #[.slice lA ln lc] w R :=
  calls_of_wpc callOk mixedOk (H := ip6_putOptions_H) (args := [.slice lA ln lc]) (fn := Tryd.f74) (c := bodyOf Tryd.f74) Tryd.func74 rfl (Nat.le_of_ble_eq_true rfl)
    (Eq.mp (by kernel_rfl : ip6_putOptions_VC lA ln lc w R = wpc Tryd.prog callF Tryd.f74.ntmps ip6_putOptions_H 1 (bodyOf Tryd.f74) (argEnv 0 [.slice lA ln lc]) [] w (finish Tryd.prog callF Tryd.f74.results.toList R)) hvc_)

set_option maxRecDepth 100000 in
def ip6_body_J51 (R : Ending → World → Prop) (g1 : Nat) (t25_ : Bool) (w6 : World) : Prop :=
  Br t25_
    (R (.returned (.tuple #[.slice none 0 0, .int .i64 72])) w6)
    (∃ x9 : Int, w6.cell? ⟨g1, 0, none⟩ = some (.int .i64 x9) ∧
    Calls Tryd.prog 54 #[.int .i64 x9] w6 (onRet (fun r_3 w7 => ∃ x10 : Int, r_3 = .int .i64 x10 ∧
    Br (decide (x10 = 1))
      (∃ (xA1 : Option Addr) (xn1 xc1 : Nat), w7.cell? ⟨g1, 1, none⟩ = some (.slice xA1 xn1 xc1) ∧
      Calls Tryd.prog 74 #[.slice xA1 xn1 xc1] w7 (onRet (fun r_4 w8 => ∃ (x0A : Option Addr) (x0n x0c : Nat), ∃ x11 : Int, r_4 = .tuple #[.slice x0A x0n x0c, .int .i64 x11] ∧
      R (.returned (.tuple #[.slice x0A x0n x0c, .int .i64 x11])) w8)
        (fun ch4 w8 => R (.panicked ch4) w8)))
      (∃ (xA2 : Option Addr) (xn2 xc2 : Nat), w7.cell? ⟨g1, 1, none⟩ = some (.slice xA2 xn2 xc2) ∧
      Br (decide ((0 : Int) < (xn2 : Int)))
        (R (.returned (.tuple #[.slice none 0 0, .int .i64 72])) w7)
        (∃ (xA3 : Option Addr) (xn3 xc3 : Nat), w7.cell? ⟨g1, 2, none⟩ = some (.slice xA3 xn3 xc3) ∧
        Br (decide (Int.tmod (xn3 : Int) 8 ≠ 6))
          (R (.returned (.tuple #[.slice none 0 0, .int .i64 72])) w7)
          (∃ (xA4 : Option Addr) (xn4 xc4 : Nat), w7.cell? ⟨g1, 2, none⟩ = some (.slice xA4 xn4 xc4) ∧
          Br (decide ((2046 : Int) < (xn4 : Int)))
        (R (.returned (.tuple #[.slice none 0 0, .int .i64 72])) w7)
        (∃ (xA5 : Option Addr) (xn5 xc5 : Nat), w7.cell? ⟨g1, 2, none⟩ = some (.slice xA5 xn5 xc5) ∧
  R (.returned (.tuple #[.slice xA5 xn5 xc5, .int .i64 0])) w7)))))
      (fun ch3 w7 => R (.panicked ch3) w7)))
set_option maxRecDepth 100000 in
def ip6_body_J12 (R : Ending → World → Prop) (g1 : Nat) (t4_ : Bool) (w4 : World) : Prop :=
  Br t4_
    (R (.returned (.tuple #[.slice none 0 0, .int .i64 72])) w4)
    (JoinVC (S := Bool) (fun J51 =>
        ∃ x7 : Int, w4.cell? ⟨g1, 0, none⟩ = some (.int .i64 x7) ∧
        Calls Tryd.prog 54 #[.int .i64 x7] w4 (onRet (fun r_2 w5 => ∃ x8 : Int, r_2 = .int .i64 x8 ∧
        Br (decide (x8 = 1))
          (∃ (xA : Option Addr) (xn xc : Nat), w5.cell? ⟨g1, 2, none⟩ = some (.slice xA xn xc) ∧
          J51 (decide ((0 : Int) < (xn : Int))) w5)
          (J51 false w5))
          (fun ch2 w5 => R (.panicked ch2) w5)))
      (fun s_ w6 => ip6_body_J51 R g1 s_ w6))
set_option maxRecDepth 100000 in
def ip6_body_VC (x : ExtV) (w : World) (R : Ending → World → Prop) : Prop :=
  NewVC w (.cells x.cells.toArray 115) fun g1 w1 =>
  JoinVC (S := Bool) (fun J12 =>
      ∃ x1 : Int, w1.cell? ⟨g1, 0, none⟩ = some (.int .i64 x1) ∧
      Br (decide (x1 < 0))
        (J12 true w1)
        (∃ x2 : Int, w1.cell? ⟨g1, 0, none⟩ = some (.int .i64 x2) ∧
        Br (decide ((255 : Int) < x2))
          (J12 true w1)
          (∃ x3 : Int, w1.cell? ⟨g1, 0, none⟩ = some (.int .i64 x3) ∧
          Calls Tryd.prog 54 #[.int .i64 x3] w1 (onRet (fun r_ w2 => ∃ x4 : Int, r_ = .int .i64 x4 ∧
          Br (decide (x4 ≠ 1))
            (∃ x5 : Int, w2.cell? ⟨g1, 0, none⟩ = some (.int .i64 x5) ∧
            Calls Tryd.prog 54 #[.int .i64 x5] w2 (onRet (fun r_1 w3 => ∃ x6 : Int, r_1 = .int .i64 x6 ∧
            J12 (decide (x6 ≠ 2)) w3)
              (fun ch1 w3 => R (.panicked ch1) w3)))
            (J12 false w2))
            (fun ch w2 => R (.panicked ch) w2)))))
    (fun s_ w4 => ip6_body_J12 R g1 s_ w4)
def ip6_body_H : Hints := [(12, [(4, .bool)]), (51, [(25, .bool)])]
set_option maxRecDepth 100000 in
theorem ip6_body_of (x : ExtV) (w : World) (R : Ending → World → Prop) (hvc_ : ip6_body_VC x w R) :
    Calls Tryd.prog 53 #[x.val] w R :=
  calls_of_wpc callOk mixedOk (H := ip6_body_H) (args := [x.val]) (fn := Tryd.f53) (c := bodyOf Tryd.f53) Tryd.func53 rfl (Nat.le_of_ble_eq_true rfl)
    (Eq.mp (by kernel_rfl : ip6_body_VC x w R = wpc Tryd.prog callF Tryd.f53.ntmps ip6_body_H 1 (bodyOf Tryd.f53) (argEnv 0 [x.val]) [] w (finish Tryd.prog callF Tryd.f53.results.toList R)) hvc_)

set_option maxRecDepth 100000 in
def ip6_sort_L26 (R : Ending → World → Prop) (kind : Int) (x0 : Int) (x1 : Int) (x2 : Int) (x3 : Int) (x4 : Int) (x5 : Int) (x6 : Int) (x7 : Int) (t6_ : Int) (w1 : World) (K26 : (Int → World → Prop)) : Prop :=
  Br (decide (t6_ < 4))
    (∃ x01 : Int, ∃ x11 : Int, PartVC ([.int .i64 x0, .int .i64 x1, .int .i64 x2, .int .i64 x3, .int .i64 x4, .int .i64 x5, .int .i64 x6, .int .i64 x7]) t6_ 4 2 ([.int .i64 x01, .int .i64 x11]) ∧
  NewVC w1 (.cells (GapV.z : GapV).cells.toArray 151) fun g1 w2 =>
  Stores ⟨g1, 0, none⟩ 0 [.int .i64 x01, .int .i64 x11] w2 fun w3 =>
  ∃ x : Int, w3.cell? ⟨g1, 0, none⟩ = some (.int .i64 x) ∧
  Br (decide (x = kind))
    (∃ x8 : Int, w3.cell? ⟨g1, 1, none⟩ = some (.int .i64 x8) ∧
    R (.returned (.int .i64 x8)) w3)
    (K26 (IntKind.i64.wrap (t6_ + 1)) w3))
    (R (.returned (.int .i64 0)) w1)
set_option maxRecDepth 100000 in
def ip6_sort_VC (kind : Int) (w : World) (R : Ending → World → Prop) : Prop :=
  ∃ x0 : Int, ∃ x1 : Int, ∃ x2 : Int, ∃ x3 : Int, ∃ x4 : Int, ∃ x5 : Int, ∃ x6 : Int, ∃ x7 : Int, CellsAt w ⟨0, 0, none⟩ 0 [.int .i64 x0, .int .i64 x1, .int .i64 x2, .int .i64 x3, .int .i64 x4, .int .i64 x5, .int .i64 x6, .int .i64 x7] ∧
  LoopVC (S := Int) (fun s_ w1 K26 => ip6_sort_L26 R kind x0 x1 x2 x3 x4 x5 x6 x7 s_ w1 K26) 0 w
def ip6_sort_H : Hints := [(26, [(6, .int .i64)])]
set_option maxRecDepth 100000 in
theorem ip6_sort_of (kind : Int) (w : World) (R : Ending → World → Prop) (hvc_ : ip6_sort_VC kind w R) :
    Calls Tryd.prog 54 #[.int .i64 kind] w R :=
  calls_of_wpc callOk mixedOk (H := ip6_sort_H) (args := [.int .i64 kind]) (fn := Tryd.f54) (c := bodyOf Tryd.f54) Tryd.func54 rfl (Nat.le_of_ble_eq_true rfl)
    (Eq.mp (by kernel_rfl : ip6_sort_VC kind w R = wpc Tryd.prog callF Tryd.f54.ntmps ip6_sort_H 1 (bodyOf Tryd.f54) (argEnv 0 [.int .i64 kind]) [] w (finish Tryd.prog callF Tryd.f54.results.toList R)) hvc_)

set_option maxRecDepth 100000 in
def ip6_headers_J125343 (outA : Option Addr) (outn : Nat) (outc : Nat) (t19_ : Int) (K122 : ((Option Addr × Nat × Nat) × Int → World → Prop)) (x0A : Option Addr) (x0n : Nat) (x0c : Nat) (then_ : Int) (w6 : World) : Prop :=
  NewVC w6 (.cells #[.int .u8 (IntKind.u8.wrap then_), .int .u8 (IntKind.u8.wrap (IntKind.i64.wrap (Int.tdiv (x0n : Int) 8)))] 5) fun g2 w7 =>
  AppVC Tryd.prog #[32, 32] 32 (.slice outA outn outc) (.slice (some ⟨g2, 0, none⟩) 2 2) w7 fun lA1 ln1 lc1 w8 =>
  AppVC Tryd.prog #[32, 32] 32 (.slice lA1 ln1 lc1) (.slice x0A x0n x0c) w8 fun lA2 ln2 lc2 w9 =>
  K122 ((lA2, ln2, lc2), IntKind.i64.wrap (t19_ + 1)) w9
set_option maxRecDepth 100000 in
def ip6_headers_J7833 (R : Ending → World → Prop) (lA : Option Addr) (ln : Nat) (next : Int) (outA : Option Addr) (outn : Nat) (outc : Nat) (t19_ : Int) (K122 : ((Option Addr × Nat × Nat) × Int → World → Prop)) (g1 : Nat)  (w4 : World) : Prop :=
  ExtV.ex fun h1 => CellsAt w4 ⟨g1, 0, none⟩ 0 h1.cells ∧
  Calls Tryd.prog 53 #[h1.val] w4 (onRet (fun r_ w5 => ∃ (x0A : Option Addr) (x0n x0c : Nat), ∃ x1 : Int, r_ = .tuple #[.slice x0A x0n x0c, .int .i64 x1] ∧
  Br (decide (x1 ≠ 0))
    (R (.returned (.tuple #[.slice none 0 0, .int .i64 x1])) w5)
    (JoinVC (S := Int) (fun J125343 =>
      Br (decide (IntKind.i64.wrap (t19_ + 1) < (ln : Int)))
        (IdxVC lA ln 3 (IntKind.i64.wrap (t19_ + 1)) fun a1 =>
        ∃ x2 : Int, w5.cell? a1 = some (.int .i64 x2) ∧
        J125343 x2 w5)
        (J125343 next w5))
    (fun s_ w6 => ip6_headers_J125343 outA outn outc t19_ K122 x0A x0n x0c s_ w6)))
    (fun ch w5 => R (.panicked ch) w5))
set_option maxRecDepth 100000 in
def ip6_headers_L122 (R : Ending → World → Prop) (lA : Option Addr) (ln : Nat) (next : Int) (inner : Bool) (outA : Option Addr) (outn : Nat) (outc : Nat) (t19_ : Int) (w1 : World) (K122 : ((Option Addr × Nat × Nat) × Int → World → Prop)) : Prop :=
  Br (decide (t19_ < (ln : Int)))
    (IdxVC lA ln 3 t19_ fun a =>
  ExtV.ex fun h => CellsAt w1 a 0 h.cells ∧
  NewVC w1 (.cells (ExtV.z : ExtV).cells.toArray 115) fun g1 w2 =>
  Stores ⟨g1, 0, none⟩ 0 h.cells w2 fun w3 =>
  JoinVC (S := Unit) (fun J7833 =>
      ∃ x : Int, w3.cell? ⟨g1, 0, none⟩ = some (.int .i64 x) ∧
      Br (decide (x = 0))
        (Br (decide ((0 : Int) < t19_))
          (R (.returned (.tuple #[.slice none 0 0, .int .i64 73])) w3)
          (Br inner
        (R (.returned (.tuple #[.slice none 0 0, .int .i64 73])) w3)
        (J7833 () w3)))
        (J7833 () w3))
    (fun _ w4 => ip6_headers_J7833 R lA ln next outA outn outc t19_ K122 g1 w4))
    (R (.returned (.tuple #[.slice outA outn outc, .int .i64 0])) w1)
set_option maxRecDepth 100000 in
def ip6_headers_VC (lA : Option Addr) (ln : Nat) (_lc : Nat) (next : Int) (inner : Bool) (w : World) (R : Ending → World → Prop) : Prop :=
  Br (decide ((8 : Int) < (ln : Int)))
    (R (.returned (.tuple #[.slice none 0 0, .int .i64 74])) w)
    (LoopVC (S := (Option Addr × Nat × Nat) × Int) (fun s_ w1 K122 => ip6_headers_L122 R lA ln next inner s_.1.1 s_.1.2.1 s_.1.2.2 s_.2 w1 K122) ((none, 0, 0), 0) w)
def ip6_headers_H : Hints := [(122, [(8, .slice), (19, .int .i64)]), (7833, []), (125343, [(13, .int .i64)])]
set_option maxRecDepth 100000 in
theorem ip6_headers_of (lA : Option Addr) (ln : Nat) (lc : Nat) (next : Int) (inner : Bool) (w : World) (R : Ending → World → Prop) (hvc_ : ip6_headers_VC lA ln lc next inner w R) :
    Calls Tryd.prog 44 #[.slice lA ln lc, .int .i64 next, .bool inner] w R :=
  calls_of_wpc callOk mixedOk (H := ip6_headers_H) (args := [.slice lA ln lc, .int .i64 next, .bool inner]) (fn := Tryd.f44) (c := bodyOf Tryd.f44) Tryd.func44 rfl (Nat.le_of_ble_eq_true rfl)
    (Eq.mp (by kernel_rfl : ip6_headers_VC lA ln lc next inner w R = wpc Tryd.prog callF Tryd.f44.ntmps ip6_headers_H 1 (bodyOf Tryd.f44) (argEnv 0 [.slice lA ln lc, .int .i64 next, .bool inner]) [] w (finish Tryd.prog callF Tryd.f44.results.toList R)) hvc_)

set_option maxRecDepth 100000 in
def ip6_fits_VC (f : FragV) (n : Int) (w : World) (R : Ending → World → Prop) : Prop :=
  NewVC w (.cells f.cells.toArray 41) fun g1 w1 =>
  ∃ x : Bool, w1.cell? ⟨g1, 1, none⟩ = some (.bool x) ∧
  Br x
    (Br (decide (n = 0))
      (R (.returned (.bool false)) w1)
      (Br (decide (Int.tmod n 8 ≠ 0))
        (R (.returned (.bool false)) w1)
        (∃ x1 : Int, w1.cell? ⟨g1, 3, none⟩ = some (.int .i64 x1) ∧
        Br (decide ((0 : Int) < x1))
          (Br (decide (n = 0))
    (R (.returned (.bool false)) w1)
    (∃ x2 : Int, w1.cell? ⟨g1, 3, none⟩ = some (.int .i64 x2) ∧
  R (.returned (.bool (decide (IntKind.i64.wrap (x2 + n) ≤ 65535)))) w1))
          (∃ x3 : Int, w1.cell? ⟨g1, 3, none⟩ = some (.int .i64 x3) ∧
  R (.returned (.bool (decide (IntKind.i64.wrap (x3 + n) ≤ 65535)))) w1))))
    (∃ x4 : Int, w1.cell? ⟨g1, 3, none⟩ = some (.int .i64 x4) ∧
    Br (decide ((0 : Int) < x4))
      (Br (decide (n = 0))
    (R (.returned (.bool false)) w1)
    (∃ x5 : Int, w1.cell? ⟨g1, 3, none⟩ = some (.int .i64 x5) ∧
  R (.returned (.bool (decide (IntKind.i64.wrap (x5 + n) ≤ 65535)))) w1))
      (∃ x6 : Int, w1.cell? ⟨g1, 3, none⟩ = some (.int .i64 x6) ∧
  R (.returned (.bool (decide (IntKind.i64.wrap (x6 + n) ≤ 65535)))) w1))
def ip6_fits_H : Hints := []
set_option maxRecDepth 100000 in
theorem ip6_fits_of (f : FragV) (n : Int) (w : World) (R : Ending → World → Prop) (hvc_ : ip6_fits_VC f n w R) :
    Calls Tryd.prog 55 #[f.val, .int .i64 n] w R :=
  calls_of_wpc callOk mixedOk (H := ip6_fits_H) (args := [f.val, .int .i64 n]) (fn := Tryd.f55) (c := bodyOf Tryd.f55) Tryd.func55 rfl (Nat.le_of_ble_eq_true rfl)
    (Eq.mp (by kernel_rfl : ip6_fits_VC f n w R = wpc Tryd.prog callF Tryd.f55.ntmps ip6_fits_H 1 (bodyOf Tryd.f55) (argEnv 0 [f.val, .int .i64 n]) [] w (finish Tryd.prog callF Tryd.f55.results.toList R)) hvc_)

set_option maxRecDepth 100000 in
def ip6_fragged_J115 (R : Ending → World → Prop) (g1 : Nat) (g2 : Nat) (t15_ : Bool) (w6 : World) : Prop :=
  Br t15_
    (R (.returned (.int .i64 72)) w6)
    (∃ x4 : Bool, w6.cell? ⟨g2, 0, none⟩ = some (.bool x4) ∧
    Br (!x4)
      (R (.returned (.int .i64 0)) w6)
      (∃ x5 : Int, w6.cell? ⟨g2, 2, none⟩ = some (.int .i64 x5) ∧
      Br (decide (x5 < 0))
        (R (.returned (.int .i64 76)) w6)
        (∃ x6 : Int, w6.cell? ⟨g2, 2, none⟩ = some (.int .i64 x6) ∧
        Br (decide ((4294967296 : Int) ≤ x6))
          (R (.returned (.int .i64 76)) w6)
          (∃ x7 : Int, w6.cell? ⟨g2, 3, none⟩ = some (.int .i64 x7) ∧
          Br (decide (x7 < 0))
            (R (.returned (.int .i64 76)) w6)
            (∃ x8 : Int, w6.cell? ⟨g2, 3, none⟩ = some (.int .i64 x8) ∧
            Br (decide (Int.tmod x8 8 ≠ 0))
              (R (.returned (.int .i64 76)) w6)
              (∃ x9 : Int, w6.cell? ⟨g2, 3, none⟩ = some (.int .i64 x9) ∧
              Br (decide ((65528 : Int) < x9))
                (R (.returned (.int .i64 76)) w6)
                (FragV.ex fun h3 => CellsAt w6 ⟨g2, 0, none⟩ 0 h3.cells ∧
                ∃ (xA : Option Addr) (xn xc : Nat), w6.cell? ⟨g1, 43, none⟩ = some (.slice xA xn xc) ∧
                Calls Tryd.prog 55 #[h3.val, .int .i64 (xn : Int)] w6 (onRet (fun r_1 w7 => ∃ x10 : Bool, r_1 = .bool x10 ∧
                Br (!x10)
        (R (.returned (.int .i64 76)) w7)
        (R (.returned (.int .i64 0)) w7))
                  (fun ch1 w7 => R (.panicked ch1) w7)))))))))
set_option maxRecDepth 100000 in
def ip6_fragged_J28 (R : Ending → World → Prop) (g1 : Nat) (g2 : Nat) (t6_ : Bool) (w4 : World) : Prop :=
  Br t6_
    (R (.returned (.int .i64 76)) w4)
    (JoinVC (S := Bool) (fun J115 =>
        ∃ x1 : Bool, w4.cell? ⟨g2, 0, none⟩ = some (.bool x1) ∧
        Br (!x1)
          (∃ x2 : Int, w4.cell? ⟨g1, 42, none⟩ = some (.int .i64 x2) ∧
          Calls Tryd.prog 54 #[.int .i64 x2] w4 (onRet (fun r_ w5 => ∃ x3 : Int, r_ = .int .i64 x3 ∧
          J115 (decide (x3 ≠ 0)) w5)
            (fun ch w5 => R (.panicked ch) w5)))
          (J115 false w4))
      (fun s_ w6 => ip6_fragged_J115 R g1 g2 s_ w6))
set_option maxRecDepth 100000 in
def ip6_fragged_VC (h : Ip6V) (w : World) (R : Ending → World → Prop) : Prop :=
  NewVC w (.cells h.cells.toArray 43) fun g1 w1 =>
  FragV.ex fun h1 => CellsAt w1 ⟨g1, 38, none⟩ 0 h1.cells ∧
  NewVC w1 (.cells (FragV.z : FragV).cells.toArray 41) fun g2 w2 =>
  Stores ⟨g2, 0, none⟩ 0 h1.cells w2 fun w3 =>
  JoinVC (S := Bool) (fun J28 =>
      ∃ x : Bool, w3.cell? ⟨g2, 0, none⟩ = some (.bool x) ∧
      Br (!x)
        (FragV.ex fun h2 => CellsAt w3 ⟨g2, 0, none⟩ 0 h2.cells ∧
        J28 (!((FragV.beq h2 (FragV.z : FragV)))) w3)
        (J28 false w3))
    (fun s_ w4 => ip6_fragged_J28 R g1 g2 s_ w4)
def ip6_fragged_H : Hints := [(28, [(6, .bool)]), (115, [(15, .bool)])]
set_option maxRecDepth 100000 in
theorem ip6_fragged_of (h : Ip6V) (w : World) (R : Ending → World → Prop) (hvc_ : ip6_fragged_VC h w R) :
    Calls Tryd.prog 45 #[h.val] w R :=
  calls_of_wpc callOk mixedOk (H := ip6_fragged_H) (args := [h.val]) (fn := Tryd.f45) (c := bodyOf Tryd.f45) Tryd.func45 rfl (Nat.le_of_ble_eq_true rfl)
    (Eq.mp (by kernel_rfl : ip6_fragged_VC h w R = wpc Tryd.prog callF Tryd.f45.ntmps ip6_fragged_H 1 (bodyOf Tryd.f45) (argEnv 0 [h.val]) [] w (finish Tryd.prog callF Tryd.f45.results.toList R)) hvc_)

set_option maxRecDepth 100000 in
def ip6_sized_J3 (R : Ending → World → Prop) (g1 : Nat) (v6 : Bool) (w4 : World) : Prop :=
  Br (!v6)
    (R (.returned (.int .i64 78)) w4)
    (∃ x4 : Int, w4.cell? ⟨g1, 0, none⟩ = some (.int .i64 x4) ∧
    Br (decide (x4 < 0))
      (R (.returned (.int .i64 78)) w4)
      (∃ x5 : Int, w4.cell? ⟨g1, 0, none⟩ = some (.int .i64 x5) ∧
      Br (decide ((255 : Int) < x5))
        (R (.returned (.int .i64 78)) w4)
        (∃ x6 : Int, w4.cell? ⟨g1, 1, none⟩ = some (.int .i64 x6) ∧
        Br (decide (x6 < 0))
          (R (.returned (.int .i64 78)) w4)
          (∃ x7 : Int, w4.cell? ⟨g1, 1, none⟩ = some (.int .i64 x7) ∧
          Br (decide ((1048576 : Int) ≤ x7))
            (R (.returned (.int .i64 78)) w4)
            (∃ x8 : Int, w4.cell? ⟨g1, 2, none⟩ = some (.int .i64 x8) ∧
            Br (decide (x8 < 0))
              (R (.returned (.int .i64 78)) w4)
              (∃ x9 : Int, w4.cell? ⟨g1, 2, none⟩ = some (.int .i64 x9) ∧
              Br (decide ((255 : Int) < x9))
                (R (.returned (.int .i64 78)) w4)
                (∃ x10 : Int, w4.cell? ⟨g1, 42, none⟩ = some (.int .i64 x10) ∧
                Br (decide (x10 < 0))
                  (R (.returned (.int .i64 78)) w4)
                  (∃ x11 : Int, w4.cell? ⟨g1, 42, none⟩ = some (.int .i64 x11) ∧
                  Br (decide ((255 : Int) < x11))
    (R (.returned (.int .i64 78)) w4)
    (R (.returned (.int .i64 0)) w4)))))))))
set_option maxRecDepth 100000 in
def ip6_sized_VC (h : Ip6V) (w : World) (R : Ending → World → Prop) : Prop :=
  NewVC w (.cells h.cells.toArray 43) fun g1 w1 =>
  JoinVC (S := Bool) (fun J3 =>
      ∃ x : Int, w1.cell? ⟨g1, 3, none⟩ = some (.int .i64 x) ∧
      Br (decide (x = 6))
        (∃ x1 : Int, w1.cell? ⟨g1, 20, none⟩ = some (.int .i64 x1) ∧
        Br (decide (x1 = 6))
          (IPV.ex fun h1 => CellsAt w1 ⟨g1, 3, none⟩ 0 h1.cells ∧
          Calls Tryd.prog 52 #[h1.val] w1 (onRet (fun r_ w2 => ∃ x2 : Bool, r_ = .bool x2 ∧
          Br x2
            (IPV.ex fun h2 => CellsAt w2 ⟨g1, 20, none⟩ 0 h2.cells ∧
            Calls Tryd.prog 52 #[h2.val] w2 (onRet (fun r_1 w3 => ∃ x3 : Bool, r_1 = .bool x3 ∧
            J3 x3 w3)
              (fun ch1 w3 => R (.panicked ch1) w3)))
            (J3 false w2))
            (fun ch w2 => R (.panicked ch) w2)))
          (J3 false w1))
        (J3 false w1))
    (fun s_ w4 => ip6_sized_J3 R g1 s_ w4)
def ip6_sized_H : Hints := [(3, [(3, .bool)])]
set_option maxRecDepth 100000 in
theorem ip6_sized_of (h : Ip6V) (w : World) (R : Ending → World → Prop) (hvc_ : ip6_sized_VC h w R) :
    Calls Tryd.prog 43 #[h.val] w R :=
  calls_of_wpc callOk mixedOk (H := ip6_sized_H) (args := [h.val]) (fn := Tryd.f43) (c := bodyOf Tryd.f43) Tryd.func43 rfl (Nat.le_of_ble_eq_true rfl)
    (Eq.mp (by kernel_rfl : ip6_sized_VC h w R = wpc Tryd.prog callF Tryd.f43.ntmps ip6_sized_H 1 (bodyOf Tryd.f43) (argEnv 0 [h.val]) [] w (finish Tryd.prog callF Tryd.f43.results.toList R)) hvc_)

set_option maxRecDepth 100000 in
def ip6_made_J8181 (R : Ending → World → Prop) (g1 : Nat) (x0A : Option Addr) (x0n : Nat) (x0c : Nat) (J511 : ((Option Addr × Nat × Nat) → World → Prop)) (more : Int) (w8 : World) : Prop :=
  NewVC w8 (.cells #[.int .i64 8, .int .i64 8, .int .i64 13, .int .i64 2, .int .i64 1, .int .i64 32] 3) fun g2 w9 =>
  ∃ x8 : Int, w9.cell? ⟨g1, 42, none⟩ = some (.int .i64 x8) ∧
  ∃ x9 : Int, w9.cell? ⟨g1, 41, none⟩ = some (.int .i64 x9) ∧
  ∃ x10 : Int, w9.cell? ⟨g1, 40, none⟩ = some (.int .i64 x10) ∧
  NewVC w9 (.cells #[.int .i64 x8, .int .i64 0, .int .i64 (IntKind.i64.wrap (Int.tdiv x9 8)), .int .i64 0, .int .i64 more, .int .i64 x10] 3) fun g3 w10 =>
  Calls Tryd.prog 46 #[.slice (some ⟨g2, 0, none⟩) 6 6, .slice (some ⟨g3, 0, none⟩) 6 6] w10 (onRet (fun r_3 w11 => ∃ (x0A1 : Option Addr) (x0n1 x0c1 : Nat), ∃ x12 : Int, r_3 = .tuple #[.slice x0A1 x0n1 x0c1, .int .i64 x12] ∧
  AppVC Tryd.prog #[32, 32] 32 (.slice x0A x0n x0c) (.slice x0A1 x0n1 x0c1) w11 fun lA ln lc w12 =>
  J511 (lA, ln, lc) w12)
    (fun ch3 w11 => R (.panicked ch3) w11))
set_option maxRecDepth 100000 in
def ip6_made_J511 (R : Ending → World → Prop) (g1 : Nat) (first1 : Int) (extsA : Option Addr) (extsn : Nat) (extsc : Nat) (w13 : World) : Prop :=
  ∃ (xA3 : Option Addr) (xn3 xc3 : Nat), w13.cell? ⟨g1, 43, none⟩ = some (.slice xA3 xn3 xc3) ∧
  Br (decide ((65535 : Int) < IntKind.i64.wrap (40 + IntKind.i64.wrap ((extsn : Int) + (xn3 : Int)))))
    (R (.returned (.tuple #[.slice none 0 0, .int .i64 2])) w13)
    (NewVC w13 (.cells #[.int .i64 4, .int .i64 8, .int .i64 20, .int .i64 16, .int .i64 8, .int .i64 8] 3) fun g4 w14 =>
  ∃ x13 : Int, w14.cell? ⟨g1, 0, none⟩ = some (.int .i64 x13) ∧
  ∃ x14 : Int, w14.cell? ⟨g1, 1, none⟩ = some (.int .i64 x14) ∧
  ∃ x15 : Int, w14.cell? ⟨g1, 2, none⟩ = some (.int .i64 x15) ∧
  NewVC w14 (.cells #[.int .i64 6, .int .i64 x13, .int .i64 x14, .int .i64 (IntKind.i64.wrap ((extsn : Int) + (xn3 : Int))), .int .i64 first1, .int .i64 x15] 3) fun g5 w15 =>
  Calls Tryd.prog 46 #[.slice (some ⟨g4, 0, none⟩) 6 6, .slice (some ⟨g5, 0, none⟩) 6 6] w15 (onRet (fun r_4 w16 => ∃ (x0A2 : Option Addr) (x0n2 x0c2 : Nat), ∃ x16 : Int, r_4 = .tuple #[.slice x0A2 x0n2 x0c2, .int .i64 x16] ∧
  DrawVC w16 fun S2 w17 =>
  SliceVC (some ⟨g1, 4, none⟩) 16 16 1 none none none fun sA sn sc =>
  SliceVC (some ⟨g1, 21, none⟩) 16 16 1 none none none fun sA1 sn1 sc1 =>
  ∃ (xA4 : Option Addr) (xn4 xc4 : Nat), (∀ w' : World, S2 w' → w'.cell? ⟨g1, 43, none⟩ = some (.slice xA4 xn4 xc4)) ∧
  NewVC w17 (.cells #[.slice x0A2 x0n2 x0c2, .slice sA sn sc, .slice sA1 sn1 sc1, .slice extsA extsn extsc, .slice xA4 xn4 xc4] 32) fun g6 w18 =>
  S2 w18 ∧
  Calls Tryd.prog 47 #[.slice (some ⟨g6, 0, none⟩) 5 5, .slice none 0 0] w18 (onRet (fun r_5 w19 => ∃ (xA5 : Option Addr) (xn5 xc5 : Nat), r_5 = .slice xA5 xn5 xc5 ∧
  S2 w19 ∧
  R (.returned (.tuple #[.slice xA5 xn5 xc5, .int .i64 0])) w19)
    (fun _ _ => False)))
    (fun ch4 w16 => R (.panicked ch4) w16)))
set_option maxRecDepth 100000 in
def ip6_made_J31 (R : Ending → World → Prop) (g1 : Nat) (next : Int) (first1 : Int) (w5 : World) : Prop :=
  ∃ (xA2 : Option Addr) (xn2 xc2 : Nat), w5.cell? ⟨g1, 37, none⟩ = some (.slice xA2 xn2 xc2) ∧
  Calls Tryd.prog 44 #[.slice xA2 xn2 xc2, .int .i64 next, .bool false] w5 (onRet (fun r_1 w6 => ∃ (x0A : Option Addr) (x0n x0c : Nat), ∃ x11 : Int, r_1 = .tuple #[.slice x0A x0n x0c, .int .i64 x11] ∧
  Br (decide (x11 ≠ 0))
    (R (.returned (.tuple #[.slice none 0 0, .int .i64 x11])) w6)
    (Ip6V.ex fun h2 => CellsAt w6 ⟨g1, 0, none⟩ 0 h2.cells ∧
  Calls Tryd.prog 45 #[h2.val] w6 (onRet (fun r_2 w7 => ∃ x5 : Int, r_2 = .int .i64 x5 ∧
  Br (decide (x5 ≠ 0))
    (R (.returned (.tuple #[.slice none 0 0, .int .i64 x5])) w7)
    (JoinVC (S := (Option Addr × Nat × Nat)) (fun J511 =>
      ∃ x6 : Bool, w7.cell? ⟨g1, 38, none⟩ = some (.bool x6) ∧
      Br x6
        (JoinVC (S := Int) (fun J8181 =>
            ∃ x7 : Bool, w7.cell? ⟨g1, 39, none⟩ = some (.bool x7) ∧
            Br x7
              (J8181 1 w7)
              (J8181 0 w7))
          (fun s_ w8 => ip6_made_J8181 R g1 x0A x0n x0c J511 s_ w8))
        (J511 (x0A, x0n, x0c) w7))
    (fun s_ w13 => ip6_made_J511 R g1 first1 s_.1 s_.2.1 s_.2.2 w13)))
    (fun ch2 w7 => R (.panicked ch2) w7))))
    (fun ch1 w6 => R (.panicked ch1) w6))
set_option maxRecDepth 100000 in
def ip6_made_J15 (R : Ending → World → Prop) (g1 : Nat) (first : Int) (next : Int) (w4 : World) : Prop :=
  JoinVC (S := Int) (fun J31 =>
      ∃ (xA : Option Addr) (xn xc : Nat), w4.cell? ⟨g1, 37, none⟩ = some (.slice xA xn xc) ∧
      Br (decide ((0 : Int) < (xn : Int)))
        (∃ (xA1 : Option Addr) (xn1 xc1 : Nat), w4.cell? ⟨g1, 37, none⟩ = some (.slice xA1 xn1 xc1) ∧
        IdxVC xA1 xn1 3 0 fun a =>
        ∃ x4 : Int, w4.cell? a = some (.int .i64 x4) ∧
        J31 x4 w4)
        (J31 first w4))
    (fun s_ w5 => ip6_made_J31 R g1 next s_ w5)
set_option maxRecDepth 100000 in
def ip6_made_VC (h : Ip6V) (w : World) (R : Ending → World → Prop) : Prop :=
  NewVC w (.cells h.cells.toArray 43) fun g1 w1 =>
  Ip6V.ex fun h1 => CellsAt w1 ⟨g1, 0, none⟩ 0 h1.cells ∧
  Calls Tryd.prog 43 #[h1.val] w1 (onRet (fun r_ w2 => ∃ x : Int, r_ = .int .i64 x ∧
  Br (decide (x ≠ 0))
    (R (.returned (.tuple #[.slice none 0 0, .int .i64 x])) w2)
    (DrawVC w2 fun S1 w3 =>
  ∃ x1 : Int, (∀ w' : World, S1 w' → w'.cell? ⟨g1, 42, none⟩ = some (.int .i64 x1)) ∧
  ∃ x2 : Int, (∀ w' : World, S1 w' → w'.cell? ⟨g1, 42, none⟩ = some (.int .i64 x2)) ∧
  JoinVC (S := Int × Int) (fun J15 =>
      ∃ x3 : Bool, w3.cell? ⟨g1, 38, none⟩ = some (.bool x3) ∧
      Br x3
        (J15 (44, 44) w3)
        (J15 (x1, x2) w3))
    (fun s_ w4 => ip6_made_J15 R g1 s_.1 s_.2 w4)))
    (fun ch w2 => R (.panicked ch) w2))
def ip6_made_H : Hints := [(15, [(5, .int .i64), (6, .int .i64)]), (31, [(5, .int .i64)]), (8181, [(10, .int .i64)]), (511, [(7, .slice)])]
set_option maxRecDepth 100000 in
theorem ip6_made_of (h : Ip6V) (w : World) (R : Ending → World → Prop) (hvc_ : ip6_made_VC h w R) :
    Calls Tryd.prog 36 #[h.val] w R :=
  calls_of_wpc callOk mixedOk (H := ip6_made_H) (args := [h.val]) (fn := Tryd.f36) (c := bodyOf Tryd.f36) Tryd.func36 rfl (Nat.le_of_ble_eq_true rfl)
    (Eq.mp (by kernel_rfl : ip6_made_VC h w R = wpc Tryd.prog callF Tryd.f36.ntmps ip6_made_H 1 (bodyOf Tryd.f36) (argEnv 0 [h.val]) [] w (finish Tryd.prog callF Tryd.f36.results.toList R)) hvc_)

set_option maxRecDepth 100000 in
def bytes_Join_L4090 (R : Ending → World → Prop) (sepA : Option Addr) (sepn : Nat) (sepc : Nat) (sA1 : Option Addr) (sn1 : Nat) (sc1 : Nat) (sA2 : Option Addr) (sn2 : Nat) (bp : Int) (t72_ : Int) (w7 : World) (K4090 : (Int × Int → World → Prop)) : Prop :=
  Br (decide (t72_ < (sn2 : Int)))
    (IdxVC sA2 sn2 1 t72_ fun a3 =>
  ∃ (xA3 : Option Addr) (xn3 xc3 : Nat), w7.cell? a3 = some (.slice xA3 xn3 xc3) ∧
  SliceVC sA1 sn1 sc1 1 (some bp) none none fun sA3 sn3 sc3 =>
  CopyVC Tryd.prog #[32, 32] 3 (.slice sA3 sn3 sc3) (.slice sepA sepn sepc) w7 fun m1 w8 =>
  SliceVC sA1 sn1 sc1 1 (some (IntKind.i64.wrap (bp + m1))) none none fun sA4 sn4 sc4 =>
  CopyVC Tryd.prog #[32, 32] 3 (.slice sA4 sn4 sc4) (.slice xA3 xn3 xc3) w8 fun m2 w9 =>
  K4090 (IntKind.i64.wrap (IntKind.i64.wrap (bp + m1) + m2), IntKind.i64.wrap (t72_ + 1)) w9)
    (R (.returned (.slice sA1 sn1 sc1)) w7)
set_option maxRecDepth 100000 in
def bytes_Join_L506 (R : Ending → World → Prop) (sA : Option Addr) (sn : Nat) (sc : Nat) (sepA : Option Addr) (sepn : Nat) (sepc : Nat) (n1 : Int) (t44_ : Int) (w4 : World) (K506 : (Int × Int → World → Prop)) : Prop :=
  Br (decide (t44_ < (sn : Int)))
    (IdxVC sA sn 1 t44_ fun a1 =>
  ∃ (xA1 : Option Addr) (xn1 xc1 : Nat), w4.cell? a1 = some (.slice xA1 xn1 xc1) ∧
  Br (decide (IntKind.i64.wrap (9223372036854775807 - n1) < (xn1 : Int)))
    (R (.panicked [{ v := .iface 9 (.string ⟨#[98, 121, 116, 101, 115, 58, 32, 74, 111, 105, 110, 32, 111, 117, 116, 112, 117, 116, 32, 108, 101, 110, 103, 116, 104, 32, 111, 118, 101, 114, 102, 108, 111, 119]⟩), recovered := false }]) w4)
    (K506 (IntKind.i64.wrap (n1 + (xn1 : Int)), IntKind.i64.wrap (t44_ + 1)) w4))
    (NoZeroVC w4 5 n1 fun g2 nzc w5 =>
  SliceVC (some ⟨g2, 0, none⟩) n1.toNat nzc 1 none (some n1) (some n1) fun sA1 sn1 sc1 =>
  IdxVC sA sn 1 0 fun a2 =>
  ∃ (xA2 : Option Addr) (xn2 xc2 : Nat), w5.cell? a2 = some (.slice xA2 xn2 xc2) ∧
  CopyVC Tryd.prog #[32, 32] 3 (.slice sA1 sn1 sc1) (.slice xA2 xn2 xc2) w5 fun m w6 =>
  SliceVC sA sn sc 1 (some 1) none none fun sA2 sn2 _sc2 =>
  LoopVC (S := Int × Int) (fun s_ w7 K4090 => bytes_Join_L4090 R sepA sepn sepc sA1 sn1 sc1 sA2 sn2 s_.1 s_.2 w7 K4090) (m, 0) w6)
set_option maxRecDepth 100000 in
def bytes_Join_J31 (R : Ending → World → Prop) (sA : Option Addr) (sn : Nat) (sc : Nat) (sepA : Option Addr) (sepn : Nat) (sepc : Nat) (n : Int) (w3 : World) : Prop :=
  LoopVC (S := Int × Int) (fun s_ w4 K506 => bytes_Join_L506 R sA sn sc sepA sepn sepc s_.1 s_.2 w4 K506) (n, 0) w3
set_option maxRecDepth 100000 in
def bytes_Join_VC (sA : Option Addr) (sn : Nat) (sc : Nat) (sepA : Option Addr) (sepn : Nat) (sepc : Nat) (w : World) (R : Ending → World → Prop) : Prop :=
  Br (decide ((sn : Int) = 0))
    (NewVC w (.cells #[] 5) fun g1 w1 =>
    R (.returned (.slice (some ⟨g1, 0, none⟩) 0 0)) w1)
    (Br (decide ((sn : Int) = 1))
    (IdxVC sA sn 1 0 fun a =>
    ∃ (xA : Option Addr) (xn xc : Nat), w.cell? a = some (.slice xA xn xc) ∧
    AppVC Tryd.prog #[32, 32] 32 (.slice none 0 0) (.slice xA xn xc) w fun lA ln lc w2 =>
    R (.returned (.slice lA ln lc)) w2)
    (JoinVC (S := Int) (fun J31 =>
      Br (decide ((0 : Int) < (sepn : Int)))
        (DivVC (IntKind.i64.wrap ((sn : Int) - 1)) (
        Br (decide (IntKind.i64.wrap (Int.tdiv 9223372036854775807 (IntKind.i64.wrap ((sn : Int) - 1))) ≤ (sepn : Int)))
          (R (.panicked [{ v := .iface 9 (.string ⟨#[98, 121, 116, 101, 115, 58, 32, 74, 111, 105, 110, 32, 111, 117, 116, 112, 117, 116, 32, 108, 101, 110, 103, 116, 104, 32, 111, 118, 101, 114, 102, 108, 111, 119]⟩), recovered := false }]) w)
          (J31 (IntKind.i64.wrap (0 + IntKind.i64.wrap ((sepn : Int) * IntKind.i64.wrap ((sn : Int) - 1)))) w)))
        (J31 0 w))
    (fun s_ w3 => bytes_Join_J31 R sA sn sc sepA sepn sepc s_ w3)))
def bytes_Join_H : Hints := [(31, [(5, .int .i64)]), (506, [(5, .int .i64), (44, .int .i64)]), (4090, [(9, .int .i64), (72, .int .i64)])]
set_option maxRecDepth 100000 in
theorem bytes_Join_of (sA : Option Addr) (sn : Nat) (sc : Nat) (sepA : Option Addr) (sepn : Nat) (sepc : Nat) (w : World) (R : Ending → World → Prop) (hvc_ : bytes_Join_VC sA sn sc sepA sepn sepc w R) :
    Calls Tryd.prog 47 #[.slice sA sn sc, .slice sepA sepn sepc] w R :=
  calls_of_wpc callOk mixedOk (H := bytes_Join_H) (args := [.slice sA sn sc, .slice sepA sepn sepc]) (fn := Tryd.f47) (c := bodyOf Tryd.f47) Tryd.func47 rfl (Nat.le_of_ble_eq_true rfl)
    (Eq.mp (by kernel_rfl : bytes_Join_VC sA sn sc sepA sepn sepc w R = wpc Tryd.prog callF Tryd.f47.ntmps bytes_Join_H 1 (bodyOf Tryd.f47) (argEnv 0 [.slice sA sn sc, .slice sepA sepn sepc]) [] w (finish Tryd.prog callF Tryd.f47.results.toList R)) hvc_)

set_option maxRecDepth 100000 in
def addr_Valid_VC (ip : IPV) (w : World) (R : Ending → World → Prop) : Prop :=
  NewVC w (.cells ip.cells.toArray 31) fun g1 w1 =>
  IPV.ex fun h => CellsAt w1 ⟨g1, 0, none⟩ 0 h.cells ∧
  Calls Tryd.prog 73 #[h.val] w1 (onRet (fun r_ w2 => ∃ x : Int, r_ = .int .i64 x ∧
  R (.returned (.bool (decide ((0 : Int) < x)))) w2)
    (fun ch w2 => R (.panicked ch) w2))
def addr_Valid_H : Hints := []
set_option maxRecDepth 100000 in
theorem addr_Valid_of (ip : IPV) (w : World) (R : Ending → World → Prop) (hvc_ : addr_Valid_VC ip w R) :
    Calls Tryd.prog 52 #[ip.val] w R :=
  calls_of_wpc callOk mixedOk (H := addr_Valid_H) (args := [ip.val]) (fn := Tryd.f52) (c := bodyOf Tryd.f52) Tryd.func52 rfl (Nat.le_of_ble_eq_true rfl)
    (Eq.mp (by kernel_rfl : addr_Valid_VC ip w R = wpc Tryd.prog callF Tryd.f52.ntmps addr_Valid_H 1 (bodyOf Tryd.f52) (argEnv 0 [ip.val]) [] w (finish Tryd.prog callF Tryd.f52.results.toList R)) hvc_)

set_option maxRecDepth 100000 in
def addr_size_VC (ip : IPV) (w : World) (R : Ending → World → Prop) : Prop :=
  NewVC w (.cells ip.cells.toArray 31) fun g1 w1 =>
  ∃ x : Int, w1.cell? ⟨g1, 0, none⟩ = some (.int .i64 x) ∧
  Br (decide (x = 6))
    (R (.returned (.int .i64 128)) w1)
    (∃ x1 : Int, w1.cell? ⟨g1, 0, none⟩ = some (.int .i64 x1) ∧
  Br (decide (x1 ≠ 4))
    (R (.returned (.int .i64 0)) w1)
    (SliceVC (some ⟨g1, 1, none⟩) 16 16 1 (some 4) none none fun sA sn _sc =>
    12 ≤ sn ∧
    NilVC sA fun p =>
    ∃ x0 : Int, ∃ x11 : Int, ∃ x2 : Int, ∃ x3 : Int, ∃ x4 : Int, ∃ x5 : Int, ∃ x6 : Int, ∃ x7 : Int, ∃ x8 : Int, ∃ x9 : Int, ∃ x10 : Int, ∃ x111 : Int, CellsAt w1 p 0 [.int .u8 x0, .int .u8 x11, .int .u8 x2, .int .u8 x3, .int .u8 x4, .int .u8 x5, .int .u8 x6, .int .u8 x7, .int .u8 x8, .int .u8 x9, .int .u8 x10, .int .u8 x111] ∧
    Br (!(((decide (x0 = 0)) && ((decide (x11 = 0)) && ((decide (x2 = 0)) && ((decide (x3 = 0)) && ((decide (x4 = 0)) && ((decide (x5 = 0)) && ((decide (x6 = 0)) && ((decide (x7 = 0)) && ((decide (x8 = 0)) && ((decide (x9 = 0)) && ((decide (x10 = 0)) && ((decide (x111 = 0)) && true))))))))))))))
    (R (.returned (.int .i64 0)) w1)
    (R (.returned (.int .i64 32)) w1)))
def addr_size_H : Hints := []
set_option maxRecDepth 100000 in
theorem addr_size_of (ip : IPV) (w : World) (R : Ending → World → Prop) (hvc_ : addr_size_VC ip w R) :
    Calls Tryd.prog 73 #[ip.val] w R :=
  calls_of_wpc callOk mixedOk (H := addr_size_H) (args := [ip.val]) (fn := Tryd.f73) (c := bodyOf Tryd.f73) Tryd.func73 rfl (Nat.le_of_ble_eq_true rfl)
    (Eq.mp (by kernel_rfl : addr_size_VC ip w R = wpc Tryd.prog callF Tryd.f73.ntmps addr_size_H 1 (bodyOf Tryd.f73) (argEnv 0 [ip.val]) [] w (finish Tryd.prog callF Tryd.f73.results.toList R)) hvc_)
end N6
end Go.Proofs.YthhgbpmihhljdaaDoor
