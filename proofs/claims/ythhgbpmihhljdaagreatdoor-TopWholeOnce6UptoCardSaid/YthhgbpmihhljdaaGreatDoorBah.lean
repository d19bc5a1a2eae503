/- WRITTEN BY a program of this session (vc.py): for each Go function the condition that is enough for its contract, and the theorem that it is. -/
import Derived.Test.YthhgbpmihhljdaaGreatDoorProg
import Derived.Test.YthhgbpmihhljdaaGreatDoorBae
import Derived.Test.YthhgbpmihhljdaaGreatDoorBag
namespace Go.Proofs.YthhgbpmihhljdaaGreatDoor
open Go.Eng
namespace N6
def bodyOf (fn : Func) : Code := match fn.body with | some c => c | none => .skip
def callF (f : Nat) : Bool := Nat.ble 3 f && Nat.ble f 145 && !(Nat.beq f 79) && !(Nat.beq f 80) && !(Nat.beq f 86) && !(Nat.beq f 94) && !(Nat.beq f 95) && !(Nat.beq f 96) && !(Nat.beq f 97) && !(Nat.beq f 98) && !(Nat.beq f 99) && !(Nat.beq f 100) && !(Nat.beq f 101) && !(Nat.beq f 102) && !(Nat.beq f 103) && !(Nat.beq f 112) && !(Nat.beq f 113) && !(Nat.beq f 114) && !(Nat.beq f 115) && !(Nat.beq f 116) && !(Nat.beq f 125) && !(Nat.beq f 129) && !(Nat.beq f 130) && !(Nat.beq f 131) && !(Nat.beq f 132) && !(Nat.beq f 133) && !(Nat.beq f 134) && !(Nat.beq f 135) && !(Nat.beq f 136) && !(Nat.beq f 137) && !(Nat.beq f 138) && !(Nat.beq f 139) && !(Nat.beq f 140) && !(Nat.beq f 141) && !(Nat.beq f 142) && !(Nat.beq f 143) && !(Nat.beq f 144)
theorem callAll : ((List.range 146).all fun f => !(callF f) || callableB Tryz.prog f) = true := by kernel_rfl
theorem callOk : ∀ f, callF f = true → callableB Tryz.prog f = true := by
  intro f hf
  have h := List.all_eq_true.1 callAll f (by simp [callF] at hf; simp; omega)
  simpa [hf] using h
theorem mixedOk : Tryz.prog.follows .mixedOrders = true := by kernel_rfl

set_option maxRecDepth 100000 in
def ip6_padding_L12 (R : Ending → World → Prop)  (outA1 : Option Addr) (outn1 : Nat) (outc1 : Nat) (n1 : Int) (w1 : World) (K12 : ((Option Addr × Nat × Nat) × Int → World → Prop)) : Prop :=
  Br (decide ((1 : Int) < n1))
    (NewVC w1 (.cells #[.int .u8 1, .int .u8 (IntKind.u8.wrap (IntKind.i64.wrap ((if 257 < n1 then 257 else n1) - 2)))] 5) fun g1 w2 =>
  AppVC Tryz.prog #[28, 28] 28 (.slice outA1 outn1 outc1) (.slice (some ⟨g1, 0, none⟩) 2 2) w2 fun lA ln lc w3 =>
  AppVC Tryz.prog #[28, 3] 28 (.slice lA ln lc) (.int .i64 (IntKind.i64.wrap ((if 257 < n1 then 257 else n1) - 2))) w3 fun lA1 ln1 lc1 w4 =>
  K12 ((lA1, ln1, lc1), IntKind.i64.wrap (n1 - (if 257 < n1 then 257 else n1))) w4)
    (Br (decide (n1 = 1))
    (NewVC w1 (.cells #[.int .u8 0] 5) fun g2 w5 =>
    AppVC Tryz.prog #[28, 28] 28 (.slice outA1 outn1 outc1) (.slice (some ⟨g2, 0, none⟩) 1 1) w5 fun lA2 ln2 lc2 w6 =>
    R (.returned (.slice lA2 ln2 lc2)) w6)
    (R (.returned (.slice outA1 outn1 outc1)) w1))
set_option maxRecDepth 100000 in
def ip6_padding_VC (outA : Option Addr) (outn : Nat) (outc : Nat) (n : Int) (w : World) (R : Ending → World → Prop) : Prop :=
  LoopVC (S := (Option Addr × Nat × Nat) × Int) (fun s_ w1 K12 => ip6_padding_L12 R s_.1.1 s_.1.2.1 s_.1.2.2 s_.2 w1 K12) ((outA, outn, outc), n) w
def ip6_padding_H : Hints := [(12, [(0, .slice), (1, .int .i64)])]
set_option maxRecDepth 100000 in
theorem ip6_padding_of (outA : Option Addr) (outn : Nat) (outc : Nat) (n : Int) (w : World) (R : Ending → World → Prop) (hvc_ : ip6_padding_VC outA outn outc n w R) :
    Calls Tryz.prog 107 #[.slice outA outn outc, .int .i64 n] w R :=
  calls_of_wpc callOk mixedOk (H := ip6_padding_H) (args := [.slice outA outn outc, .int .i64 n]) (fn := Tryz.f107) (c := bodyOf Tryz.f107) Tryz.func107 rfl (Nat.le_of_ble_eq_true rfl)
    (Eq.mp (by kernel_rfl : ip6_padding_VC outA outn outc n w R = wpc Tryz.prog callF Tryz.f107.ntmps ip6_padding_H 1 (bodyOf Tryz.f107) (argEnv 0 [.slice outA outn outc, .int .i64 n]) [] w (finish Tryz.prog callF Tryz.f107.results.toList R)) hvc_)

set_option maxRecDepth 100000 in
def ip6_putOptions_J14948 (R : Ending → World → Prop) (lA : Option Addr) (ln : Nat) (outA : Option Addr) (outn : Nat) (outc : Nat) (t11_ : Int) (K58 : ((Option Addr × Nat × Nat) × Int → World → Prop)) (g1 : Nat) (J3737 : ((Option Addr × Nat × Nat) × Int × Bool × Bool × Bool → World → Prop)) (t16_ : Bool) (w4 : World) : Prop :=
  Br t16_
    (R (.returned (.tuple #[.slice none 0 0, .int .i64 75])) w4)
    (∃ x4 : Int, w4.cell? ⟨g1, 0, none⟩ = some (.int .i64 x4) ∧
    Br (decide (x4 ≠ 0))
      (DrawVC w4 fun S1 w5 =>
      ∃ x5 : Int, (∀ w' : World, S1 w' → w'.cell? ⟨g1, 0, none⟩ = some (.int .i64 x5)) ∧
      ∃ (xA1 : Option Addr) (xn1 xc1 : Nat), (∀ w' : World, S1 w' → w'.cell? ⟨g1, 1, none⟩ = some (.slice xA1 xn1 xc1)) ∧
      ∃ (xA2 : Option Addr) (xn2 xc2 : Nat), (∀ w' : World, S1 w' → w'.cell? ⟨g1, 1, none⟩ = some (.slice xA2 xn2 xc2)) ∧
      NewVC w5 (.cells #[.int .u8 (IntKind.u8.wrap x5), .int .u8 (IntKind.u8.wrap (xn1 : Int))] 5) fun g2 w6 =>
      S1 w6 ∧
      AppVC Tryz.prog #[28, 28] 28 (.slice outA outn outc) (.slice (some ⟨g2, 0, none⟩) 2 2) w6 fun lA1 ln1 lc1 w7 =>
      S1 w7 ∧
      AppVC Tryz.prog #[28, 28] 28 (.slice lA1 ln1 lc1) (.slice xA2 xn2 xc2) w7 fun lA2 ln2 lc2 w8 =>
      S1 w8 ∧
      K58 ((lA2, ln2, lc2), IntKind.i64.wrap (t11_ + 1)) w8)
      (∃ (xA3 : Option Addr) (xn3 xc3 : Nat), w4.cell? ⟨g1, 1, none⟩ = some (.slice xA3 xn3 xc3) ∧
      Br (decide ((xn3 : Int) = 0))
        (R (.returned (.tuple #[.slice none 0 0, .int .i64 75])) w4)
        (Br (decide ((0 : Int) < t11_))
          (IdxVC lA ln 2 (IntKind.i64.wrap (t11_ - 1)) fun a1 =>
          ∃ x6 : Int, w4.cell? a1 = some (.int .i64 x6) ∧
          Br (decide (x6 = 0))
        (R (.returned (.tuple #[.slice none 0 0, .int .i64 75])) w4)
        (J3737 ((outA, outn, outc), t11_, decide ((0 : Int) < t11_), true, decide (x6 = 0)) w4))
          (J3737 ((outA, outn, outc), t11_, decide ((0 : Int) < t11_), false, false) w4))))
set_option maxRecDepth 100000 in
def ip6_putOptions_L59802 (R : Ending → World → Prop) (t11_ : Int) (K58 : ((Option Addr × Nat × Nat) × Int → World → Prop)) (g1 : Nat) (outA1 : Option Addr) (outn1 : Nat) (outc1 : Nat) (xA4 : Option Addr) (xn4 : Nat) (t79_ : Int) (w10 : World) (K59802 : (Int → World → Prop)) : Prop :=
  Br (decide (t79_ < (xn4 : Int)))
    (IdxVC xA4 xn4 1 t79_ fun a2 =>
  ∃ x7 : Int, w10.cell? a2 = some (.int .u8 x7) ∧
  Br (decide (x7 ≠ 0))
    (R (.returned (.tuple #[.slice none 0 0, .int .i64 75])) w10)
    (K59802 (IntKind.i64.wrap (t79_ + 1)) w10))
    (∃ (xA5 : Option Addr) (xn5 xc5 : Nat), w10.cell? ⟨g1, 1, none⟩ = some (.slice xA5 xn5 xc5) ∧
  Br (decide ((2046 : Int) < (xn5 : Int)))
    (R (.returned (.tuple #[.slice none 0 0, .int .i64 75])) w10)
    (∃ (xA6 : Option Addr) (xn6 xc6 : Nat), w10.cell? ⟨g1, 1, none⟩ = some (.slice xA6 xn6 xc6) ∧
  Calls Tryz.prog 107 #[.slice outA1 outn1 outc1, .int .i64 (xn6 : Int)] w10 (onRet (fun r_ w11 => ∃ (xA7 : Option Addr) (xn7 xc7 : Nat), r_ = .slice xA7 xn7 xc7 ∧
  K58 ((xA7, xn7, xc7), IntKind.i64.wrap (t11_ + 1)) w11)
    (fun ch w11 => R (.panicked ch) w11))))
set_option maxRecDepth 100000 in
def ip6_putOptions_J3737 (R : Ending → World → Prop) (t11_ : Int) (K58 : ((Option Addr × Nat × Nat) × Int → World → Prop)) (g1 : Nat) (outA1 : Option Addr) (outn1 : Nat) (outc1 : Nat) (_t64_ : Int) (_t65_ : Bool) (_t66_ : Bool) (_t74_ : Bool) (w9 : World) : Prop :=
  ∃ (xA4 : Option Addr) (xn4 xc4 : Nat), w9.cell? ⟨g1, 1, none⟩ = some (.slice xA4 xn4 xc4) ∧
  LoopVC (S := Int) (fun s_ w10 K59802 => ip6_putOptions_L59802 R t11_ K58 g1 outA1 outn1 outc1 xA4 xn4 s_ w10 K59802) 0 w9
set_option maxRecDepth 100000 in
def ip6_putOptions_L58 (R : Ending → World → Prop) (lA : Option Addr) (ln : Nat) (outA : Option Addr) (outn : Nat) (outc : Nat) (t11_ : Int) (w1 : World) (K58 : ((Option Addr × Nat × Nat) × Int → World → Prop)) : Prop :=
  Br (decide (t11_ < (ln : Int)))
    (IdxVC lA ln 2 t11_ fun a =>
  OptV.ex fun h => CellsAt w1 a 0 h.cells ∧
  NewVC w1 (.cells (OptV.z : OptV).cells.toArray 127) fun g1 w2 =>
  Stores ⟨g1, 0, none⟩ 0 h.cells w2 fun w3 =>
  JoinVC (S := (Option Addr × Nat × Nat) × Int × Bool × Bool × Bool) (fun J3737 =>
      JoinVC (S := Bool) (fun J14948 =>
          ∃ x : Int, w3.cell? ⟨g1, 0, none⟩ = some (.int .i64 x) ∧
          Br (decide (x < 0))
            (J14948 true w3)
            (∃ x1 : Int, w3.cell? ⟨g1, 0, none⟩ = some (.int .i64 x1) ∧
            Br (decide ((255 : Int) < x1))
              (J14948 true w3)
              (∃ x2 : Int, w3.cell? ⟨g1, 0, none⟩ = some (.int .i64 x2) ∧
              Br (decide (x2 = 1))
                (J14948 true w3)
                (∃ x3 : Int, w3.cell? ⟨g1, 0, none⟩ = some (.int .i64 x3) ∧
                Br (decide (x3 ≠ 0))
                  (∃ (xA : Option Addr) (xn xc : Nat), w3.cell? ⟨g1, 1, none⟩ = some (.slice xA xn xc) ∧
                  J14948 (decide ((255 : Int) < (xn : Int))) w3)
                  (J14948 false w3)))))
        (fun s_ w4 => ip6_putOptions_J14948 R lA ln outA outn outc t11_ K58 g1 J3737 s_ w4))
    (fun s_ w9 => ip6_putOptions_J3737 R t11_ K58 g1 s_.1.1 s_.1.2.1 s_.1.2.2 s_.2.1 s_.2.2.1 s_.2.2.2.1 s_.2.2.2.2 w9))
    (Br (decide (Int.tmod (outn : Int) 8 ≠ 6))
    (R (.returned (.tuple #[.slice none 0 0, .int .i64 75])) w1)
    (Br (decide ((2046 : Int) < (outn : Int)))
    (R (.returned (.tuple #[.slice none 0 0, .int .i64 75])) w1)
    (R (.returned (.tuple #[.slice outA outn outc, .int .i64 0])) w1)))
set_option maxRecDepth 100000 in
def ip6_putOptions_VC (lA : Option Addr) (ln : Nat) (_lc : Nat) (w : World) (R : Ending → World → Prop) : Prop :=
  LoopVC (S := (Option Addr × Nat × Nat) × Int) (fun s_ w1 K58 => ip6_putOptions_L58 R lA ln s_.1.1 s_.1.2.1 s_.1.2.2 s_.2 w1 K58) ((none, 0, 0), 0) w
def ip6_putOptions_H : Hints := [(58, [(4, .slice), (11, .int .i64)]), (14948, [(16, .bool)]), (3737, [(4, .slice), (64, .int .i64), (65, .bool), (66, .bool), (74, .bool)]), (59802, [(79, .int .i64)])]
set_option maxRecDepth 100000 in
theorem ip6_putOptions_of (lA : Option Addr) (ln : Nat) (lc : Nat) (w : World) (R : Ending → World → Prop) (hvc_ : ip6_putOptions_VC lA ln lc w R) :
    Calls Tryz.prog 87 #[.slice lA ln lc] w R :=
  calls_of_wpc callOk mixedOk (H := ip6_putOptions_H) (args := [.slice lA ln lc]) (fn := Tryz.f87) (c := bodyOf Tryz.f87) Tryz.func87 rfl (Nat.le_of_ble_eq_true rfl)
    (Eq.mp (by kernel_rfl : ip6_putOptions_VC lA ln lc w R = wpc Tryz.prog callF Tryz.f87.ntmps ip6_putOptions_H 1 (bodyOf Tryz.f87) (argEnv 0 [.slice lA ln lc]) [] w (finish Tryz.prog callF Tryz.f87.results.toList R)) hvc_)

set_option maxRecDepth 100000 in
def ip6_body_J51 (R : Ending → World → Prop) (g1 : Nat) (t25_ : Bool) (w6 : World) : Prop :=
  Br t25_
    (R (.returned (.tuple #[.slice none 0 0, .int .i64 72])) w6)
    (∃ x9 : Int, w6.cell? ⟨g1, 0, none⟩ = some (.int .i64 x9) ∧
    Calls Tryz.prog 51 #[.int .i64 x9] w6 (onRet (fun r_3 w7 => ∃ x10 : Int, r_3 = .int .i64 x10 ∧
    Br (decide (x10 = 1))
      (∃ (xA1 : Option Addr) (xn1 xc1 : Nat), w7.cell? ⟨g1, 1, none⟩ = some (.slice xA1 xn1 xc1) ∧
      Calls Tryz.prog 87 #[.slice xA1 xn1 xc1] w7 (onRet (fun r_4 w8 => ∃ (x0A : Option Addr) (x0n x0c : Nat), ∃ x11 : Int, r_4 = .tuple #[.slice x0A x0n x0c, .int .i64 x11] ∧
      R (.returned (.tuple #[.slice x0A x0n x0c, .int .i64 x11])) w8)
        (fun ch4 w8 => R (.panicked ch4) w8)))
      (∃ (xA2 : Option Addr) (xn2 xc2 : Nat), w7.cell? ⟨g1, 1, none⟩ = some (.slice xA2 xn2 xc2) ∧
      Br (decide ((0 : Int) < (xn2 : Int)))
        (R (.returned (.tuple #[.slice none 0 0, .int .i64 72])) w7)
        (∃ (xA3 : Option Addr) (xn3 xc3 : Nat), w7.cell? ⟨g1, 2, none⟩ = some (.slice xA3 xn3 xc3) ∧
        Br (decide (Int.tmod (xn3 : Int) 8 ≠ 6))
          (R (.returned (.tuple #[.slice none 0 0, .int .i64 72])) w7)
          (∃ (xA4 : Option Addr) (xn4 xc4 : Nat), w7.cell? ⟨g1, 2, none⟩ = some (.slice xA4 xn4 xc4) ∧
          Br (decide ((2046 : Int) < (xn4 : Int)))
        (R (.returned (.tuple #[.slice none 0 0, .int .i64 72])) w7)
        (∃ (xA5 : Option Addr) (xn5 xc5 : Nat), w7.cell? ⟨g1, 2, none⟩ = some (.slice xA5 xn5 xc5) ∧
  R (.returned (.tuple #[.slice xA5 xn5 xc5, .int .i64 0])) w7)))))
      (fun ch3 w7 => R (.panicked ch3) w7)))
set_option maxRecDepth 100000 in
def ip6_body_J12 (R : Ending → World → Prop) (g1 : Nat) (t4_ : Bool) (w4 : World) : Prop :=
  Br t4_
    (R (.returned (.tuple #[.slice none 0 0, .int .i64 72])) w4)
    (JoinVC (S := Bool) (fun J51 =>
        ∃ x7 : Int, w4.cell? ⟨g1, 0, none⟩ = some (.int .i64 x7) ∧
        Calls Tryz.prog 51 #[.int .i64 x7] w4 (onRet (fun r_2 w5 => ∃ x8 : Int, r_2 = .int .i64 x8 ∧
        Br (decide (x8 = 1))
          (∃ (xA : Option Addr) (xn xc : Nat), w5.cell? ⟨g1, 2, none⟩ = some (.slice xA xn xc) ∧
          J51 (decide ((0 : Int) < (xn : Int))) w5)
          (J51 false w5))
          (fun ch2 w5 => R (.panicked ch2) w5)))
      (fun s_ w6 => ip6_body_J51 R g1 s_ w6))
set_option maxRecDepth 100000 in
def ip6_body_VC (x : ExtV) (w : World) (R : Ending → World → Prop) : Prop :=
  NewVC w (.cells x.cells.toArray 56) fun g1 w1 =>
  JoinVC (S := Bool) (fun J12 =>
      ∃ x1 : Int, w1.cell? ⟨g1, 0, none⟩ = some (.int .i64 x1) ∧
      Br (decide (x1 < 0))
        (J12 true w1)
        (∃ x2 : Int, w1.cell? ⟨g1, 0, none⟩ = some (.int .i64 x2) ∧
        Br (decide ((255 : Int) < x2))
          (J12 true w1)
          (∃ x3 : Int, w1.cell? ⟨g1, 0, none⟩ = some (.int .i64 x3) ∧
          Calls Tryz.prog 51 #[.int .i64 x3] w1 (onRet (fun r_ w2 => ∃ x4 : Int, r_ = .int .i64 x4 ∧
          Br (decide (x4 ≠ 1))
            (∃ x5 : Int, w2.cell? ⟨g1, 0, none⟩ = some (.int .i64 x5) ∧
            Calls Tryz.prog 51 #[.int .i64 x5] w2 (onRet (fun r_1 w3 => ∃ x6 : Int, r_1 = .int .i64 x6 ∧
            J12 (decide (x6 ≠ 2)) w3)
              (fun ch1 w3 => R (.panicked ch1) w3)))
            (J12 false w2))
            (fun ch w2 => R (.panicked ch) w2)))))
    (fun s_ w4 => ip6_body_J12 R g1 s_ w4)
def ip6_body_H : Hints := [(12, [(4, .bool)]), (51, [(25, .bool)])]
set_option maxRecDepth 100000 in
theorem ip6_body_of (x : ExtV) (w : World) (R : Ending → World → Prop) (hvc_ : ip6_body_VC x w R) :
    Calls Tryz.prog 74 #[x.val] w R :=
  calls_of_wpc callOk mixedOk (H := ip6_body_H) (args := [x.val]) (fn := Tryz.f74) (c := bodyOf Tryz.f74) Tryz.func74 rfl (Nat.le_of_ble_eq_true rfl)
    (Eq.mp (by kernel_rfl : ip6_body_VC x w R = wpc Tryz.prog callF Tryz.f74.ntmps ip6_body_H 1 (bodyOf Tryz.f74) (argEnv 0 [x.val]) [] w (finish Tryz.prog callF Tryz.f74.results.toList R)) hvc_)

set_option maxRecDepth 100000 in
def ip6_sort_L26 (R : Ending → World → Prop) (kind : Int) (x0 : Int) (x1 : Int) (x2 : Int) (x3 : Int) (x4 : Int) (x5 : Int) (x6 : Int) (x7 : Int) (t6_ : Int) (w1 : World) (K26 : (Int → World → Prop)) : Prop :=
  Br (decide (t6_ < 4))
    (∃ x01 : Int, ∃ x11 : Int, PartVC ([.int .i64 x0, .int .i64 x1, .int .i64 x2, .int .i64 x3, .int .i64 x4, .int .i64 x5, .int .i64 x6, .int .i64 x7]) t6_ 4 2 ([.int .i64 x01, .int .i64 x11]) ∧
  NewVC w1 (.cells (GapV.z : GapV).cells.toArray 139) fun g1 w2 =>
  Stores ⟨g1, 0, none⟩ 0 [.int .i64 x01, .int .i64 x11] w2 fun w3 =>
  ∃ x : Int, w3.cell? ⟨g1, 0, none⟩ = some (.int .i64 x) ∧
  Br (decide (x = kind))
    (∃ x8 : Int, w3.cell? ⟨g1, 1, none⟩ = some (.int .i64 x8) ∧
    R (.returned (.int .i64 x8)) w3)
    (K26 (IntKind.i64.wrap (t6_ + 1)) w3))
    (R (.returned (.int .i64 0)) w1)
set_option maxRecDepth 100000 in
def ip6_sort_VC (kind : Int) (w : World) (R : Ending → World → Prop) : Prop :=
  ∃ x0 : Int, ∃ x1 : Int, ∃ x2 : Int, ∃ x3 : Int, ∃ x4 : Int, ∃ x5 : Int, ∃ x6 : Int, ∃ x7 : Int, CellsAt w ⟨0, 0, none⟩ 0 [.int .i64 x0, .int .i64 x1, .int .i64 x2, .int .i64 x3, .int .i64 x4, .int .i64 x5, .int .i64 x6, .int .i64 x7] ∧
  LoopVC (S := Int) (fun s_ w1 K26 => ip6_sort_L26 R kind x0 x1 x2 x3 x4 x5 x6 x7 s_ w1 K26) 0 w
def ip6_sort_H : Hints := [(26, [(6, .int .i64)])]
set_option maxRecDepth 100000 in
theorem ip6_sort_of (kind : Int) (w : World) (R : Ending → World → Prop) (hvc_ : ip6_sort_VC kind w R) :
    Calls Tryz.prog 51 #[.int .i64 kind] w R :=
  calls_of_wpc callOk mixedOk (H := ip6_sort_H) (args := [.int .i64 kind]) (fn := Tryz.f51) (c := bodyOf Tryz.f51) Tryz.func51 rfl (Nat.le_of_ble_eq_true rfl)
    (Eq.mp (by kernel_rfl : ip6_sort_VC kind w R = wpc Tryz.prog callF Tryz.f51.ntmps ip6_sort_H 1 (bodyOf Tryz.f51) (argEnv 0 [.int .i64 kind]) [] w (finish Tryz.prog callF Tryz.f51.results.toList R)) hvc_)

set_option maxRecDepth 100000 in
def ip6_headers_J125343 (outA : Option Addr) (outn : Nat) (outc : Nat) (t19_ : Int) (K122 : ((Option Addr × Nat × Nat) × Int → World → Prop)) (x0A : Option Addr) (x0n : Nat) (x0c : Nat) (then_ : Int) (w6 : World) : Prop :=
  NewVC w6 (.cells #[.int .u8 (IntKind.u8.wrap then_), .int .u8 (IntKind.u8.wrap (IntKind.i64.wrap (Int.tdiv (x0n : Int) 8)))] 5) fun g2 w7 =>
  AppVC Tryz.prog #[28, 28] 28 (.slice outA outn outc) (.slice (some ⟨g2, 0, none⟩) 2 2) w7 fun lA1 ln1 lc1 w8 =>
  AppVC Tryz.prog #[28, 28] 28 (.slice lA1 ln1 lc1) (.slice x0A x0n x0c) w8 fun lA2 ln2 lc2 w9 =>
  K122 ((lA2, ln2, lc2), IntKind.i64.wrap (t19_ + 1)) w9
set_option maxRecDepth 100000 in
def ip6_headers_J7833 (R : Ending → World → Prop) (lA : Option Addr) (ln : Nat) (next : Int) (outA : Option Addr) (outn : Nat) (outc : Nat) (t19_ : Int) (K122 : ((Option Addr × Nat × Nat) × Int → World → Prop)) (g1 : Nat)  (w4 : World) : Prop :=
  ExtV.ex fun h1 => CellsAt w4 ⟨g1, 0, none⟩ 0 h1.cells ∧
  Calls Tryz.prog 74 #[h1.val] w4 (onRet (fun r_ w5 => ∃ (x0A : Option Addr) (x0n x0c : Nat), ∃ x1 : Int, r_ = .tuple #[.slice x0A x0n x0c, .int .i64 x1] ∧
  Br (decide (x1 ≠ 0))
    (R (.returned (.tuple #[.slice none 0 0, .int .i64 x1])) w5)
    (JoinVC (S := Int) (fun J125343 =>
      Br (decide (IntKind.i64.wrap (t19_ + 1) < (ln : Int)))
        (IdxVC lA ln 3 (IntKind.i64.wrap (t19_ + 1)) fun a1 =>
        ∃ x2 : Int, w5.cell? a1 = some (.int .i64 x2) ∧
        J125343 x2 w5)
        (J125343 next w5))
    (fun s_ w6 => ip6_headers_J125343 outA outn outc t19_ K122 x0A x0n x0c s_ w6)))
    (fun ch w5 => R (.panicked ch) w5))
set_option maxRecDepth 100000 in
def ip6_headers_L122 (R : Ending → World → Prop) (lA : Option Addr) (ln : Nat) (next : Int) (inner : Bool) (outA : Option Addr) (outn : Nat) (outc : Nat) (t19_ : Int) (w1 : World) (K122 : ((Option Addr × Nat × Nat) × Int → World → Prop)) : Prop :=
  Br (decide (t19_ < (ln : Int)))
    (IdxVC lA ln 3 t19_ fun a =>
  ExtV.ex fun h => CellsAt w1 a 0 h.cells ∧
  NewVC w1 (.cells (ExtV.z : ExtV).cells.toArray 56) fun g1 w2 =>
  Stores ⟨g1, 0, none⟩ 0 h.cells w2 fun w3 =>
  JoinVC (S := Unit) (fun J7833 =>
      ∃ x : Int, w3.cell? ⟨g1, 0, none⟩ = some (.int .i64 x) ∧
      Br (decide (x = 0))
        (Br (decide ((0 : Int) < t19_))
          (R (.returned (.tuple #[.slice none 0 0, .int .i64 73])) w3)
          (Br inner
        (R (.returned (.tuple #[.slice none 0 0, .int .i64 73])) w3)
        (J7833 () w3)))
        (J7833 () w3))
    (fun _ w4 => ip6_headers_J7833 R lA ln next outA outn outc t19_ K122 g1 w4))
    (R (.returned (.tuple #[.slice outA outn outc, .int .i64 0])) w1)
set_option maxRecDepth 100000 in
def ip6_headers_VC (lA : Option Addr) (ln : Nat) (_lc : Nat) (next : Int) (inner : Bool) (w : World) (R : Ending → World → Prop) : Prop :=
  Br (decide ((8 : Int) < (ln : Int)))
    (R (.returned (.tuple #[.slice none 0 0, .int .i64 74])) w)
    (LoopVC (S := (Option Addr × Nat × Nat) × Int) (fun s_ w1 K122 => ip6_headers_L122 R lA ln next inner s_.1.1 s_.1.2.1 s_.1.2.2 s_.2 w1 K122) ((none, 0, 0), 0) w)
def ip6_headers_H : Hints := [(122, [(8, .slice), (19, .int .i64)]), (7833, []), (125343, [(13, .int .i64)])]
set_option maxRecDepth 100000 in
theorem ip6_headers_of (lA : Option Addr) (ln : Nat) (lc : Nat) (next : Int) (inner : Bool) (w : World) (R : Ending → World → Prop) (hvc_ : ip6_headers_VC lA ln lc next inner w R) :
    Calls Tryz.prog 50 #[.slice lA ln lc, .int .i64 next, .bool inner] w R :=
  calls_of_wpc callOk mixedOk (H := ip6_headers_H) (args := [.slice lA ln lc, .int .i64 next, .bool inner]) (fn := Tryz.f50) (c := bodyOf Tryz.f50) Tryz.func50 rfl (Nat.le_of_ble_eq_true rfl)
    (Eq.mp (by kernel_rfl : ip6_headers_VC lA ln lc next inner w R = wpc Tryz.prog callF Tryz.f50.ntmps ip6_headers_H 1 (bodyOf Tryz.f50) (argEnv 0 [.slice lA ln lc, .int .i64 next, .bool inner]) [] w (finish Tryz.prog callF Tryz.f50.results.toList R)) hvc_)

set_option maxRecDepth 100000 in
def ip6_fits_VC (f : FragV) (n : Int) (w : World) (R : Ending → World → Prop) : Prop :=
  NewVC w (.cells f.cells.toArray 27) fun g1 w1 =>
  ∃ x : Bool, w1.cell? ⟨g1, 1, none⟩ = some (.bool x) ∧
  Br x
    (Br (decide (n = 0))
      (R (.returned (.bool false)) w1)
      (Br (decide (Int.tmod n 8 ≠ 0))
        (R (.returned (.bool false)) w1)
        (∃ x1 : Int, w1.cell? ⟨g1, 3, none⟩ = some (.int .i64 x1) ∧
        Br (decide ((0 : Int) < x1))
          (Br (decide (n = 0))
    (R (.returned (.bool false)) w1)
    (∃ x2 : Int, w1.cell? ⟨g1, 3, none⟩ = some (.int .i64 x2) ∧
  R (.returned (.bool (decide (IntKind.i64.wrap (x2 + n) ≤ 65535)))) w1))
          (∃ x3 : Int, w1.cell? ⟨g1, 3, none⟩ = some (.int .i64 x3) ∧
  R (.returned (.bool (decide (IntKind.i64.wrap (x3 + n) ≤ 65535)))) w1))))
    (∃ x4 : Int, w1.cell? ⟨g1, 3, none⟩ = some (.int .i64 x4) ∧
    Br (decide ((0 : Int) < x4))
      (Br (decide (n = 0))
    (R (.returned (.bool false)) w1)
    (∃ x5 : Int, w1.cell? ⟨g1, 3, none⟩ = some (.int .i64 x5) ∧
  R (.returned (.bool (decide (IntKind.i64.wrap (x5 + n) ≤ 65535)))) w1))
      (∃ x6 : Int, w1.cell? ⟨g1, 3, none⟩ = some (.int .i64 x6) ∧
  R (.returned (.bool (decide (IntKind.i64.wrap (x6 + n) ≤ 65535)))) w1))
def ip6_fits_H : Hints := []
set_option maxRecDepth 100000 in
theorem ip6_fits_of (f : FragV) (n : Int) (w : World) (R : Ending → World → Prop) (hvc_ : ip6_fits_VC f n w R) :
    Calls Tryz.prog 84 #[f.val, .int .i64 n] w R :=
  calls_of_wpc callOk mixedOk (H := ip6_fits_H) (args := [f.val, .int .i64 n]) (fn := Tryz.f84) (c := bodyOf Tryz.f84) Tryz.func84 rfl (Nat.le_of_ble_eq_true rfl)
    (Eq.mp (by kernel_rfl : ip6_fits_VC f n w R = wpc Tryz.prog callF Tryz.f84.ntmps ip6_fits_H 1 (bodyOf Tryz.f84) (argEnv 0 [f.val, .int .i64 n]) [] w (finish Tryz.prog callF Tryz.f84.results.toList R)) hvc_)

set_option maxRecDepth 100000 in
def ip6_fragged_J115 (R : Ending → World → Prop) (g1 : Nat) (g2 : Nat) (t15_ : Bool) (w6 : World) : Prop :=
  Br t15_
    (R (.returned (.int .i64 72)) w6)
    (∃ x4 : Bool, w6.cell? ⟨g2, 0, none⟩ = some (.bool x4) ∧
    Br (!x4)
      (R (.returned (.int .i64 0)) w6)
      (∃ x5 : Int, w6.cell? ⟨g2, 2, none⟩ = some (.int .i64 x5) ∧
      Br (decide (x5 < 0))
        (R (.returned (.int .i64 76)) w6)
        (∃ x6 : Int, w6.cell? ⟨g2, 2, none⟩ = some (.int .i64 x6) ∧
        Br (decide ((4294967296 : Int) ≤ x6))
          (R (.returned (.int .i64 76)) w6)
          (∃ x7 : Int, w6.cell? ⟨g2, 3, none⟩ = some (.int .i64 x7) ∧
          Br (decide (x7 < 0))
            (R (.returned (.int .i64 76)) w6)
            (∃ x8 : Int, w6.cell? ⟨g2, 3, none⟩ = some (.int .i64 x8) ∧
            Br (decide (Int.tmod x8 8 ≠ 0))
              (R (.returned (.int .i64 76)) w6)
              (∃ x9 : Int, w6.cell? ⟨g2, 3, none⟩ = some (.int .i64 x9) ∧
              Br (decide ((65528 : Int) < x9))
                (R (.returned (.int .i64 76)) w6)
                (FragV.ex fun h3 => CellsAt w6 ⟨g2, 0, none⟩ 0 h3.cells ∧
                ∃ (xA : Option Addr) (xn xc : Nat), w6.cell? ⟨g1, 43, none⟩ = some (.slice xA xn xc) ∧
                Calls Tryz.prog 84 #[h3.val, .int .i64 (xn : Int)] w6 (onRet (fun r_1 w7 => ∃ x10 : Bool, r_1 = .bool x10 ∧
                Br (!x10)
        (R (.returned (.int .i64 76)) w7)
        (R (.returned (.int .i64 0)) w7))
                  (fun ch1 w7 => R (.panicked ch1) w7)))))))))
set_option maxRecDepth 100000 in
def ip6_fragged_J28 (R : Ending → World → Prop) (g1 : Nat) (g2 : Nat) (t6_ : Bool) (w4 : World) : Prop :=
  Br t6_
    (R (.returned (.int .i64 76)) w4)
    (JoinVC (S := Bool) (fun J115 =>
        ∃ x1 : Bool, w4.cell? ⟨g2, 0, none⟩ = some (.bool x1) ∧
        Br (!x1)
          (∃ x2 : Int, w4.cell? ⟨g1, 42, none⟩ = some (.int .i64 x2) ∧
          Calls Tryz.prog 51 #[.int .i64 x2] w4 (onRet (fun r_ w5 => ∃ x3 : Int, r_ = .int .i64 x3 ∧
          J115 (decide (x3 ≠ 0)) w5)
            (fun ch w5 => R (.panicked ch) w5)))
          (J115 false w4))
      (fun s_ w6 => ip6_fragged_J115 R g1 g2 s_ w6))
set_option maxRecDepth 100000 in
def ip6_fragged_VC (h : Ip6V) (w : World) (R : Ending → World → Prop) : Prop :=
  NewVC w (.cells h.cells.toArray 30) fun g1 w1 =>
  FragV.ex fun h1 => CellsAt w1 ⟨g1, 38, none⟩ 0 h1.cells ∧
  NewVC w1 (.cells (FragV.z : FragV).cells.toArray 27) fun g2 w2 =>
  Stores ⟨g2, 0, none⟩ 0 h1.cells w2 fun w3 =>
  JoinVC (S := Bool) (fun J28 =>
      ∃ x : Bool, w3.cell? ⟨g2, 0, none⟩ = some (.bool x) ∧
      Br (!x)
        (FragV.ex fun h2 => CellsAt w3 ⟨g2, 0, none⟩ 0 h2.cells ∧
        J28 (!((FragV.beq h2 (FragV.z : FragV)))) w3)
        (J28 false w3))
    (fun s_ w4 => ip6_fragged_J28 R g1 g2 s_ w4)
def ip6_fragged_H : Hints := [(28, [(6, .bool)]), (115, [(15, .bool)])]
set_option maxRecDepth 100000 in
theorem ip6_fragged_of (h : Ip6V) (w : World) (R : Ending → World → Prop) (hvc_ : ip6_fragged_VC h w R) :
    Calls Tryz.prog 71 #[h.val] w R :=
  calls_of_wpc callOk mixedOk (H := ip6_fragged_H) (args := [h.val]) (fn := Tryz.f71) (c := bodyOf Tryz.f71) Tryz.func71 rfl (Nat.le_of_ble_eq_true rfl)
    (Eq.mp (by kernel_rfl : ip6_fragged_VC h w R = wpc Tryz.prog callF Tryz.f71.ntmps ip6_fragged_H 1 (bodyOf Tryz.f71) (argEnv 0 [h.val]) [] w (finish Tryz.prog callF Tryz.f71.results.toList R)) hvc_)

set_option maxRecDepth 100000 in
def ip6_sized_J3 (R : Ending → World → Prop) (g1 : Nat) (v6 : Bool) (w4 : World) : Prop :=
  Br (!v6)
    (R (.returned (.int .i64 78)) w4)
    (∃ x4 : Int, w4.cell? ⟨g1, 0, none⟩ = some (.int .i64 x4) ∧
    Br (decide (x4 < 0))
      (R (.returned (.int .i64 78)) w4)
      (∃ x5 : Int, w4.cell? ⟨g1, 0, none⟩ = some (.int .i64 x5) ∧
      Br (decide ((255 : Int) < x5))
        (R (.returned (.int .i64 78)) w4)
        (∃ x6 : Int, w4.cell? ⟨g1, 1, none⟩ = some (.int .i64 x6) ∧
        Br (decide (x6 < 0))
          (R (.returned (.int .i64 78)) w4)
          (∃ x7 : Int, w4.cell? ⟨g1, 1, none⟩ = some (.int .i64 x7) ∧
          Br (decide ((1048576 : Int) ≤ x7))
            (R (.returned (.int .i64 78)) w4)
            (∃ x8 : Int, w4.cell? ⟨g1, 2, none⟩ = some (.int .i64 x8) ∧
            Br (decide (x8 < 0))
              (R (.returned (.int .i64 78)) w4)
              (∃ x9 : Int, w4.cell? ⟨g1, 2, none⟩ = some (.int .i64 x9) ∧
              Br (decide ((255 : Int) < x9))
                (R (.returned (.int .i64 78)) w4)
                (∃ x10 : Int, w4.cell? ⟨g1, 42, none⟩ = some (.int .i64 x10) ∧
                Br (decide (x10 < 0))
                  (R (.returned (.int .i64 78)) w4)
                  (∃ x11 : Int, w4.cell? ⟨g1, 42, none⟩ = some (.int .i64 x11) ∧
                  Br (decide ((255 : Int) < x11))
    (R (.returned (.int .i64 78)) w4)
    (R (.returned (.int .i64 0)) w4)))))))))
set_option maxRecDepth 100000 in
def ip6_sized_VC (h : Ip6V) (w : World) (R : Ending → World → Prop) : Prop :=
  NewVC w (.cells h.cells.toArray 30) fun g1 w1 =>
  JoinVC (S := Bool) (fun J3 =>
      ∃ x : Int, w1.cell? ⟨g1, 3, none⟩ = some (.int .i64 x) ∧
      Br (decide (x = 6))
        (∃ x1 : Int, w1.cell? ⟨g1, 20, none⟩ = some (.int .i64 x1) ∧
        Br (decide (x1 = 6))
          (IPV.ex fun h1 => CellsAt w1 ⟨g1, 3, none⟩ 0 h1.cells ∧
          Calls Tryz.prog 83 #[h1.val] w1 (onRet (fun r_ w2 => ∃ x2 : Bool, r_ = .bool x2 ∧
          Br x2
            (IPV.ex fun h2 => CellsAt w2 ⟨g1, 20, none⟩ 0 h2.cells ∧
            Calls Tryz.prog 83 #[h2.val] w2 (onRet (fun r_1 w3 => ∃ x3 : Bool, r_1 = .bool x3 ∧
            J3 x3 w3)
              (fun ch1 w3 => R (.panicked ch1) w3)))
            (J3 false w2))
            (fun ch w2 => R (.panicked ch) w2)))
          (J3 false w1))
        (J3 false w1))
    (fun s_ w4 => ip6_sized_J3 R g1 s_ w4)
def ip6_sized_H : Hints := [(3, [(3, .bool)])]
set_option maxRecDepth 100000 in
theorem ip6_sized_of (h : Ip6V) (w : World) (R : Ending → World → Prop) (hvc_ : ip6_sized_VC h w R) :
    Calls Tryz.prog 70 #[h.val] w R :=
  calls_of_wpc callOk mixedOk (H := ip6_sized_H) (args := [h.val]) (fn := Tryz.f70) (c := bodyOf Tryz.f70) Tryz.func70 rfl (Nat.le_of_ble_eq_true rfl)
    (Eq.mp (by kernel_rfl : ip6_sized_VC h w R = wpc Tryz.prog callF Tryz.f70.ntmps ip6_sized_H 1 (bodyOf Tryz.f70) (argEnv 0 [h.val]) [] w (finish Tryz.prog callF Tryz.f70.results.toList R)) hvc_)

set_option maxRecDepth 100000 in
def ip6_made_J8181 (R : Ending → World → Prop) (g1 : Nat) (x0A : Option Addr) (x0n : Nat) (x0c : Nat) (J511 : ((Option Addr × Nat × Nat) → World → Prop)) (more : Int) (w8 : World) : Prop :=
  NewVC w8 (.cells #[.int .i64 8, .int .i64 8, .int .i64 13, .int .i64 2, .int .i64 1, .int .i64 32] 3) fun g2 w9 =>
  ∃ x8 : Int, w9.cell? ⟨g1, 42, none⟩ = some (.int .i64 x8) ∧
  ∃ x9 : Int, w9.cell? ⟨g1, 41, none⟩ = some (.int .i64 x9) ∧
  ∃ x10 : Int, w9.cell? ⟨g1, 40, none⟩ = some (.int .i64 x10) ∧
  NewVC w9 (.cells #[.int .i64 x8, .int .i64 0, .int .i64 (IntKind.i64.wrap (Int.tdiv x9 8)), .int .i64 0, .int .i64 more, .int .i64 x10] 3) fun g3 w10 =>
  Calls Tryz.prog 72 #[.slice (some ⟨g2, 0, none⟩) 6 6, .slice (some ⟨g3, 0, none⟩) 6 6] w10 (onRet (fun r_3 w11 => ∃ (x0A1 : Option Addr) (x0n1 x0c1 : Nat), ∃ x12 : Int, r_3 = .tuple #[.slice x0A1 x0n1 x0c1, .int .i64 x12] ∧
  AppVC Tryz.prog #[28, 28] 28 (.slice x0A x0n x0c) (.slice x0A1 x0n1 x0c1) w11 fun lA ln lc w12 =>
  J511 (lA, ln, lc) w12)
    (fun ch3 w11 => R (.panicked ch3) w11))
set_option maxRecDepth 100000 in
def ip6_made_J511 (R : Ending → World → Prop) (g1 : Nat) (first1 : Int) (extsA : Option Addr) (extsn : Nat) (extsc : Nat) (w13 : World) : Prop :=
  ∃ (xA3 : Option Addr) (xn3 xc3 : Nat), w13.cell? ⟨g1, 43, none⟩ = some (.slice xA3 xn3 xc3) ∧
  Br (decide ((65535 : Int) < IntKind.i64.wrap (40 + IntKind.i64.wrap ((extsn : Int) + (xn3 : Int)))))
    (R (.returned (.tuple #[.slice none 0 0, .int .i64 2])) w13)
    (NewVC w13 (.cells #[.int .i64 4, .int .i64 8, .int .i64 20, .int .i64 16, .int .i64 8, .int .i64 8] 3) fun g4 w14 =>
  ∃ x13 : Int, w14.cell? ⟨g1, 0, none⟩ = some (.int .i64 x13) ∧
  ∃ x14 : Int, w14.cell? ⟨g1, 1, none⟩ = some (.int .i64 x14) ∧
  ∃ x15 : Int, w14.cell? ⟨g1, 2, none⟩ = some (.int .i64 x15) ∧
  NewVC w14 (.cells #[.int .i64 6, .int .i64 x13, .int .i64 x14, .int .i64 (IntKind.i64.wrap ((extsn : Int) + (xn3 : Int))), .int .i64 first1, .int .i64 x15] 3) fun g5 w15 =>
  Calls Tryz.prog 72 #[.slice (some ⟨g4, 0, none⟩) 6 6, .slice (some ⟨g5, 0, none⟩) 6 6] w15 (onRet (fun r_4 w16 => ∃ (x0A2 : Option Addr) (x0n2 x0c2 : Nat), ∃ x16 : Int, r_4 = .tuple #[.slice x0A2 x0n2 x0c2, .int .i64 x16] ∧
  DrawVC w16 fun S2 w17 =>
  SliceVC (some ⟨g1, 4, none⟩) 16 16 1 none none none fun sA sn sc =>
  SliceVC (some ⟨g1, 21, none⟩) 16 16 1 none none none fun sA1 sn1 sc1 =>
  ∃ (xA4 : Option Addr) (xn4 xc4 : Nat), (∀ w' : World, S2 w' → w'.cell? ⟨g1, 43, none⟩ = some (.slice xA4 xn4 xc4)) ∧
  NewVC w17 (.cells #[.slice x0A2 x0n2 x0c2, .slice sA sn sc, .slice sA1 sn1 sc1, .slice extsA extsn extsc, .slice xA4 xn4 xc4] 28) fun g6 w18 =>
  S2 w18 ∧
  Calls Tryz.prog 73 #[.slice (some ⟨g6, 0, none⟩) 5 5, .slice none 0 0] w18 (onRet (fun r_5 w19 => ∃ (xA5 : Option Addr) (xn5 xc5 : Nat), r_5 = .slice xA5 xn5 xc5 ∧
  S2 w19 ∧
  R (.returned (.tuple #[.slice xA5 xn5 xc5, .int .i64 0])) w19)
    (fun _ _ => False)))
    (fun ch4 w16 => R (.panicked ch4) w16)))
set_option maxRecDepth 100000 in
def ip6_made_J31 (R : Ending → World → Prop) (g1 : Nat) (next : Int) (first1 : Int) (w5 : World) : Prop :=
  ∃ (xA2 : Option Addr) (xn2 xc2 : Nat), w5.cell? ⟨g1, 37, none⟩ = some (.slice xA2 xn2 xc2) ∧
  Calls Tryz.prog 50 #[.slice xA2 xn2 xc2, .int .i64 next, .bool false] w5 (onRet (fun r_1 w6 => ∃ (x0A : Option Addr) (x0n x0c : Nat), ∃ x11 : Int, r_1 = .tuple #[.slice x0A x0n x0c, .int .i64 x11] ∧
  Br (decide (x11 ≠ 0))
    (R (.returned (.tuple #[.slice none 0 0, .int .i64 x11])) w6)
    (Ip6V.ex fun h2 => CellsAt w6 ⟨g1, 0, none⟩ 0 h2.cells ∧
  Calls Tryz.prog 71 #[h2.val] w6 (onRet (fun r_2 w7 => ∃ x5 : Int, r_2 = .int .i64 x5 ∧
  Br (decide (x5 ≠ 0))
    (R (.returned (.tuple #[.slice none 0 0, .int .i64 x5])) w7)
    (JoinVC (S := (Option Addr × Nat × Nat)) (fun J511 =>
      ∃ x6 : Bool, w7.cell? ⟨g1, 38, none⟩ = some (.bool x6) ∧
      Br x6
        (JoinVC (S := Int) (fun J8181 =>
            ∃ x7 : Bool, w7.cell? ⟨g1, 39, none⟩ = some (.bool x7) ∧
            Br x7
              (J8181 1 w7)
              (J8181 0 w7))
          (fun s_ w8 => ip6_made_J8181 R g1 x0A x0n x0c J511 s_ w8))
        (J511 (x0A, x0n, x0c) w7))
    (fun s_ w13 => ip6_made_J511 R g1 first1 s_.1 s_.2.1 s_.2.2 w13)))
    (fun ch2 w7 => R (.panicked ch2) w7))))
    (fun ch1 w6 => R (.panicked ch1) w6))
set_option maxRecDepth 100000 in
def ip6_made_J15 (R : Ending → World → Prop) (g1 : Nat) (first : Int) (next : Int) (w4 : World) : Prop :=
  JoinVC (S := Int) (fun J31 =>
      ∃ (xA : Option Addr) (xn xc : Nat), w4.cell? ⟨g1, 37, none⟩ = some (.slice xA xn xc) ∧
      Br (decide ((0 : Int) < (xn : Int)))
        (∃ (xA1 : Option Addr) (xn1 xc1 : Nat), w4.cell? ⟨g1, 37, none⟩ = some (.slice xA1 xn1 xc1) ∧
        IdxVC xA1 xn1 3 0 fun a =>
        ∃ x4 : Int, w4.cell? a = some (.int .i64 x4) ∧
        J31 x4 w4)
        (J31 first w4))
    (fun s_ w5 => ip6_made_J31 R g1 next s_ w5)
set_option maxRecDepth 100000 in
def ip6_made_VC (h : Ip6V) (w : World) (R : Ending → World → Prop) : Prop :=
  NewVC w (.cells h.cells.toArray 30) fun g1 w1 =>
  Ip6V.ex fun h1 => CellsAt w1 ⟨g1, 0, none⟩ 0 h1.cells ∧
  Calls Tryz.prog 70 #[h1.val] w1 (onRet (fun r_ w2 => ∃ x : Int, r_ = .int .i64 x ∧
  Br (decide (x ≠ 0))
    (R (.returned (.tuple #[.slice none 0 0, .int .i64 x])) w2)
    (DrawVC w2 fun S1 w3 =>
  ∃ x1 : Int, (∀ w' : World, S1 w' → w'.cell? ⟨g1, 42, none⟩ = some (.int .i64 x1)) ∧
  ∃ x2 : Int, (∀ w' : World, S1 w' → w'.cell? ⟨g1, 42, none⟩ = some (.int .i64 x2)) ∧
  JoinVC (S := Int × Int) (fun J15 =>
      ∃ x3 : Bool, w3.cell? ⟨g1, 38, none⟩ = some (.bool x3) ∧
      Br x3
        (J15 (44, 44) w3)
        (J15 (x1, x2) w3))
    (fun s_ w4 => ip6_made_J15 R g1 s_.1 s_.2 w4)))
    (fun ch w2 => R (.panicked ch) w2))
def ip6_made_H : Hints := [(15, [(5, .int .i64), (6, .int .i64)]), (31, [(5, .int .i64)]), (8181, [(10, .int .i64)]), (511, [(7, .slice)])]
set_option maxRecDepth 100000 in
theorem ip6_made_of (h : Ip6V) (w : World) (R : Ending → World → Prop) (hvc_ : ip6_made_VC h w R) :
    Calls Tryz.prog 48 #[h.val] w R :=
  calls_of_wpc callOk mixedOk (H := ip6_made_H) (args := [h.val]) (fn := Tryz.f48) (c := bodyOf Tryz.f48) Tryz.func48 rfl (Nat.le_of_ble_eq_true rfl)
    (Eq.mp (by kernel_rfl : ip6_made_VC h w R = wpc Tryz.prog callF Tryz.f48.ntmps ip6_made_H 1 (bodyOf Tryz.f48) (argEnv 0 [h.val]) [] w (finish Tryz.prog callF Tryz.f48.results.toList R)) hvc_)

set_option maxRecDepth 100000 in
def bytes_Join_L4090 (R : Ending → World → Prop) (sepA : Option Addr) (sepn : Nat) (sepc : Nat) (sA1 : Option Addr) (sn1 : Nat) (sc1 : Nat) (sA2 : Option Addr) (sn2 : Nat) (bp : Int) (t72_ : Int) (w7 : World) (K4090 : (Int × Int → World → Prop)) : Prop :=
  Br (decide (t72_ < (sn2 : Int)))
    (IdxVC sA2 sn2 1 t72_ fun a3 =>
  ∃ (xA3 : Option Addr) (xn3 xc3 : Nat), w7.cell? a3 = some (.slice xA3 xn3 xc3) ∧
  SliceVC sA1 sn1 sc1 1 (some bp) none none fun sA3 sn3 sc3 =>
  CopyVC Tryz.prog #[28, 28] 3 (.slice sA3 sn3 sc3) (.slice sepA sepn sepc) w7 fun m1 w8 =>
  SliceVC sA1 sn1 sc1 1 (some (IntKind.i64.wrap (bp + m1))) none none fun sA4 sn4 sc4 =>
  CopyVC Tryz.prog #[28, 28] 3 (.slice sA4 sn4 sc4) (.slice xA3 xn3 xc3) w8 fun m2 w9 =>
  K4090 (IntKind.i64.wrap (IntKind.i64.wrap (bp + m1) + m2), IntKind.i64.wrap (t72_ + 1)) w9)
    (R (.returned (.slice sA1 sn1 sc1)) w7)
set_option maxRecDepth 100000 in
def bytes_Join_L506 (R : Ending → World → Prop) (sA : Option Addr) (sn : Nat) (sc : Nat) (sepA : Option Addr) (sepn : Nat) (sepc : Nat) (n1 : Int) (t44_ : Int) (w4 : World) (K506 : (Int × Int → World → Prop)) : Prop :=
  Br (decide (t44_ < (sn : Int)))
    (IdxVC sA sn 1 t44_ fun a1 =>
  ∃ (xA1 : Option Addr) (xn1 xc1 : Nat), w4.cell? a1 = some (.slice xA1 xn1 xc1) ∧
  Br (decide (IntKind.i64.wrap (9223372036854775807 - n1) < (xn1 : Int)))
    (R (.panicked [{ v := .iface 9 (.string ⟨#[98, 121, 116, 101, 115, 58, 32, 74, 111, 105, 110, 32, 111, 117, 116, 112, 117, 116, 32, 108, 101, 110, 103, 116, 104, 32, 111, 118, 101, 114, 102, 108, 111, 119]⟩), recovered := false }]) w4)
    (K506 (IntKind.i64.wrap (n1 + (xn1 : Int)), IntKind.i64.wrap (t44_ + 1)) w4))
    (NoZeroVC w4 5 n1 fun g2 nzc w5 =>
  SliceVC (some ⟨g2, 0, none⟩) n1.toNat nzc 1 none (some n1) (some n1) fun sA1 sn1 sc1 =>
  IdxVC sA sn 1 0 fun a2 =>
  ∃ (xA2 : Option Addr) (xn2 xc2 : Nat), w5.cell? a2 = some (.slice xA2 xn2 xc2) ∧
  CopyVC Tryz.prog #[28, 28] 3 (.slice sA1 sn1 sc1) (.slice xA2 xn2 xc2) w5 fun m w6 =>
  SliceVC sA sn sc 1 (some 1) none none fun sA2 sn2 _sc2 =>
  LoopVC (S := Int × Int) (fun s_ w7 K4090 => bytes_Join_L4090 R sepA sepn sepc sA1 sn1 sc1 sA2 sn2 s_.1 s_.2 w7 K4090) (m, 0) w6)
set_option maxRecDepth 100000 in
def bytes_Join_J31 (R : Ending → World → Prop) (sA : Option Addr) (sn : Nat) (sc : Nat) (sepA : Option Addr) (sepn : Nat) (sepc : Nat) (n : Int) (w3 : World) : Prop :=
  LoopVC (S := Int × Int) (fun s_ w4 K506 => bytes_Join_L506 R sA sn sc sepA sepn sepc s_.1 s_.2 w4 K506) (n, 0) w3
set_option maxRecDepth 100000 in
def bytes_Join_VC (sA : Option Addr) (sn : Nat) (sc : Nat) (sepA : Option Addr) (sepn : Nat) (sepc : Nat) (w : World) (R : Ending → World → Prop) : Prop :=
  Br (decide ((sn : Int) = 0))
    (NewVC w (.cells #[] 5) fun g1 w1 =>
    R (.returned (.slice (some ⟨g1, 0, none⟩) 0 0)) w1)
    (Br (decide ((sn : Int) = 1))
    (IdxVC sA sn 1 0 fun a =>
    ∃ (xA : Option Addr) (xn xc : Nat), w.cell? a = some (.slice xA xn xc) ∧
    AppVC Tryz.prog #[28, 28] 28 (.slice none 0 0) (.slice xA xn xc) w fun lA ln lc w2 =>
    R (.returned (.slice lA ln lc)) w2)
    (JoinVC (S := Int) (fun J31 =>
      Br (decide ((0 : Int) < (sepn : Int)))
        (DivVC (IntKind.i64.wrap ((sn : Int) - 1)) (
        Br (decide (IntKind.i64.wrap (Int.tdiv 9223372036854775807 (IntKind.i64.wrap ((sn : Int) - 1))) ≤ (sepn : Int)))
          (R (.panicked [{ v := .iface 9 (.string ⟨#[98, 121, 116, 101, 115, 58, 32, 74, 111, 105, 110, 32, 111, 117, 116, 112, 117, 116, 32, 108, 101, 110, 103, 116, 104, 32, 111, 118, 101, 114, 102, 108, 111, 119]⟩), recovered := false }]) w)
          (J31 (IntKind.i64.wrap (0 + IntKind.i64.wrap ((sepn : Int) * IntKind.i64.wrap ((sn : Int) - 1)))) w)))
        (J31 0 w))
    (fun s_ w3 => bytes_Join_J31 R sA sn sc sepA sepn sepc s_ w3)))
def bytes_Join_H : Hints := [(31, [(5, .int .i64)]), (506, [(5, .int .i64), (44, .int .i64)]), (4090, [(9, .int .i64), (72, .int .i64)])]
set_option maxRecDepth 100000 in
theorem bytes_Join_of (sA : Option Addr) (sn : Nat) (sc : Nat) (sepA : Option Addr) (sepn : Nat) (sepc : Nat) (w : World) (R : Ending → World → Prop) (hvc_ : bytes_Join_VC sA sn sc sepA sepn sepc w R) :
    Calls Tryz.prog 73 #[.slice sA sn sc, .slice sepA sepn sepc] w R :=
  calls_of_wpc callOk mixedOk (H := bytes_Join_H) (args := [.slice sA sn sc, .slice sepA sepn sepc]) (fn := Tryz.f73) (c := bodyOf Tryz.f73) Tryz.func73 rfl (Nat.le_of_ble_eq_true rfl)
    (Eq.mp (by kernel_rfl : bytes_Join_VC sA sn sc sepA sepn sepc w R = wpc Tryz.prog callF Tryz.f73.ntmps bytes_Join_H 1 (bodyOf Tryz.f73) (argEnv 0 [.slice sA sn sc, .slice sepA sepn sepc]) [] w (finish Tryz.prog callF Tryz.f73.results.toList R)) hvc_)

set_option maxRecDepth 100000 in
def weirref7_Serialise_L1018 (R : Ending → World → Prop) (g1 : Nat) (x0A : Option Addr) (x0n : Nat) (x0c : Nat) (headA1 : Option Addr) (headn1 : Nat) (headc1 : Nat) (i1 : Int) (w17 : World) (K1018 : ((Option Addr × Nat × Nat) × Int → World → Prop)) : Prop :=
  Br (decide (i1 < 16))
    (IdxVC (some ⟨g1, 21, none⟩) 16 1 i1 fun a1 =>
  ∃ x17 : Int, w17.cell? a1 = some (.int .u8 x17) ∧
  NewVC w17 (.cells #[.int .u8 x17] 5) fun g5 w18 =>
  AppVC Tryz.prog #[28, 28] 28 (.slice headA1 headn1 headc1) (.slice (some ⟨g5, 0, none⟩) 1 1) w18 fun lA1 ln1 lc1 w19 =>
  K1018 ((lA1, ln1, lc1), IntKind.i64.wrap (i1 + 1)) w19)
    (AppVC Tryz.prog #[28, 28] 28 (.slice headA1 headn1 headc1) (.slice x0A x0n x0c) w17 fun lA2 ln2 lc2 w20 =>
  R (.returned (.tuple #[.slice lA2 ln2 lc2, .int .i64 0])) w20)
set_option maxRecDepth 100000 in
def weirref7_Serialise_L506 (R : Ending → World → Prop) (g1 : Nat) (x0A : Option Addr) (x0n : Nat) (x0c : Nat) (headA : Option Addr) (headn : Nat) (headc : Nat) (i : Int) (w14 : World) (K506 : ((Option Addr × Nat × Nat) × Int → World → Prop)) : Prop :=
  Br (decide (i < 16))
    (IdxVC (some ⟨g1, 4, none⟩) 16 1 i fun a =>
  ∃ x16 : Int, w14.cell? a = some (.int .u8 x16) ∧
  NewVC w14 (.cells #[.int .u8 x16] 5) fun g4 w15 =>
  AppVC Tryz.prog #[28, 28] 28 (.slice headA headn headc) (.slice (some ⟨g4, 0, none⟩) 1 1) w15 fun lA ln lc w16 =>
  K506 ((lA, ln, lc), IntKind.i64.wrap (i + 1)) w16)
    (LoopVC (S := (Option Addr × Nat × Nat) × Int) (fun s_ w17 K1018 => weirref7_Serialise_L1018 R g1 x0A x0n x0c s_.1.1 s_.1.2.1 s_.1.2.2 s_.2 w17 K1018) ((headA, headn, headc), 0) w14)
set_option maxRecDepth 100000 in
def weirref7_Serialise_D62 (R : Ending → World → Prop) (g1 : Nat) (x0A : Option Addr) (x0n : Nat) (x0c : Nat) (x0A1 : Option Addr) (x0n1 : Nat) (x0c1 : Nat) (w13 : World) : Prop :=
  LoopVC (S := (Option Addr × Nat × Nat) × Int) (fun s_ w14 K506 => weirref7_Serialise_L506 R g1 x0A x0n x0c s_.1.1 s_.1.2.1 s_.1.2.2 s_.2 w14 K506) ((x0A1, x0n1, x0c1), 0) w13
set_option maxRecDepth 100000 in
def weirref7_Serialise_VC (h : Ip6V) (w : World) (R : Ending → World → Prop) : Prop :=
  NewVC w (.cells h.cells.toArray 30) fun g1 w1 =>
  ∃ x : Int, w1.cell? ⟨g1, 0, none⟩ = some (.int .i64 x) ∧
  Calls Tryz.prog 41 #[.int .i64 x, .int .i64 255] w1 (onRet (fun r_ w2 => ∃ x1 : Bool, r_ = .bool x1 ∧
  Br x1
    (R (.returned (.tuple #[.slice none 0 0, .int .i64 78])) w2)
    (∃ x2 : Int, w2.cell? ⟨g1, 1, none⟩ = some (.int .i64 x2) ∧
    Calls Tryz.prog 41 #[.int .i64 x2, .int .i64 1048575] w2 (onRet (fun r_1 w3 => ∃ x3 : Bool, r_1 = .bool x3 ∧
    Br x3
      (R (.returned (.tuple #[.slice none 0 0, .int .i64 78])) w3)
      (∃ x4 : Int, w3.cell? ⟨g1, 2, none⟩ = some (.int .i64 x4) ∧
      Calls Tryz.prog 41 #[.int .i64 x4, .int .i64 255] w3 (onRet (fun r_2 w4 => ∃ x5 : Bool, r_2 = .bool x5 ∧
      Br x5
        (R (.returned (.tuple #[.slice none 0 0, .int .i64 78])) w4)
        (IPV.ex fun h1 => CellsAt w4 ⟨g1, 3, none⟩ 0 h1.cells ∧
        Calls Tryz.prog 44 #[h1.val] w4 (onRet (fun r_3 w5 => ∃ x6 : Bool, r_3 = .bool x6 ∧
        Br (!x6)
          (R (.returned (.tuple #[.slice none 0 0, .int .i64 78])) w5)
          (IPV.ex fun h2 => CellsAt w5 ⟨g1, 20, none⟩ 0 h2.cells ∧
          Calls Tryz.prog 44 #[h2.val] w5 (onRet (fun r_4 w6 => ∃ x7 : Bool, r_4 = .bool x7 ∧
          Br (!x7)
            (R (.returned (.tuple #[.slice none 0 0, .int .i64 78])) w6)
            (∃ x8 : Int, w6.cell? ⟨g1, 42, none⟩ = some (.int .i64 x8) ∧
            Calls Tryz.prog 41 #[.int .i64 x8, .int .i64 255] w6 (onRet (fun r_5 w7 => ∃ x9 : Bool, r_5 = .bool x9 ∧
            Br x9
    (R (.returned (.tuple #[.slice none 0 0, .int .i64 78])) w7)
    (Ip6V.ex fun h3 => CellsAt w7 ⟨g1, 0, none⟩ 0 h3.cells ∧
  Calls Tryz.prog 45 #[h3.val] w7 (onRet (fun r_6 w8 => ∃ (x0A : Option Addr) (x0n x0c : Nat), ∃ x11 : Int, r_6 = .tuple #[.slice x0A x0n x0c, .int .i64 x11] ∧
  Br (decide (x11 ≠ 0))
    (R (.returned (.tuple #[.slice none 0 0, .int .i64 x11])) w8)
    (DrawVC w8 fun S1 w9 =>
  ∃ x10 : Int, (∀ w' : World, S1 w' → w'.cell? ⟨g1, 0, none⟩ = some (.int .i64 x10)) ∧
  ∃ x12 : Int, (∀ w' : World, S1 w' → w'.cell? ⟨g1, 1, none⟩ = some (.int .i64 x12)) ∧
  Ip6V.ex fun h4 => (∀ w' : World, S1 w' → CellsAt w' ⟨g1, 0, none⟩ 0 h4.cells) ∧
  ∃ x13 : Int, (∀ w' : World, S1 w' → w'.cell? ⟨g1, 2, none⟩ = some (.int .i64 x13)) ∧
  (NewVC w9 (.cells #[.int .i64 4, .int .i64 8, .int .i64 20, .int .i64 16, .int .i64 8, .int .i64 8] 3) fun g2 w10 =>
  S1 w10 ∧
  Calls Tryz.prog 47 #[h4.val] w10 (onRet (fun r_7 w11 => ∃ x14 : Int, r_7 = .int .i64 x14 ∧
  S1 w11 ∧
  NewVC w11 (.cells #[.int .i64 6, .int .i64 x10, .int .i64 x12, .int .i64 (x0n : Int), .int .i64 x14, .int .i64 x13] 3) fun g3 w12 =>
  S1 w12 ∧
  Calls Tryz.prog 46 #[.slice (some ⟨g2, 0, none⟩) 6 6, .slice (some ⟨g3, 0, none⟩) 6 6] w12 (onRet (fun r_8 w13 => ∃ (x0A1 : Option Addr) (x0n1 x0c1 : Nat), ∃ x15 : Int, r_8 = .tuple #[.slice x0A1 x0n1 x0c1, .int .i64 x15] ∧
  S1 w13 ∧
  weirref7_Serialise_D62 R g1 x0A x0n x0c x0A1 x0n1 x0c1 w13)
    (fun _ _ => False)))
    (fun _ _ => False))) ∧
  (Calls Tryz.prog 47 #[h4.val] w9 (onRet (fun r_9 w21 => ∃ x18 : Int, r_9 = .int .i64 x18 ∧
  S1 w21 ∧
  (NewVC w21 (.cells #[.int .i64 4, .int .i64 8, .int .i64 20, .int .i64 16, .int .i64 8, .int .i64 8] 3) fun g6 w22 =>
  S1 w22 ∧
  NewVC w22 (.cells #[.int .i64 6, .int .i64 x10, .int .i64 x12, .int .i64 (x0n : Int), .int .i64 x18, .int .i64 x13] 3) fun g7 w23 =>
  S1 w23 ∧
  Calls Tryz.prog 46 #[.slice (some ⟨g6, 0, none⟩) 6 6, .slice (some ⟨g7, 0, none⟩) 6 6] w23 (onRet (fun r_10 w24 => ∃ (x0A2 : Option Addr) (x0n2 x0c2 : Nat), ∃ x19 : Int, r_10 = .tuple #[.slice x0A2 x0n2 x0c2, .int .i64 x19] ∧
  S1 w24 ∧
  weirref7_Serialise_D62 R g1 x0A x0n x0c x0A2 x0n2 x0c2 w24)
    (fun _ _ => False))) ∧
  (NewVC w21 (.cells #[.int .i64 6, .int .i64 x10, .int .i64 x12, .int .i64 (x0n : Int), .int .i64 x18, .int .i64 x13] 3) fun g10 w32 =>
  S1 w32 ∧
  NewVC w32 (.cells #[.int .i64 4, .int .i64 8, .int .i64 20, .int .i64 16, .int .i64 8, .int .i64 8] 3) fun g11 w33 =>
  S1 w33 ∧
  Calls Tryz.prog 46 #[.slice (some ⟨g11, 0, none⟩) 6 6, .slice (some ⟨g10, 0, none⟩) 6 6] w33 (onRet (fun r_11 w34 => ∃ (x0A3 : Option Addr) (x0n3 x0c3 : Nat), ∃ x110 : Int, r_11 = .tuple #[.slice x0A3 x0n3 x0c3, .int .i64 x110] ∧
  S1 w34 ∧
  weirref7_Serialise_D62 R g1 x0A x0n x0c x0A3 x0n3 x0c3 w34)
    (fun _ _ => False))))
    (fun _ _ => False)))))
    (fun ch6 w8 => R (.panicked ch6) w8))))
              (fun ch5 w7 => R (.panicked ch5) w7))))
            (fun ch4 w6 => R (.panicked ch4) w6))))
          (fun ch3 w5 => R (.panicked ch3) w5))))
        (fun ch2 w4 => R (.panicked ch2) w4))))
      (fun ch1 w3 => R (.panicked ch1) w3))))
    (fun ch w2 => R (.panicked ch) w2))
def weirref7_Serialise_H : Hints := [(506, [(6, .slice), (8, .int .i64)]), (1018, [(6, .slice), (9, .int .i64)])]
set_option maxRecDepth 100000 in
theorem weirref7_Serialise_of (h : Ip6V) (w : World) (R : Ending → World → Prop) (hvc_ : weirref7_Serialise_VC h w R) :
    Calls Tryz.prog 18 #[h.val] w R :=
  calls_of_wpc callOk mixedOk (H := weirref7_Serialise_H) (args := [h.val]) (fn := Tryz.f18) (c := bodyOf Tryz.f18) Tryz.func18 rfl (Nat.le_of_ble_eq_true rfl)
    (Eq.mp (by kernel_rfl : weirref7_Serialise_VC h w R = wpc Tryz.prog callF Tryz.f18.ntmps weirref7_Serialise_H 1 (bodyOf Tryz.f18) (argEnv 0 [h.val]) [] w (finish Tryz.prog callF Tryz.f18.results.toList R)) hvc_)

set_option maxRecDepth 100000 in
def weirref7_body_J1013 (R : Ending → World → Prop) (g1 : Nat) (x0A : Option Addr) (x0n : Nat) (x0c : Nat) (J63 : ((Option Addr × Nat × Nat) → World → Prop)) (low : Int) (w6 : World) : Prop :=
  ∃ x6 : Int, w6.cell? ⟨g1, 40, none⟩ = some (.int .i64 x6) ∧
  Calls Tryz.prog 67 #[.int .i64 4, .int .u64 (IntKind.u64.wrap x6)] w6 (onRet (fun r_3 w7 => ∃ (x0A1 : Option Addr) (x0n1 x0c1 : Nat), ∃ x11 : Int, r_3 = .tuple #[.slice x0A1 x0n1 x0c1, .int .i64 x11] ∧
  ∃ x7 : Int, w7.cell? ⟨g1, 42, none⟩ = some (.int .i64 x7) ∧
  NewVC w7 (.cells #[.int .u8 (IntKind.u8.wrap x7), .int .u8 0, .int .u8 (IntKind.u8.wrap (IntKind.i64.wrap (Int.tdiv low 256))), .int .u8 (IntKind.u8.wrap (Int.tmod low 256))] 5) fun g2 w8 =>
  AppVC Tryz.prog #[28, 28] 28 (.slice x0A x0n x0c) (.slice (some ⟨g2, 0, none⟩) 4 4) w8 fun lA ln lc w9 =>
  AppVC Tryz.prog #[28, 28] 28 (.slice lA ln lc) (.slice x0A1 x0n1 x0c1) w9 fun lA1 ln1 lc1 w10 =>
  J63 (lA1, ln1, lc1) w10)
    (fun ch3 w7 => R (.panicked ch3) w7))
set_option maxRecDepth 100000 in
def weirref7_body_J63 (R : Ending → World → Prop) (g1 : Nat) (bA : Option Addr) (bn : Nat) (bc : Nat) (w11 : World) : Prop :=
  ∃ (xA1 : Option Addr) (xn1 xc1 : Nat), w11.cell? ⟨g1, 43, none⟩ = some (.slice xA1 xn1 xc1) ∧
  AppVC Tryz.prog #[28, 28] 28 (.slice bA bn bc) (.slice xA1 xn1 xc1) w11 fun lA2 ln2 lc2 w12 =>
  Br (decide ((65535 : Int) < IntKind.i64.wrap (40 + (ln2 : Int))))
    (R (.returned (.tuple #[.slice none 0 0, .int .i64 2])) w12)
    (R (.returned (.tuple #[.slice lA2 ln2 lc2, .int .i64 0])) w12)
set_option maxRecDepth 100000 in
def weirref7_body_VC (h : Ip6V) (w : World) (R : Ending → World → Prop) : Prop :=
  NewVC w (.cells h.cells.toArray 30) fun g1 w1 =>
  DrawVC w1 fun S1 w2 =>
  ∃ (xA : Option Addr) (xn xc : Nat), (∀ w' : World, S1 w' → w'.cell? ⟨g1, 37, none⟩ = some (.slice xA xn xc)) ∧
  Ip6V.ex fun h1 => (∀ w' : World, S1 w' → CellsAt w' ⟨g1, 0, none⟩ 0 h1.cells) ∧
  Calls Tryz.prog 65 #[h1.val] w2 (onRet (fun r_ w3 => ∃ x : Int, r_ = .int .i64 x ∧
  S1 w3 ∧
  Calls Tryz.prog 42 #[.slice xA xn xc, .int .i64 x, .bool true] w3 (onRet (fun r_1 w4 => ∃ (x0A : Option Addr) (x0n x0c : Nat), ∃ x1 : Int, r_1 = .tuple #[.slice x0A x0n x0c, .int .i64 x1] ∧
  S1 w4 ∧
  Br (decide (x1 ≠ 0))
    (R (.returned (.tuple #[.slice none 0 0, .int .i64 x1])) w4)
    (Ip6V.ex fun h2 => CellsAt w4 ⟨g1, 0, none⟩ 0 h2.cells ∧
  Calls Tryz.prog 66 #[h2.val] w4 (onRet (fun r_2 w5 => ∃ x2 : Int, r_2 = .int .i64 x2 ∧
  Br (decide (x2 ≠ 0))
    (R (.returned (.tuple #[.slice none 0 0, .int .i64 x2])) w5)
    (JoinVC (S := (Option Addr × Nat × Nat)) (fun J63 =>
      ∃ x3 : Bool, w5.cell? ⟨g1, 38, none⟩ = some (.bool x3) ∧
      Br x3
        (∃ x4 : Int, w5.cell? ⟨g1, 41, none⟩ = some (.int .i64 x4) ∧
        JoinVC (S := Int) (fun J1013 =>
            ∃ x5 : Bool, w5.cell? ⟨g1, 39, none⟩ = some (.bool x5) ∧
            Br x5
              (J1013 (IntKind.i64.wrap (x4 + 1)) w5)
              (J1013 x4 w5))
          (fun s_ w6 => weirref7_body_J1013 R g1 x0A x0n x0c J63 s_ w6))
        (J63 (x0A, x0n, x0c) w5))
    (fun s_ w11 => weirref7_body_J63 R g1 s_.1 s_.2.1 s_.2.2 w11)))
    (fun ch2 w5 => R (.panicked ch2) w5))))
    (fun _ _ => False)))
    (fun _ _ => False))
def weirref7_body_H : Hints := [(1013, [(6, .int .i64)]), (63, [(4, .slice)])]
set_option maxRecDepth 100000 in
theorem weirref7_body_of (h : Ip6V) (w : World) (R : Ending → World → Prop) (hvc_ : weirref7_body_VC h w R) :
    Calls Tryz.prog 45 #[h.val] w R :=
  calls_of_wpc callOk mixedOk (H := weirref7_body_H) (args := [h.val]) (fn := Tryz.f45) (c := bodyOf Tryz.f45) Tryz.func45 rfl (Nat.le_of_ble_eq_true rfl)
    (Eq.mp (by kernel_rfl : weirref7_body_VC h w R = wpc Tryz.prog callF Tryz.f45.ntmps weirref7_body_H 1 (bodyOf Tryz.f45) (argEnv 0 [h.val]) [] w (finish Tryz.prog callF Tryz.f45.results.toList R)) hvc_)

set_option maxRecDepth 100000 in
def weirref7_first_VC (h : Ip6V) (w : World) (R : Ending → World → Prop) : Prop :=
  NewVC w (.cells h.cells.toArray 30) fun g1 w1 =>
  ∃ (xA : Option Addr) (xn xc : Nat), w1.cell? ⟨g1, 37, none⟩ = some (.slice xA xn xc) ∧
  Br (decide ((0 : Int) < (xn : Int)))
    (∃ (xA1 : Option Addr) (xn1 xc1 : Nat), w1.cell? ⟨g1, 37, none⟩ = some (.slice xA1 xn1 xc1) ∧
    IdxVC xA1 xn1 3 0 fun a =>
    ∃ x : Int, w1.cell? a = some (.int .i64 x) ∧
    R (.returned (.int .i64 x)) w1)
    (Ip6V.ex fun h1 => CellsAt w1 ⟨g1, 0, none⟩ 0 h1.cells ∧
  Calls Tryz.prog 65 #[h1.val] w1 (onRet (fun r_ w2 => ∃ x1 : Int, r_ = .int .i64 x1 ∧
  R (.returned (.int .i64 x1)) w2)
    (fun ch w2 => R (.panicked ch) w2)))
def weirref7_first_H : Hints := []
set_option maxRecDepth 100000 in
theorem weirref7_first_of (h : Ip6V) (w : World) (R : Ending → World → Prop) (hvc_ : weirref7_first_VC h w R) :
    Calls Tryz.prog 47 #[h.val] w R :=
  calls_of_wpc callOk mixedOk (H := weirref7_first_H) (args := [h.val]) (fn := Tryz.f47) (c := bodyOf Tryz.f47) Tryz.func47 rfl (Nat.le_of_ble_eq_true rfl)
    (Eq.mp (by kernel_rfl : weirref7_first_VC h w R = wpc Tryz.prog callF Tryz.f47.ntmps weirref7_first_H 1 (bodyOf Tryz.f47) (argEnv 0 [h.val]) [] w (finish Tryz.prog callF Tryz.f47.results.toList R)) hvc_)

set_option maxRecDepth 100000 in
def weirref7_out_VC (n : Int) (hi : Int) (w : World) (R : Ending → World → Prop) : Prop :=
  Br (decide (n < 0))
    (R (.returned (.bool true)) w)
    (R (.returned (.bool (decide (hi < n)))) w)
def weirref7_out_H : Hints := []
set_option maxRecDepth 100000 in
theorem weirref7_out_of (n : Int) (hi : Int) (w : World) (R : Ending → World → Prop) (hvc_ : weirref7_out_VC n hi w R) :
    Calls Tryz.prog 41 #[.int .i64 n, .int .i64 hi] w R :=
  calls_of_wpc callOk mixedOk (H := weirref7_out_H) (args := [.int .i64 n, .int .i64 hi]) (fn := Tryz.f41) (c := bodyOf Tryz.f41) Tryz.func41 rfl (Nat.le_of_ble_eq_true rfl)
    (Eq.mp (by kernel_rfl : weirref7_out_VC n hi w R = wpc Tryz.prog callF Tryz.f41.ntmps weirref7_out_H 1 (bodyOf Tryz.f41) (argEnv 0 [.int .i64 n, .int .i64 hi]) [] w (finish Tryz.prog callF Tryz.f41.results.toList R)) hvc_)

set_option maxRecDepth 100000 in
def weirref7_six_VC (ip : IPV) (w : World) (R : Ending → World → Prop) : Prop :=
  NewVC w (.cells ip.cells.toArray 24) fun g1 w1 =>
  ∃ x : Int, w1.cell? ⟨g1, 0, none⟩ = some (.int .i64 x) ∧
  R (.returned (.bool (decide (x = 6)))) w1
def weirref7_six_H : Hints := []
set_option maxRecDepth 100000 in
theorem weirref7_six_of (ip : IPV) (w : World) (R : Ending → World → Prop) (hvc_ : weirref7_six_VC ip w R) :
    Calls Tryz.prog 44 #[ip.val] w R :=
  calls_of_wpc callOk mixedOk (H := weirref7_six_H) (args := [ip.val]) (fn := Tryz.f44) (c := bodyOf Tryz.f44) Tryz.func44 rfl (Nat.le_of_ble_eq_true rfl)
    (Eq.mp (by kernel_rfl : weirref7_six_VC ip w R = wpc Tryz.prog callF Tryz.f44.ntmps weirref7_six_H 1 (bodyOf Tryz.f44) (argEnv 0 [ip.val]) [] w (finish Tryz.prog callF Tryz.f44.results.toList R)) hvc_)

set_option maxRecDepth 100000 in
def weirref7_headers_J15655 (outA : Option Addr) (outn : Nat) (outc : Nat) (i : Int) (K122 : ((Option Addr × Nat × Nat) × Int → World → Prop)) (bA : Option Addr) (bn : Nat) (bc : Nat) (k : Int) (w5 : World) : Prop :=
  NewVC w5 (.cells #[.int .u8 (IntKind.u8.wrap k), .int .u8 (IntKind.u8.wrap (IntKind.i64.wrap (Int.tdiv (bn : Int) 8)))] 5) fun g1 w6 =>
  AppVC Tryz.prog #[28, 28] 28 (.slice outA outn outc) (.slice (some ⟨g1, 0, none⟩) 2 2) w6 fun lA1 ln1 lc1 w7 =>
  AppVC Tryz.prog #[28, 28] 28 (.slice lA1 ln1 lc1) (.slice bA bn bc) w7 fun lA2 ln2 lc2 w8 =>
  K122 ((lA2, ln2, lc2), IntKind.i64.wrap (i + 1)) w8
set_option maxRecDepth 100000 in
def weirref7_headers_J1956 (R : Ending → World → Prop) (lA : Option Addr) (ln : Nat) (next : Int) (outA : Option Addr) (outn : Nat) (outc : Nat) (i : Int) (K122 : ((Option Addr × Nat × Nat) × Int → World → Prop)) (bA : Option Addr) (bn : Nat) (bc : Nat) (e_ : Int) (w4 : World) : Prop :=
  Br (decide (e_ ≠ 0))
    (R (.returned (.tuple #[.slice none 0 0, .int .i64 e_])) w4)
    (JoinVC (S := Int) (fun J15655 =>
      Br (decide (IntKind.i64.wrap (i + 1) < (ln : Int)))
        (IdxVC lA ln 3 (IntKind.i64.wrap (i + 1)) fun a1 =>
        ∃ x : Int, w4.cell? a1 = some (.int .i64 x) ∧
        J15655 x w4)
        (J15655 next w4))
    (fun s_ w5 => weirref7_headers_J15655 outA outn outc i K122 bA bn bc s_ w5))
set_option maxRecDepth 100000 in
def weirref7_headers_L122 (R : Ending → World → Prop) (lA : Option Addr) (ln : Nat) (next : Int) (first : Bool) (outA : Option Addr) (outn : Nat) (outc : Nat) (i : Int) (w1 : World) (K122 : ((Option Addr × Nat × Nat) × Int → World → Prop)) : Prop :=
  Br (decide (i < (ln : Int)))
    (JoinVC (S := (Option Addr × Nat × Nat) × Int) (fun J1956 =>
      IdxVC lA ln 3 i fun a =>
      ExtV.ex fun h => CellsAt w1 a 0 h.cells ∧
      Br first
        (Calls Tryz.prog 64 #[h.val, .bool (decide (i = 0))] w1 (onRet (fun r_ w2 => ∃ (x0A : Option Addr) (x0n x0c : Nat), ∃ x1 : Int, r_ = .tuple #[.slice x0A x0n x0c, .int .i64 x1] ∧
        J1956 ((x0A, x0n, x0c), x1) w2)
          (fun ch w2 => R (.panicked ch) w2)))
        (Calls Tryz.prog 64 #[h.val, .bool false] w1 (onRet (fun r_1 w3 => ∃ (x0A1 : Option Addr) (x0n1 x0c1 : Nat), ∃ x11 : Int, r_1 = .tuple #[.slice x0A1 x0n1 x0c1, .int .i64 x11] ∧
        J1956 ((x0A1, x0n1, x0c1), x11) w3)
          (fun ch1 w3 => R (.panicked ch1) w3))))
    (fun s_ w4 => weirref7_headers_J1956 R lA ln next outA outn outc i K122 s_.1.1 s_.1.2.1 s_.1.2.2 s_.2 w4))
    (R (.returned (.tuple #[.slice outA outn outc, .int .i64 0])) w1)
set_option maxRecDepth 100000 in
def weirref7_headers_VC (lA : Option Addr) (ln : Nat) (_lc : Nat) (next : Int) (first : Bool) (w : World) (R : Ending → World → Prop) : Prop :=
  Br (decide ((8 : Int) < (ln : Int)))
    (R (.returned (.tuple #[.slice none 0 0, .int .i64 74])) w)
    (LoopVC (S := (Option Addr × Nat × Nat) × Int) (fun s_ w1 K122 => weirref7_headers_L122 R lA ln next first s_.1.1 s_.1.2.1 s_.1.2.2 s_.2 w1 K122) ((none, 0, 0), 0) w)
def weirref7_headers_H : Hints := [(122, [(8, .slice), (9, .int .i64)]), (1956, [(10, .slice), (11, .int .i64)]), (15655, [(12, .int .i64)])]
set_option maxRecDepth 100000 in
theorem weirref7_headers_of (lA : Option Addr) (ln : Nat) (lc : Nat) (next : Int) (first : Bool) (w : World) (R : Ending → World → Prop) (hvc_ : weirref7_headers_VC lA ln lc next first w R) :
    Calls Tryz.prog 42 #[.slice lA ln lc, .int .i64 next, .bool first] w R :=
  calls_of_wpc callOk mixedOk (H := weirref7_headers_H) (args := [.slice lA ln lc, .int .i64 next, .bool first]) (fn := Tryz.f42) (c := bodyOf Tryz.f42) Tryz.func42 rfl (Nat.le_of_ble_eq_true rfl)
    (Eq.mp (by kernel_rfl : weirref7_headers_VC lA ln lc next first w R = wpc Tryz.prog callF Tryz.f42.ntmps weirref7_headers_H 1 (bodyOf Tryz.f42) (argEnv 0 [.slice lA ln lc, .int .i64 next, .bool first]) [] w (finish Tryz.prog callF Tryz.f42.results.toList R)) hvc_)

set_option maxRecDepth 100000 in
def weirref7_behind_VC (h : Ip6V) (w : World) (R : Ending → World → Prop) : Prop :=
  NewVC w (.cells h.cells.toArray 30) fun g1 w1 =>
  ∃ x : Bool, w1.cell? ⟨g1, 38, none⟩ = some (.bool x) ∧
  Br x
    (R (.returned (.int .i64 44)) w1)
    (∃ x1 : Int, w1.cell? ⟨g1, 42, none⟩ = some (.int .i64 x1) ∧
  R (.returned (.int .i64 x1)) w1)
def weirref7_behind_H : Hints := []
set_option maxRecDepth 100000 in
theorem weirref7_behind_of (h : Ip6V) (w : World) (R : Ending → World → Prop) (hvc_ : weirref7_behind_VC h w R) :
    Calls Tryz.prog 65 #[h.val] w R :=
  calls_of_wpc callOk mixedOk (H := weirref7_behind_H) (args := [h.val]) (fn := Tryz.f65) (c := bodyOf Tryz.f65) Tryz.func65 rfl (Nat.le_of_ble_eq_true rfl)
    (Eq.mp (by kernel_rfl : weirref7_behind_VC h w R = wpc Tryz.prog callF Tryz.f65.ntmps weirref7_behind_H 1 (bodyOf Tryz.f65) (argEnv 0 [h.val]) [] w (finish Tryz.prog callF Tryz.f65.results.toList R)) hvc_)

set_option maxRecDepth 100000 in
def weirref7_frag_VC (h : Ip6V) (w : World) (R : Ending → World → Prop) : Prop :=
  NewVC w (.cells h.cells.toArray 30) fun g1 w1 =>
  FragV.ex fun h1 => CellsAt w1 ⟨g1, 38, none⟩ 0 h1.cells ∧
  NewVC w1 (.cells (FragV.z : FragV).cells.toArray 27) fun g2 w2 =>
  Stores ⟨g2, 0, none⟩ 0 h1.cells w2 fun w3 =>
  ∃ x : Bool, w3.cell? ⟨g2, 0, none⟩ = some (.bool x) ∧
  Br (!x)
    (∃ x1 : Bool, w3.cell? ⟨g2, 1, none⟩ = some (.bool x1) ∧
    Br x1
      (R (.returned (.int .i64 76)) w3)
      (∃ x2 : Int, w3.cell? ⟨g2, 2, none⟩ = some (.int .i64 x2) ∧
      Br (decide (x2 ≠ 0))
        (R (.returned (.int .i64 76)) w3)
        (∃ x3 : Int, w3.cell? ⟨g2, 3, none⟩ = some (.int .i64 x3) ∧
        Br (decide (x3 ≠ 0))
      (R (.returned (.int .i64 76)) w3)
      (∃ x4 : Int, w3.cell? ⟨g1, 42, none⟩ = some (.int .i64 x4) ∧
    Calls Tryz.prog 43 #[.int .i64 x4] w3 (onRet (fun r_ w4 => ∃ x5 : Bool, r_ = .bool x5 ∧
    Br (!x5)
      (R (.returned (.int .i64 72)) w4)
      (R (.returned (.int .i64 0)) w4))
      (fun ch w4 => R (.panicked ch) w4))))))
    (∃ x6 : Int, w3.cell? ⟨g2, 2, none⟩ = some (.int .i64 x6) ∧
  Calls Tryz.prog 41 #[.int .i64 x6, .int .i64 4294967295] w3 (onRet (fun r_1 w5 => ∃ x7 : Bool, r_1 = .bool x7 ∧
  Br x7
    (R (.returned (.int .i64 76)) w5)
    (∃ x8 : Int, w5.cell? ⟨g2, 3, none⟩ = some (.int .i64 x8) ∧
    Calls Tryz.prog 41 #[.int .i64 x8, .int .i64 65528] w5 (onRet (fun r_2 w6 => ∃ x9 : Bool, r_2 = .bool x9 ∧
    Br x9
      (R (.returned (.int .i64 76)) w6)
      (∃ x10 : Int, w6.cell? ⟨g2, 3, none⟩ = some (.int .i64 x10) ∧
      Br (decide (Int.tmod x10 8 ≠ 0))
        (R (.returned (.int .i64 76)) w6)
        (∃ x11 : Int, w6.cell? ⟨g2, 3, none⟩ = some (.int .i64 x11) ∧
        ∃ x12 : Bool, w6.cell? ⟨g2, 1, none⟩ = some (.bool x12) ∧
        ∃ (xA : Option Addr) (xn xc : Nat), w6.cell? ⟨g1, 43, none⟩ = some (.slice xA xn xc) ∧
        Calls Tryz.prog 82 #[.int .i64 x11, .bool x12, .int .i64 (xn : Int)] w6 (onRet (fun r_3 w7 => ∃ x13 : Bool, r_3 = .bool x13 ∧
        Br (!x13)
    (R (.returned (.int .i64 76)) w7)
    (R (.returned (.int .i64 0)) w7))
          (fun ch3 w7 => R (.panicked ch3) w7)))))
      (fun ch2 w6 => R (.panicked ch2) w6))))
    (fun ch1 w5 => R (.panicked ch1) w5)))
def weirref7_frag_H : Hints := []
set_option maxRecDepth 100000 in
theorem weirref7_frag_of (h : Ip6V) (w : World) (R : Ending → World → Prop) (hvc_ : weirref7_frag_VC h w R) :
    Calls Tryz.prog 66 #[h.val] w R :=
  calls_of_wpc callOk mixedOk (H := weirref7_frag_H) (args := [h.val]) (fn := Tryz.f66) (c := bodyOf Tryz.f66) Tryz.func66 rfl (Nat.le_of_ble_eq_true rfl)
    (Eq.mp (by kernel_rfl : weirref7_frag_VC h w R = wpc Tryz.prog callF Tryz.f66.ntmps weirref7_frag_H 1 (bodyOf Tryz.f66) (argEnv 0 [h.val]) [] w (finish Tryz.prog callF Tryz.f66.results.toList R)) hvc_)

set_option maxRecDepth 100000 in
def weirref7_header_J7 (R : Ending → World → Prop) (g1 : Nat)  (w3 : World) : Prop :=
  ∃ x5 : Int, w3.cell? ⟨g1, 0, none⟩ = some (.int .i64 x5) ∧
  Br (decide (x5 = 43))
    (∃ (xA : Option Addr) (xn xc : Nat), w3.cell? ⟨g1, 1, none⟩ = some (.slice xA xn xc) ∧
    Br (decide ((0 : Int) < (xn : Int)))
      (R (.returned (.tuple #[.slice none 0 0, .int .i64 72])) w3)
      (∃ (xA1 : Option Addr) (xn1 xc1 : Nat), w3.cell? ⟨g1, 2, none⟩ = some (.slice xA1 xn1 xc1) ∧
      Br (decide (Int.tmod (xn1 : Int) 8 ≠ 6))
        (R (.returned (.tuple #[.slice none 0 0, .int .i64 72])) w3)
        (∃ (xA2 : Option Addr) (xn2 xc2 : Nat), w3.cell? ⟨g1, 2, none⟩ = some (.slice xA2 xn2 xc2) ∧
        Br (decide ((2046 : Int) < (xn2 : Int)))
      (R (.returned (.tuple #[.slice none 0 0, .int .i64 72])) w3)
      (∃ (xA3 : Option Addr) (xn3 xc3 : Nat), w3.cell? ⟨g1, 2, none⟩ = some (.slice xA3 xn3 xc3) ∧
    R (.returned (.tuple #[.slice xA3 xn3 xc3, .int .i64 0])) w3))))
    (∃ (xA4 : Option Addr) (xn4 xc4 : Nat), w3.cell? ⟨g1, 2, none⟩ = some (.slice xA4 xn4 xc4) ∧
  Br (decide ((0 : Int) < (xn4 : Int)))
    (R (.returned (.tuple #[.slice none 0 0, .int .i64 72])) w3)
    (∃ (xA5 : Option Addr) (xn5 xc5 : Nat), w3.cell? ⟨g1, 1, none⟩ = some (.slice xA5 xn5 xc5) ∧
  Calls Tryz.prog 81 #[.slice xA5 xn5 xc5] w3 (onRet (fun r_ w4 => ∃ (x0A : Option Addr) (x0n x0c : Nat), ∃ x11 : Int, r_ = .tuple #[.slice x0A x0n x0c, .int .i64 x11] ∧
  R (.returned (.tuple #[.slice x0A x0n x0c, .int .i64 x11])) w4)
    (fun ch w4 => R (.panicked ch) w4))))
set_option maxRecDepth 100000 in
def weirref7_header_J3 (R : Ending → World → Prop) (g1 : Nat)  (w2 : World) : Prop :=
  JoinVC (S := Unit) (fun J7 =>
      ∃ x2 : Int, w2.cell? ⟨g1, 0, none⟩ = some (.int .i64 x2) ∧
      Br (decide (x2 ≠ 0))
        (∃ x3 : Int, w2.cell? ⟨g1, 0, none⟩ = some (.int .i64 x3) ∧
        Br (decide (x3 ≠ 43))
          (∃ x4 : Int, w2.cell? ⟨g1, 0, none⟩ = some (.int .i64 x4) ∧
          Br (decide (x4 ≠ 60))
        (R (.returned (.tuple #[.slice none 0 0, .int .i64 72])) w2)
        (J7 () w2))
          (J7 () w2))
        (J7 () w2))
    (fun _ w3 => weirref7_header_J7 R g1 w3)
set_option maxRecDepth 100000 in
def weirref7_header_VC (x : ExtV) (first : Bool) (w : World) (R : Ending → World → Prop) : Prop :=
  NewVC w (.cells x.cells.toArray 56) fun g1 w1 =>
  JoinVC (S := Unit) (fun J3 =>
      ∃ x1 : Int, w1.cell? ⟨g1, 0, none⟩ = some (.int .i64 x1) ∧
      Br (decide (x1 = 0))
        (Br (!first)
        (R (.returned (.tuple #[.slice none 0 0, .int .i64 73])) w1)
        (J3 () w1))
        (J3 () w1))
    (fun _ w2 => weirref7_header_J3 R g1 w2)
def weirref7_header_H : Hints := [(3, []), (7, [])]
set_option maxRecDepth 100000 in
theorem weirref7_header_of (x : ExtV) (first : Bool) (w : World) (R : Ending → World → Prop) (hvc_ : weirref7_header_VC x first w R) :
    Calls Tryz.prog 64 #[x.val, .bool first] w R :=
  calls_of_wpc callOk mixedOk (H := weirref7_header_H) (args := [x.val, .bool first]) (fn := Tryz.f64) (c := bodyOf Tryz.f64) Tryz.func64 rfl (Nat.le_of_ble_eq_true rfl)
    (Eq.mp (by kernel_rfl : weirref7_header_VC x first w R = wpc Tryz.prog callF Tryz.f64.ntmps weirref7_header_H 1 (bodyOf Tryz.f64) (argEnv 0 [x.val, .bool first]) [] w (finish Tryz.prog callF Tryz.f64.results.toList R)) hvc_)

set_option maxRecDepth 100000 in
def weirref7_upper_VC (k : Int) (w : World) (R : Ending → World → Prop) : Prop :=
  Br (decide (k ≠ 0))
    (Br (decide (k ≠ 43))
      (Br (decide (k ≠ 44))
        (R (.returned (.bool (decide (k ≠ 60)))) w)
        (R (.returned (.bool false)) w))
      (R (.returned (.bool false)) w))
    (R (.returned (.bool false)) w)
def weirref7_upper_H : Hints := []
set_option maxRecDepth 100000 in
theorem weirref7_upper_of (k : Int) (w : World) (R : Ending → World → Prop) (hvc_ : weirref7_upper_VC k w R) :
    Calls Tryz.prog 43 #[.int .i64 k] w R :=
  calls_of_wpc callOk mixedOk (H := weirref7_upper_H) (args := [.int .i64 k]) (fn := Tryz.f43) (c := bodyOf Tryz.f43) Tryz.func43 rfl (Nat.le_of_ble_eq_true rfl)
    (Eq.mp (by kernel_rfl : weirref7_upper_VC k w R = wpc Tryz.prog callF Tryz.f43.ntmps weirref7_upper_H 1 (bodyOf Tryz.f43) (argEnv 0 [.int .i64 k]) [] w (finish Tryz.prog callF Tryz.f43.results.toList R)) hvc_)

set_option maxRecDepth 100000 in
def weirref7_piece_J3 (R : Ending → World → Prop) (off : Int) (n : Int)  (w1 : World) : Prop :=
  Br (decide (off = 0))
    (R (.returned (.bool (decide (IntKind.i64.wrap (off + n) ≤ 65535)))) w1)
    (Br (decide ((0 : Int) < n))
      (R (.returned (.bool (decide (IntKind.i64.wrap (off + n) ≤ 65535)))) w1)
      (R (.returned (.bool false)) w1))
set_option maxRecDepth 100000 in
def weirref7_piece_VC (off : Int) (more : Bool) (n : Int) (w : World) (R : Ending → World → Prop) : Prop :=
  JoinVC (S := Unit) (fun J3 =>
      Br more
        (Br (decide (n = 0))
          (R (.returned (.bool false)) w)
          (Br (decide (Int.tmod n 8 ≠ 0))
        (R (.returned (.bool false)) w)
        (J3 () w)))
        (J3 () w))
    (fun _ w1 => weirref7_piece_J3 R off n w1)
def weirref7_piece_H : Hints := [(3, [])]
set_option maxRecDepth 100000 in
theorem weirref7_piece_of (off : Int) (more : Bool) (n : Int) (w : World) (R : Ending → World → Prop) (hvc_ : weirref7_piece_VC off more n w R) :
    Calls Tryz.prog 82 #[.int .i64 off, .bool more, .int .i64 n] w R :=
  calls_of_wpc callOk mixedOk (H := weirref7_piece_H) (args := [.int .i64 off, .bool more, .int .i64 n]) (fn := Tryz.f82) (c := bodyOf Tryz.f82) Tryz.func82 rfl (Nat.le_of_ble_eq_true rfl)
    (Eq.mp (by kernel_rfl : weirref7_piece_VC off more n w R = wpc Tryz.prog callF Tryz.f82.ntmps weirref7_piece_H 1 (bodyOf Tryz.f82) (argEnv 0 [.int .i64 off, .bool more, .int .i64 n]) [] w (finish Tryz.prog callF Tryz.f82.results.toList R)) hvc_)

set_option maxRecDepth 100000 in
def weirref7_PutOptions_J14922 (R : Ending → World → Prop) (outA : Option Addr) (outn : Nat) (outc : Nat) (i : Int) (K58 : ((Option Addr × Nat × Nat) × Int → World → Prop)) (g1 : Nat) (_t25_ : Int) (_t26_ : Bool) (_t27_ : Bool) (_t35_ : Bool) (w5 : World) : Prop :=
  ∃ (xA1 : Option Addr) (xn1 xc1 : Nat), w5.cell? ⟨g1, 1, none⟩ = some (.slice xA1 xn1 xc1) ∧
  Calls Tryz.prog 105 #[.slice outA outn outc, .int .i64 (xn1 : Int)] w5 (onRet (fun r_1 w6 => ∃ (xA2 : Option Addr) (xn2 xc2 : Nat), r_1 = .slice xA2 xn2 xc2 ∧
  K58 ((xA2, xn2, xc2), IntKind.i64.wrap (i + 1)) w6)
    (fun ch1 w6 => R (.panicked ch1) w6))
set_option maxRecDepth 100000 in
def weirref7_PutOptions_L58 (R : Ending → World → Prop) (lA : Option Addr) (ln : Nat) (outA : Option Addr) (outn : Nat) (outc : Nat) (i : Int) (w1 : World) (K58 : ((Option Addr × Nat × Nat) × Int → World → Prop)) : Prop :=
  Br (decide (i < (ln : Int)))
    (IdxVC lA ln 2 i fun a =>
  OptV.ex fun h => CellsAt w1 a 0 h.cells ∧
  NewVC w1 (.cells (OptV.z : OptV).cells.toArray 127) fun g1 w2 =>
  Stores ⟨g1, 0, none⟩ 0 h.cells w2 fun w3 =>
  ∃ x : Int, w3.cell? ⟨g1, 0, none⟩ = some (.int .i64 x) ∧
  Br (decide (x = 0))
    (JoinVC (S := Int × Bool × Bool × Bool) (fun J14922 =>
        ∃ (xA : Option Addr) (xn xc : Nat), w3.cell? ⟨g1, 1, none⟩ = some (.slice xA xn xc) ∧
        Calls Tryz.prog 104 #[.slice xA xn xc] w3 (onRet (fun r_ w4 => ∃ x1 : Bool, r_ = .bool x1 ∧
        Br (!x1)
          (R (.returned (.tuple #[.slice none 0 0, .int .i64 75])) w4)
          (Br (decide ((0 : Int) < i))
            (IdxVC lA ln 2 (IntKind.i64.wrap (i - 1)) fun a1 =>
            ∃ x2 : Int, w4.cell? a1 = some (.int .i64 x2) ∧
            Br (decide (x2 = 0))
          (R (.returned (.tuple #[.slice none 0 0, .int .i64 75])) w4)
          (J14922 (i, decide ((0 : Int) < i), true, decide (x2 = 0)) w4))
            (J14922 (i, decide ((0 : Int) < i), false, false) w4)))
          (fun ch w4 => R (.panicked ch) w4)))
      (fun s_ w5 => weirref7_PutOptions_J14922 R outA outn outc i K58 g1 s_.1 s_.2.1 s_.2.2.1 s_.2.2.2 w5))
    (∃ x3 : Int, w3.cell? ⟨g1, 0, none⟩ = some (.int .i64 x3) ∧
  Br (decide (x3 < 2))
    (R (.returned (.tuple #[.slice none 0 0, .int .i64 75])) w3)
    (∃ x4 : Int, w3.cell? ⟨g1, 0, none⟩ = some (.int .i64 x4) ∧
    Br (decide ((255 : Int) < x4))
      (R (.returned (.tuple #[.slice none 0 0, .int .i64 75])) w3)
      (∃ (xA3 : Option Addr) (xn3 xc3 : Nat), w3.cell? ⟨g1, 1, none⟩ = some (.slice xA3 xn3 xc3) ∧
      Br (decide ((255 : Int) < (xn3 : Int)))
    (R (.returned (.tuple #[.slice none 0 0, .int .i64 75])) w3)
    (∃ x5 : Int, w3.cell? ⟨g1, 0, none⟩ = some (.int .i64 x5) ∧
  ∃ (xA4 : Option Addr) (xn4 xc4 : Nat), w3.cell? ⟨g1, 1, none⟩ = some (.slice xA4 xn4 xc4) ∧
  NewVC w3 (.cells #[.int .u8 (IntKind.u8.wrap x5), .int .u8 (IntKind.u8.wrap (xn4 : Int))] 5) fun g2 w7 =>
  AppVC Tryz.prog #[28, 28] 28 (.slice outA outn outc) (.slice (some ⟨g2, 0, none⟩) 2 2) w7 fun lA1 ln1 lc1 w8 =>
  ∃ (xA5 : Option Addr) (xn5 xc5 : Nat), w8.cell? ⟨g1, 1, none⟩ = some (.slice xA5 xn5 xc5) ∧
  AppVC Tryz.prog #[28, 28] 28 (.slice lA1 ln1 lc1) (.slice xA5 xn5 xc5) w8 fun lA2 ln2 lc2 w9 =>
  K58 ((lA2, ln2, lc2), IntKind.i64.wrap (i + 1)) w9)))))
    (Br (decide (Int.tmod (outn : Int) 8 ≠ 6))
    (R (.returned (.tuple #[.slice none 0 0, .int .i64 75])) w1)
    (Br (decide ((2046 : Int) < (outn : Int)))
    (R (.returned (.tuple #[.slice none 0 0, .int .i64 75])) w1)
    (R (.returned (.tuple #[.slice outA outn outc, .int .i64 0])) w1)))
set_option maxRecDepth 100000 in
def weirref7_PutOptions_VC (lA : Option Addr) (ln : Nat) (_lc : Nat) (w : World) (R : Ending → World → Prop) : Prop :=
  LoopVC (S := (Option Addr × Nat × Nat) × Int) (fun s_ w1 K58 => weirref7_PutOptions_L58 R lA ln s_.1.1 s_.1.2.1 s_.1.2.2 s_.2 w1 K58) ((none, 0, 0), 0) w
def weirref7_PutOptions_H : Hints := [(58, [(4, .slice), (5, .int .i64)]), (14922, [(25, .int .i64), (26, .bool), (27, .bool), (35, .bool)])]
set_option maxRecDepth 100000 in
theorem weirref7_PutOptions_of (lA : Option Addr) (ln : Nat) (lc : Nat) (w : World) (R : Ending → World → Prop) (hvc_ : weirref7_PutOptions_VC lA ln lc w R) :
    Calls Tryz.prog 81 #[.slice lA ln lc] w R :=
  calls_of_wpc callOk mixedOk (H := weirref7_PutOptions_H) (args := [.slice lA ln lc]) (fn := Tryz.f81) (c := bodyOf Tryz.f81) Tryz.func81 rfl (Nat.le_of_ble_eq_true rfl)
    (Eq.mp (by kernel_rfl : weirref7_PutOptions_VC lA ln lc w R = wpc Tryz.prog callF Tryz.f81.ntmps weirref7_PutOptions_H 1 (bodyOf Tryz.f81) (argEnv 0 [.slice lA ln lc]) [] w (finish Tryz.prog callF Tryz.f81.results.toList R)) hvc_)

set_option maxRecDepth 100000 in
def weirref7_run_L26 (R : Ending → World → Prop) (bA : Option Addr) (bn : Nat) (i : Int) (w1 : World) (K26 : (Int → World → Prop)) : Prop :=
  Br (decide (i < (bn : Int)))
    (IdxVC bA bn 1 i fun a =>
  ∃ x : Int, w1.cell? a = some (.int .u8 x) ∧
  Br (decide (x ≠ 0))
    (R (.returned (.bool false)) w1)
    (K26 (IntKind.i64.wrap (i + 1)) w1))
    (R (.returned (.bool (decide ((0 : Int) < (bn : Int))))) w1)
set_option maxRecDepth 100000 in
def weirref7_run_VC (bA : Option Addr) (bn : Nat) (_bc : Nat) (w : World) (R : Ending → World → Prop) : Prop :=
  LoopVC (S := Int) (fun s_ w1 K26 => weirref7_run_L26 R bA bn s_ w1 K26) 0 w
def weirref7_run_H : Hints := [(26, [(3, .int .i64)])]
set_option maxRecDepth 100000 in
theorem weirref7_run_of (bA : Option Addr) (bn : Nat) (bc : Nat) (w : World) (R : Ending → World → Prop) (hvc_ : weirref7_run_VC bA bn bc w R) :
    Calls Tryz.prog 104 #[.slice bA bn bc] w R :=
  calls_of_wpc callOk mixedOk (H := weirref7_run_H) (args := [.slice bA bn bc]) (fn := Tryz.f104) (c := bodyOf Tryz.f104) Tryz.func104 rfl (Nat.le_of_ble_eq_true rfl)
    (Eq.mp (by kernel_rfl : weirref7_run_VC bA bn bc w R = wpc Tryz.prog callF Tryz.f104.ntmps weirref7_run_H 1 (bodyOf Tryz.f104) (argEnv 0 [.slice bA bn bc]) [] w (finish Tryz.prog callF Tryz.f104.results.toList R)) hvc_)

set_option maxRecDepth 100000 in
def weirref7_fill_L6330 (n1 : Int) (K12 : ((Option Addr × Nat × Nat) × Int → World → Prop)) (m : Int) (outA2 : Option Addr) (outn2 : Nat) (outc2 : Nat) (i : Int) (w5 : World) (K6330 : ((Option Addr × Nat × Nat) × Int → World → Prop)) : Prop :=
  Br (decide (i < m))
    (NewVC w5 (.cells #[.int .u8 0] 5) fun g2 w6 =>
  AppVC Tryz.prog #[28, 28] 28 (.slice outA2 outn2 outc2) (.slice (some ⟨g2, 0, none⟩) 1 1) w6 fun lA1 ln1 lc1 w7 =>
  K6330 ((lA1, ln1, lc1), IntKind.i64.wrap (i + 1)) w7)
    (K12 ((outA2, outn2, outc2), IntKind.i64.wrap (n1 - m)) w5)
set_option maxRecDepth 100000 in
def weirref7_fill_J197 (outA1 : Option Addr) (outn1 : Nat) (outc1 : Nat) (n1 : Int) (K12 : ((Option Addr × Nat × Nat) × Int → World → Prop)) (m : Int) (w2 : World) : Prop :=
  NewVC w2 (.cells #[.int .u8 1, .int .u8 (IntKind.u8.wrap (IntKind.i64.wrap (m - 2)))] 5) fun g1 w3 =>
  AppVC Tryz.prog #[28, 28] 28 (.slice outA1 outn1 outc1) (.slice (some ⟨g1, 0, none⟩) 2 2) w3 fun lA ln lc w4 =>
  LoopVC (S := (Option Addr × Nat × Nat) × Int) (fun s_ w5 K6330 => weirref7_fill_L6330 n1 K12 m s_.1.1 s_.1.2.1 s_.1.2.2 s_.2 w5 K6330) ((lA, ln, lc), 2) w4
set_option maxRecDepth 100000 in
def weirref7_fill_L12 (R : Ending → World → Prop)  (outA1 : Option Addr) (outn1 : Nat) (outc1 : Nat) (n1 : Int) (w1 : World) (K12 : ((Option Addr × Nat × Nat) × Int → World → Prop)) : Prop :=
  Br (decide ((1 : Int) < n1))
    (JoinVC (S := Int) (fun J197 =>
      Br (decide ((257 : Int) < n1))
        (J197 257 w1)
        (J197 n1 w1))
    (fun s_ w2 => weirref7_fill_J197 outA1 outn1 outc1 n1 K12 s_ w2))
    (Br (decide (n1 = 1))
    (NewVC w1 (.cells #[.int .u8 0] 5) fun g3 w8 =>
    AppVC Tryz.prog #[28, 28] 28 (.slice outA1 outn1 outc1) (.slice (some ⟨g3, 0, none⟩) 1 1) w8 fun lA2 ln2 lc2 w9 =>
    R (.returned (.slice lA2 ln2 lc2)) w9)
    (R (.returned (.slice outA1 outn1 outc1)) w1))
set_option maxRecDepth 100000 in
def weirref7_fill_VC (outA : Option Addr) (outn : Nat) (outc : Nat) (n : Int) (w : World) (R : Ending → World → Prop) : Prop :=
  LoopVC (S := (Option Addr × Nat × Nat) × Int) (fun s_ w1 K12 => weirref7_fill_L12 R s_.1.1 s_.1.2.1 s_.1.2.2 s_.2 w1 K12) ((outA, outn, outc), n) w
def weirref7_fill_H : Hints := [(12, [(0, .slice), (1, .int .i64)]), (197, [(5, .int .i64)]), (6330, [(0, .slice), (6, .int .i64)])]
set_option maxRecDepth 100000 in
theorem weirref7_fill_of (outA : Option Addr) (outn : Nat) (outc : Nat) (n : Int) (w : World) (R : Ending → World → Prop) (hvc_ : weirref7_fill_VC outA outn outc n w R) :
    Calls Tryz.prog 105 #[.slice outA outn outc, .int .i64 n] w R :=
  calls_of_wpc callOk mixedOk (H := weirref7_fill_H) (args := [.slice outA outn outc, .int .i64 n]) (fn := Tryz.f105) (c := bodyOf Tryz.f105) Tryz.func105 rfl (Nat.le_of_ble_eq_true rfl)
    (Eq.mp (by kernel_rfl : weirref7_fill_VC outA outn outc n w R = wpc Tryz.prog callF Tryz.f105.ntmps weirref7_fill_H 1 (bodyOf Tryz.f105) (argEnv 0 [.slice outA outn outc, .int .i64 n]) [] w (finish Tryz.prog callF Tryz.f105.results.toList R)) hvc_)

set_option maxRecDepth 100000 in
def weirref1_Pack_L64806 (valuesA : Option Addr) (valuesn : Nat) (i : Int) (K506 : ((Option Addr × Nat × Nat) × Int → World → Prop)) (rowA1 : Option Addr) (rown1 : Nat) (rowc1 : Nat) (k : Int) (w5 : World) (K64806 : ((Option Addr × Nat × Nat) × Int → World → Prop)) : Prop :=
  Br (decide ((0 : Int) ≤ k))
    (DrawVC w5 fun S2 w6 =>
  IdxVC valuesA valuesn 1 i fun a4 =>
  ∃ x6 : Int, (∀ w' : World, S2 w' → w'.cell? a4 = some (.int .i64 x6)) ∧
  Calls Tryz.prog 69 #[.int .i64 k] w6 (onRet (fun r_2 w7 => ∃ x7 : Int, r_2 = .int .i64 x7 ∧
  S2 w7 ∧
  DivVC x7 (
  NewVC w7 (.cells #[.int .i64 (Int.tmod (IntKind.i64.wrap (Int.tdiv x6 x7)) 2)] 3) fun g1 w8 =>
  S2 w8 ∧
  AppVC Tryz.prog #[31, 31] 31 (.slice rowA1 rown1 rowc1) (.slice (some ⟨g1, 0, none⟩) 1 1) w8 fun lA ln lc w9 =>
  S2 w9 ∧
  K64806 ((lA, ln, lc), IntKind.i64.wrap (k - 1)) w9))
    (fun _ _ => False)))
    (K506 ((rowA1, rown1, rowc1), IntKind.i64.wrap (i + 1)) w5)
set_option maxRecDepth 100000 in
def weirref1_Pack_L522826 (rowA : Option Addr) (rown : Nat) (lA1 : Option Addr) (ln1 : Nat) (lc1 : Nat) (i1 : Int) (K2042 : ((Option Addr × Nat × Nat) × Int → World → Prop)) (c : Int) (k1 : Int) (w11 : World) (K522826 : (Int × Int → World → Prop)) : Prop :=
  Br (decide (k1 < IntKind.i64.wrap (i1 + 8)))
    (IdxVC rowA rown 1 k1 fun a5 =>
  ∃ x8 : Int, w11.cell? a5 = some (.int .i64 x8) ∧
  K522826 (IntKind.i64.wrap (IntKind.i64.wrap (2 * c) + x8), IntKind.i64.wrap (k1 + 1)) w11)
    (NewVC w11 (.cells #[.int .u8 (IntKind.u8.wrap c)] 5) fun g2 w12 =>
  AppVC Tryz.prog #[28, 28] 28 (.slice lA1 ln1 lc1) (.slice (some ⟨g2, 0, none⟩) 1 1) w12 fun lA2 ln2 lc2 w13 =>
  K2042 ((lA2, ln2, lc2), IntKind.i64.wrap (i1 + 8)) w13)
set_option maxRecDepth 100000 in
def weirref1_Pack_L2042 (R : Ending → World → Prop) (x : Int) (rowA : Option Addr) (rown : Nat) (lA1 : Option Addr) (ln1 : Nat) (lc1 : Nat) (i1 : Int) (w10 : World) (K2042 : ((Option Addr × Nat × Nat) × Int → World → Prop)) : Prop :=
  Br (decide (i1 < x))
    (LoopVC (S := Int × Int) (fun s_ w11 K522826 => weirref1_Pack_L522826 rowA rown lA1 ln1 lc1 i1 K2042 s_.1 s_.2 w11 K522826) (0, i1) w10)
    (R (.returned (.tuple #[.slice lA1 ln1 lc1, .int .i64 0])) w10)
set_option maxRecDepth 100000 in
def weirref1_Pack_L506 (R : Ending → World → Prop) (widthsA : Option Addr) (widthsn : Nat) (valuesA : Option Addr) (valuesn : Nat) (x : Int) (rowA : Option Addr) (rown : Nat) (rowc : Nat) (i : Int) (w2 : World) (K506 : ((Option Addr × Nat × Nat) × Int → World → Prop)) : Prop :=
  Br (decide (i < (widthsn : Int)))
    (DrawVC w2 fun S1 w3 =>
  IdxVC valuesA valuesn 1 i fun a =>
  ∃ x1 : Int, (∀ w' : World, S1 w' → w'.cell? a = some (.int .i64 x1)) ∧
  Br (decide (x1 < 0))
    (R (.returned (.tuple #[.slice none 0 0, .int .i64 12])) w3)
    (IdxVC valuesA valuesn 1 i fun a1 =>
    ∃ x2 : Int, (∀ w' : World, S1 w' → w'.cell? a1 = some (.int .i64 x2)) ∧
    IdxVC widthsA widthsn 1 i fun a2 =>
    ∃ x3 : Int, (∀ w' : World, S1 w' → w'.cell? a2 = some (.int .i64 x3)) ∧
    Calls Tryz.prog 69 #[.int .i64 x3] w3 (onRet (fun r_1 w4 => ∃ x4 : Int, r_1 = .int .i64 x4 ∧
    S1 w4 ∧
    Br (decide (x4 ≤ x2))
    (R (.returned (.tuple #[.slice none 0 0, .int .i64 12])) w4)
    (IdxVC widthsA widthsn 1 i fun a3 =>
  ∃ x5 : Int, w4.cell? a3 = some (.int .i64 x5) ∧
  LoopVC (S := (Option Addr × Nat × Nat) × Int) (fun s_ w5 K64806 => weirref1_Pack_L64806 valuesA valuesn i K506 s_.1.1 s_.1.2.1 s_.1.2.2 s_.2 w5 K64806) ((rowA, rown, rowc), IntKind.i64.wrap (x5 - 1)) w4))
      (fun _ _ => False))))
    (LoopVC (S := (Option Addr × Nat × Nat) × Int) (fun s_ w10 K2042 => weirref1_Pack_L2042 R x rowA rown s_.1.1 s_.1.2.1 s_.1.2.2 s_.2 w10 K2042) ((none, 0, 0), 0) w2)
set_option maxRecDepth 100000 in
def weirref1_Pack_VC (widthsA : Option Addr) (widthsn : Nat) (widthsc : Nat) (valuesA : Option Addr) (valuesn : Nat) (_valuesc : Nat) (w : World) (R : Ending → World → Prop) : Prop :=
  Calls Tryz.prog 68 #[.slice widthsA widthsn widthsc] w (onRet (fun r_ w1 => ∃ x : Int, r_ = .int .i64 x ∧
  Br (decide (x < 0))
    (R (.returned (.tuple #[.slice none 0 0, .int .i64 11])) w1)
    (Br (decide ((widthsn : Int) ≠ (valuesn : Int)))
    (R (.returned (.tuple #[.slice none 0 0, .int .i64 1])) w1)
    (LoopVC (S := (Option Addr × Nat × Nat) × Int) (fun s_ w2 K506 => weirref1_Pack_L506 R widthsA widthsn valuesA valuesn x s_.1.1 s_.1.2.1 s_.1.2.2 s_.2 w2 K506) ((none, 0, 0), 0) w1)))
    (fun ch w1 => R (.panicked ch) w1))
def weirref1_Pack_H : Hints := [(506, [(7, .slice), (8, .int .i64)]), (64806, [(7, .slice), (9, .int .i64)]), (2042, [(10, .slice), (11, .int .i64)]), (522826, [(12, .int .i64), (13, .int .i64)])]
set_option maxRecDepth 100000 in
theorem weirref1_Pack_of (widthsA : Option Addr) (widthsn : Nat) (widthsc : Nat) (valuesA : Option Addr) (valuesn : Nat) (valuesc : Nat) (w : World) (R : Ending → World → Prop) (hvc_ : weirref1_Pack_VC widthsA widthsn widthsc valuesA valuesn valuesc w R) :
    Calls Tryz.prog 46 #[.slice widthsA widthsn widthsc, .slice valuesA valuesn valuesc] w R :=
  calls_of_wpc callOk mixedOk (H := weirref1_Pack_H) (args := [.slice widthsA widthsn widthsc, .slice valuesA valuesn valuesc]) (fn := Tryz.f46) (c := bodyOf Tryz.f46) Tryz.func46 rfl (Nat.le_of_ble_eq_true rfl)
    (Eq.mp (by kernel_rfl : weirref1_Pack_VC widthsA widthsn widthsc valuesA valuesn valuesc w R = wpc Tryz.prog callF Tryz.f46.ntmps weirref1_Pack_H 1 (bodyOf Tryz.f46) (argEnv 0 [.slice widthsA widthsn widthsc, .slice valuesA valuesn valuesc]) [] w (finish Tryz.prog callF Tryz.f46.results.toList R)) hvc_)

set_option maxRecDepth 100000 in
def weirref1_Bytes_L250 (R : Ending → World → Prop) (n : Int) (lA : Option Addr) (ln : Nat) (lc : Nat) (i1 : Int) (w4 : World) (K250 : (Int → World → Prop)) : Prop :=
  Br (decide (i1 < IntKind.i64.wrap (8 - n)))
    (IdxVC lA ln 1 i1 fun a =>
  ∃ x : Int, w4.cell? a = some (.int .u8 x) ∧
  Br (decide (x ≠ 0))
    (R (.returned (.tuple #[.slice none 0 0, .int .i64 12])) w4)
    (K250 (IntKind.i64.wrap (i1 + 1)) w4))
    (SliceVC lA ln lc 1 (some (IntKind.i64.wrap (8 - n))) none none fun sA sn sc =>
  R (.returned (.tuple #[.slice sA sn sc, .int .i64 0])) w4)
set_option maxRecDepth 100000 in
def weirref1_Bytes_L122 (R : Ending → World → Prop) (n : Int) (v_1 : Int) (lA : Option Addr) (ln : Nat) (lc : Nat) (i : Int) (w1 : World) (K122 : (Int × (Option Addr × Nat × Nat) × Int → World → Prop)) : Prop :=
  Br (decide (i < 8))
    (NewVC w1 (.cells #[.int .u8 (IntKind.u8.wrap (IntKind.u64.wrap (Int.tdiv (IntKind.u64.wrap (Int.tdiv (IntKind.u64.wrap (Int.tdiv (IntKind.u64.wrap (Int.tdiv (IntKind.u64.wrap (Int.tdiv (IntKind.u64.wrap (Int.tdiv (IntKind.u64.wrap (Int.tdiv v_1 256)) 256)) 256)) 256)) 256)) 256)) 256)))] 5) fun g1 w2 =>
  AppVC Tryz.prog #[28, 28] 28 (.slice lA ln lc) (.slice (some ⟨g1, 0, none⟩) 1 1) w2 fun lA1 ln1 lc1 w3 =>
  K122 (IntKind.u64.wrap (v_1 * 256), (lA1, ln1, lc1), IntKind.i64.wrap (i + 1)) w3)
    (LoopVC (S := Int) (fun s_ w4 K250 => weirref1_Bytes_L250 R n lA ln lc s_ w4 K250) 0 w1)
set_option maxRecDepth 100000 in
def weirref1_Bytes_VC (n : Int) (v_ : Int) (w : World) (R : Ending → World → Prop) : Prop :=
  Br (decide (n < 1))
    (R (.returned (.tuple #[.slice none 0 0, .int .i64 1])) w)
    (Br (decide ((8 : Int) < n))
    (R (.returned (.tuple #[.slice none 0 0, .int .i64 1])) w)
    (LoopVC (S := Int × (Option Addr × Nat × Nat) × Int) (fun s_ w1 K122 => weirref1_Bytes_L122 R n s_.1 s_.2.1.1 s_.2.1.2.1 s_.2.1.2.2 s_.2.2 w1 K122) (v_, (none, 0, 0), 0) w))
def weirref1_Bytes_H : Hints := [(122, [(1, .int .u64), (6, .slice), (7, .int .i64)]), (250, [(8, .int .i64)])]
set_option maxRecDepth 100000 in
theorem weirref1_Bytes_of (n : Int) (v_ : Int) (w : World) (R : Ending → World → Prop) (hvc_ : weirref1_Bytes_VC n v_ w R) :
    Calls Tryz.prog 67 #[.int .i64 n, .int .u64 v_] w R :=
  calls_of_wpc callOk mixedOk (H := weirref1_Bytes_H) (args := [.int .i64 n, .int .u64 v_]) (fn := Tryz.f67) (c := bodyOf Tryz.f67) Tryz.func67 rfl (Nat.le_of_ble_eq_true rfl)
    (Eq.mp (by kernel_rfl : weirref1_Bytes_VC n v_ w R = wpc Tryz.prog callF Tryz.f67.ntmps weirref1_Bytes_H 1 (bodyOf Tryz.f67) (argEnv 0 [.int .i64 n, .int .u64 v_]) [] w (finish Tryz.prog callF Tryz.f67.results.toList R)) hvc_)

set_option maxRecDepth 100000 in
def weirref1_bits_L122 (R : Ending → World → Prop) (widthsA : Option Addr) (widthsn : Nat) (n : Int) (i : Int) (w1 : World) (K122 : (Int × Int → World → Prop)) : Prop :=
  Br (decide (i < (widthsn : Int)))
    (IdxVC widthsA widthsn 1 i fun a =>
  ∃ x : Int, w1.cell? a = some (.int .i64 x) ∧
  Br (decide (x < 1))
    (R (.returned (.int .i64 (-1))) w1)
    (IdxVC widthsA widthsn 1 i fun a1 =>
    ∃ x1 : Int, w1.cell? a1 = some (.int .i64 x1) ∧
    Br (decide ((32 : Int) < x1))
    (R (.returned (.int .i64 (-1))) w1)
    (IdxVC widthsA widthsn 1 i fun a2 =>
  ∃ x2 : Int, w1.cell? a2 = some (.int .i64 x2) ∧
  K122 (IntKind.i64.wrap (n + x2), IntKind.i64.wrap (i + 1)) w1)))
    (Br (decide (Int.tmod n 8 ≠ 0))
    (R (.returned (.int .i64 (-1))) w1)
    (R (.returned (.int .i64 n)) w1))
set_option maxRecDepth 100000 in
def weirref1_bits_VC (widthsA : Option Addr) (widthsn : Nat) (_widthsc : Nat) (w : World) (R : Ending → World → Prop) : Prop :=
  Br (decide ((64 : Int) < (widthsn : Int)))
    (R (.returned (.int .i64 (-1))) w)
    (LoopVC (S := Int × Int) (fun s_ w1 K122 => weirref1_bits_L122 R widthsA widthsn s_.1 s_.2 w1 K122) (0, 0) w)
def weirref1_bits_H : Hints := [(122, [(3, .int .i64), (4, .int .i64)])]
set_option maxRecDepth 100000 in
theorem weirref1_bits_of (widthsA : Option Addr) (widthsn : Nat) (widthsc : Nat) (w : World) (R : Ending → World → Prop) (hvc_ : weirref1_bits_VC widthsA widthsn widthsc w R) :
    Calls Tryz.prog 68 #[.slice widthsA widthsn widthsc] w R :=
  calls_of_wpc callOk mixedOk (H := weirref1_bits_H) (args := [.slice widthsA widthsn widthsc]) (fn := Tryz.f68) (c := bodyOf Tryz.f68) Tryz.func68 rfl (Nat.le_of_ble_eq_true rfl)
    (Eq.mp (by kernel_rfl : weirref1_bits_VC widthsA widthsn widthsc w R = wpc Tryz.prog callF Tryz.f68.ntmps weirref1_bits_H 1 (bodyOf Tryz.f68) (argEnv 0 [.slice widthsA widthsn widthsc]) [] w (finish Tryz.prog callF Tryz.f68.results.toList R)) hvc_)

set_option maxRecDepth 100000 in
def weirref1_power_L58 (R : Ending → World → Prop) (n : Int) (p : Int) (i : Int) (w1 : World) (K58 : (Int × Int → World → Prop)) : Prop :=
  Br (decide (i < n))
    (K58 (IntKind.i64.wrap (2 * p), IntKind.i64.wrap (i + 1)) w1)
    (R (.returned (.int .i64 p)) w1)
set_option maxRecDepth 100000 in
def weirref1_power_VC (n : Int) (w : World) (R : Ending → World → Prop) : Prop :=
  LoopVC (S := Int × Int) (fun s_ w1 K58 => weirref1_power_L58 R n s_.1 s_.2 w1 K58) (1, 0) w
def weirref1_power_H : Hints := [(58, [(3, .int .i64), (4, .int .i64)])]
set_option maxRecDepth 100000 in
theorem weirref1_power_of (n : Int) (w : World) (R : Ending → World → Prop) (hvc_ : weirref1_power_VC n w R) :
    Calls Tryz.prog 69 #[.int .i64 n] w R :=
  calls_of_wpc callOk mixedOk (H := weirref1_power_H) (args := [.int .i64 n]) (fn := Tryz.f69) (c := bodyOf Tryz.f69) Tryz.func69 rfl (Nat.le_of_ble_eq_true rfl)
    (Eq.mp (by kernel_rfl : weirref1_power_VC n w R = wpc Tryz.prog callF Tryz.f69.ntmps weirref1_power_H 1 (bodyOf Tryz.f69) (argEnv 0 [.int .i64 n]) [] w (finish Tryz.prog callF Tryz.f69.results.toList R)) hvc_)

set_option maxRecDepth 100000 in
def addr_Valid_VC (ip : IPV) (w : World) (R : Ending → World → Prop) : Prop :=
  NewVC w (.cells ip.cells.toArray 24) fun g1 w1 =>
  IPV.ex fun h => CellsAt w1 ⟨g1, 0, none⟩ 0 h.cells ∧
  Calls Tryz.prog 106 #[h.val] w1 (onRet (fun r_ w2 => ∃ x : Int, r_ = .int .i64 x ∧
  R (.returned (.bool (decide ((0 : Int) < x)))) w2)
    (fun ch w2 => R (.panicked ch) w2))
def addr_Valid_H : Hints := []
set_option maxRecDepth 100000 in
theorem addr_Valid_of (ip : IPV) (w : World) (R : Ending → World → Prop) (hvc_ : addr_Valid_VC ip w R) :
    Calls Tryz.prog 83 #[ip.val] w R :=
  calls_of_wpc callOk mixedOk (H := addr_Valid_H) (args := [ip.val]) (fn := Tryz.f83) (c := bodyOf Tryz.f83) Tryz.func83 rfl (Nat.le_of_ble_eq_true rfl)
    (Eq.mp (by kernel_rfl : addr_Valid_VC ip w R = wpc Tryz.prog callF Tryz.f83.ntmps addr_Valid_H 1 (bodyOf Tryz.f83) (argEnv 0 [ip.val]) [] w (finish Tryz.prog callF Tryz.f83.results.toList R)) hvc_)

set_option maxRecDepth 100000 in
def addr_size_VC (ip : IPV) (w : World) (R : Ending → World → Prop) : Prop :=
  NewVC w (.cells ip.cells.toArray 24) fun g1 w1 =>
  ∃ x : Int, w1.cell? ⟨g1, 0, none⟩ = some (.int .i64 x) ∧
  Br (decide (x = 6))
    (R (.returned (.int .i64 128)) w1)
    (∃ x1 : Int, w1.cell? ⟨g1, 0, none⟩ = some (.int .i64 x1) ∧
  Br (decide (x1 ≠ 4))
    (R (.returned (.int .i64 0)) w1)
    (SliceVC (some ⟨g1, 1, none⟩) 16 16 1 (some 4) none none fun sA sn _sc =>
    12 ≤ sn ∧
    NilVC sA fun p =>
    ∃ x0 : Int, ∃ x11 : Int, ∃ x2 : Int, ∃ x3 : Int, ∃ x4 : Int, ∃ x5 : Int, ∃ x6 : Int, ∃ x7 : Int, ∃ x8 : Int, ∃ x9 : Int, ∃ x10 : Int, ∃ x111 : Int, CellsAt w1 p 0 [.int .u8 x0, .int .u8 x11, .int .u8 x2, .int .u8 x3, .int .u8 x4, .int .u8 x5, .int .u8 x6, .int .u8 x7, .int .u8 x8, .int .u8 x9, .int .u8 x10, .int .u8 x111] ∧
    Br (!(((decide (x0 = 0)) && ((decide (x11 = 0)) && ((decide (x2 = 0)) && ((decide (x3 = 0)) && ((decide (x4 = 0)) && ((decide (x5 = 0)) && ((decide (x6 = 0)) && ((decide (x7 = 0)) && ((decide (x8 = 0)) && ((decide (x9 = 0)) && ((decide (x10 = 0)) && ((decide (x111 = 0)) && true))))))))))))))
    (R (.returned (.int .i64 0)) w1)
    (R (.returned (.int .i64 32)) w1)))
def addr_size_H : Hints := []
set_option maxRecDepth 100000 in
theorem addr_size_of (ip : IPV) (w : World) (R : Ending → World → Prop) (hvc_ : addr_size_VC ip w R) :
    Calls Tryz.prog 106 #[ip.val] w R :=
  calls_of_wpc callOk mixedOk (H := addr_size_H) (args := [ip.val]) (fn := Tryz.f106) (c := bodyOf Tryz.f106) Tryz.func106 rfl (Nat.le_of_ble_eq_true rfl)
    (Eq.mp (by kernel_rfl : addr_size_VC ip w R = wpc Tryz.prog callF Tryz.f106.ntmps addr_size_H 1 (bodyOf Tryz.f106) (argEnv 0 [ip.val]) [] w (finish Tryz.prog callF Tryz.f106.results.toList R)) hvc_)
end N6
end Go.Proofs.YthhgbpmihhljdaaGreatDoor
