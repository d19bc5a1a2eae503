/- WRITTEN BY a program of this session (vc.py): for each Go function the condition that is enough for its contract, and the theorem that it is. -/
import Derived.Test.YtdchpilghgnnoaaProg
import Derived.Test.YtdchpilghgnnoaaEngC
namespace Go.Proofs.Ytdchpilghgnnoaa
open Go.Eng
def bodyOf (fn : Func) : Code := match fn.body with | some c => c | none => .skip
def callF (f : Nat) : Bool := Nat.ble 3 f && Nat.ble f 79
theorem callAll : ((List.range 80).all fun f => !(callF f) || callableB Try.prog f) = true := by kernel_rfl
theorem callOk : ∀ f, callF f = true → callableB Try.prog f = true := by
  intro f hf
  have h := List.all_eq_true.1 callAll f (by simp [callF] at hf; simp; omega)
  simpa [hf] using h
theorem mixedOk : Try.prog.follows .mixedOrders = true := by kernel_rfl

def weirlaw1_ViewCursors_L32762 (R : Ending → World → Prop) (scriptA : Option Addr) (scriptn : Nat) (xA : Option Addr) (xn : Nat) (xc : Nat) (xA1 : Option Addr) (xn1 : Nat) (xc1 : Nat) (x : Option Addr) (x1 : Option Addr) (x2 : Option Addr) (g3 : Nat) (g5 : Nat) (i : Int) (w15 : World) (K32762 : (Int → World → Prop)) : Prop :=
  Br (decide (i < (scriptn : Int)))
    (IdxVC scriptA scriptn 3 i fun a =>
  ∃ x4 : Int, w15.cell? (a.add 1) = some (.int .i64 x4) ∧
  Br (decide (x4 = 1))
    (IdxVC scriptA scriptn 3 i fun a1 =>
    ∃ x01 : Int, ∃ x12 : Int, ∃ x21 : Int, CellsAt w15 a1 0 [.int .i64 x01, .int .i64 x12, .int .i64 x21] ∧
    Calls Try.prog 20 #[.pointer x1, .pointer (some ⟨g5, 0, none⟩), .slice xA1 xn1 xc1, .agg #[.int .i64 x01, .int .i64 x12, .int .i64 x21]] w15 (onRet (fun r_7 w16 => ∃ x5 : Bool, r_7 = .bool x5 ∧
    Br (!x5)
    (R (.returned (.bool false)) w16)
    (K32762 (IntKind.i64.wrap (i + 1)) w16))
      (fun ch7 w16 => R (.panicked ch7) w16)))
    (IdxVC scriptA scriptn 3 i fun a2 =>
    ∃ x02 : Int, ∃ x13 : Int, ∃ x22 : Int, CellsAt w15 a2 0 [.int .i64 x02, .int .i64 x13, .int .i64 x22] ∧
    Calls Try.prog 20 #[.pointer x, .pointer (some ⟨g3, 0, none⟩), .slice xA xn xc, .agg #[.int .i64 x02, .int .i64 x13, .int .i64 x22]] w15 (onRet (fun r_8 w17 => ∃ x6 : Bool, r_8 = .bool x6 ∧
    Br (!x6)
    (R (.returned (.bool false)) w17)
    (K32762 (IntKind.i64.wrap (i + 1)) w17))
      (fun ch8 w17 => R (.panicked ch8) w17))))
    (Calls Try.prog 21 #[.pointer x2] w15 (onRet (fun r_9 w18 => ∃ x7 : Int, r_9 = .int .i64 x7 ∧
  Br (decide (x7 = 1))
    (NilVC (some ⟨g3, 0, none⟩) fun p =>
    ∃ (xA2 : Option Addr) (xn2 xc2 : Nat), w18.cell? p = some (.slice xA2 xn2 xc2) ∧
    Calls Try.prog 16 #[.slice xA2 xn2 xc2] w18 (onRet (fun r_10 w19 => ∃ (xA3 : Option Addr) (xn3 xc3 : Nat), r_10 = .slice xA3 xn3 xc3 ∧
    Calls Try.prog 22 #[.slice xA xn xc, .slice xA3 xn3 xc3] w19 (onRet (fun r_11 w20 => ∃ x8 : Bool, r_11 = .bool x8 ∧
    Br x8
      (NilVC (some ⟨g5, 0, none⟩) fun p1 =>
      ∃ (xA4 : Option Addr) (xn4 xc4 : Nat), w20.cell? p1 = some (.slice xA4 xn4 xc4) ∧
      Calls Try.prog 16 #[.slice xA4 xn4 xc4] w20 (onRet (fun r_12 w21 => ∃ (xA5 : Option Addr) (xn5 xc5 : Nat), r_12 = .slice xA5 xn5 xc5 ∧
      Calls Try.prog 22 #[.slice xA1 xn1 xc1, .slice xA5 xn5 xc5] w21 (onRet (fun r_13 w22 => ∃ x9 : Bool, r_13 = .bool x9 ∧
      R (.returned (.bool x9)) w22)
        (fun ch13 w22 => R (.panicked ch13) w22)))
        (fun ch12 w21 => R (.panicked ch12) w21)))
      (R (.returned (.bool false)) w20))
      (fun ch11 w20 => R (.panicked ch11) w20)))
      (fun ch10 w19 => R (.panicked ch10) w19)))
    (R (.returned (.bool false)) w18))
    (fun ch9 w18 => R (.panicked ch9) w18)))
def weirlaw1_ViewCursors_VC (aA : Option Addr) (an : Nat) (ac : Nat) (bA : Option Addr) (bn : Nat) (bc : Nat) (scriptA : Option Addr) (scriptn : Nat) (_scriptc : Nat) (w : World) (R : Ending → World → Prop) : Prop :=
  Calls Try.prog 16 #[.slice aA an ac] w (onRet (fun r_ w1 => ∃ (xA : Option Addr) (xn xc : Nat), r_ = .slice xA xn xc ∧
  Calls Try.prog 16 #[.slice bA bn bc] w1 (onRet (fun r_1 w2 => ∃ (xA1 : Option Addr) (xn1 xc1 : Nat), r_1 = .slice xA1 xn1 xc1 ∧
  SliceVC xA xn xc 1 none (some (an : Int)) none fun sA sn sc =>
  Calls Try.prog 17 #[.slice sA sn sc] w2 (onRet (fun r_2 w3 => ∃ x : Option Addr, r_2 = .pointer x ∧
  SliceVC xA1 xn1 xc1 1 none (some (bn : Int)) none fun sA1 sn1 sc1 =>
  Calls Try.prog 17 #[.slice sA1 sn1 sc1] w3 (onRet (fun r_3 w4 => ∃ x1 : Option Addr, r_3 = .pointer x1 ∧
  NewVC w4 (.cells #[.int .u8 1, .int .u8 2, .int .u8 3] 5) fun g1 w5 =>
  Calls Try.prog 17 #[.slice (some ⟨g1, 0, none⟩) 3 3] w5 (onRet (fun r_4 w6 => ∃ x2 : Option Addr, r_4 = .pointer x2 ∧
  Br x.isNone
    (R (.returned (.bool false)) w6)
    (Br x1.isNone
      (R (.returned (.bool false)) w6)
      (Br x2.isNone
    (R (.returned (.bool false)) w6)
    (Calls Try.prog 18 #[.pointer x2, .int .i64 2] w6 (onRet (fun r_5 w7 => ∃ x0 : Int, ∃ x11 : Int, r_5 = .tuple #[.int .u64 x0, .int .i64 x11] ∧
  Br (decide (x0 ≠ 258))
    (R (.returned (.bool false)) w7)
    (Calls Try.prog 19 #[.int .i64 x11] w7 (onRet (fun r_6 w8 => ∃ x3 : Int, r_6 = .int .i64 x3 ∧
    Br (decide (x3 ≠ 0))
    (R (.returned (.bool false)) w8)
    (NewVC w8 (.cells #[] 5) fun g2 w9 =>
  AppVC Try.prog #[22, 22] 22 (.slice (some ⟨g2, 0, none⟩) 0 0) (.slice aA an ac) w9 fun lA ln lc w10 =>
  NewVC w10 (.cells #[.slice lA ln lc, .int .i64 0] 34) fun g3 w11 =>
  NewVC w11 (.cells #[] 5) fun g4 w12 =>
  AppVC Try.prog #[22, 22] 22 (.slice (some ⟨g4, 0, none⟩) 0 0) (.slice bA bn bc) w12 fun lA1 ln1 lc1 w13 =>
  NewVC w13 (.cells #[.slice lA1 ln1 lc1, .int .i64 0] 34) fun g5 w14 =>
  LoopVC (S := Int) (fun s w15 K32762 => weirlaw1_ViewCursors_L32762 R scriptA scriptn xA xn xc xA1 xn1 xc1 x x1 x2 g3 g5 s w15 K32762) 0 w14))
      (fun ch6 w8 => R (.panicked ch6) w8))))
    (fun ch5 w7 => R (.panicked ch5) w7))))))
    (fun ch4 w6 => R (.panicked ch4) w6)))
    (fun ch3 w4 => R (.panicked ch3) w4)))
    (fun ch2 w3 => R (.panicked ch2) w3)))
    (fun ch1 w2 => R (.panicked ch1) w2)))
    (fun ch w1 => R (.panicked ch) w1))
def weirlaw1_ViewCursors_H : Hints := [(32762, [(16, .int .i64)])]
set_option maxRecDepth 100000 in
theorem weirlaw1_ViewCursors_of (aA : Option Addr) (an : Nat) (ac : Nat) (bA : Option Addr) (bn : Nat) (bc : Nat) (scriptA : Option Addr) (scriptn : Nat) (scriptc : Nat) (w : World) (R : Ending → World → Prop) (h : weirlaw1_ViewCursors_VC aA an ac bA bn bc scriptA scriptn scriptc w R) :
    Calls Try.prog 3 #[.slice aA an ac, .slice bA bn bc, .slice scriptA scriptn scriptc] w R :=
  calls_of_wpc callOk mixedOk (H := weirlaw1_ViewCursors_H) (args := [.slice aA an ac, .slice bA bn bc, .slice scriptA scriptn scriptc]) (fn := Try.f3) (c := bodyOf Try.f3) Try.func3 rfl (Nat.le_of_ble_eq_true rfl)
    (Eq.mp (by kernel_rfl : weirlaw1_ViewCursors_VC aA an ac bA bn bc scriptA scriptn scriptc w R = wpc Try.prog callF Try.f3.ntmps weirlaw1_ViewCursors_H 1 (bodyOf Try.f3) (argEnv 0 [.slice aA an ac, .slice bA bn bc, .slice scriptA scriptn scriptc]) [] w (finish Try.prog callF Try.f3.results.toList R)) h)

def weirlaw1_ViewBuilders_L16378 (R : Ending → World → Prop) (scriptA : Option Addr) (scriptn : Nat) (x0 : Option Addr) (x01 : Option Addr) (x02 : Option Addr) (g2 : Nat) (g3 : Nat) (i : Int) (w18 : World) (K16378 : (Int → World → Prop)) : Prop :=
  Br (decide (i < (scriptn : Int)))
    (IdxVC scriptA scriptn 6 i fun a =>
  ∃ x9 : Int, w18.cell? (a.add 1) = some (.int .i64 x9) ∧
  Br (decide (x9 = 1))
    (IdxVC scriptA scriptn 6 i fun a1 =>
    ∃ x03 : Int, ∃ x13 : Int, ∃ x21 : Int, ∃ x31 : Int, ∃ x41 : Int, ∃ (x5A : Option Addr) (x5n x5c : Nat), CellsAt w18 a1 0 [.int .i64 x03, .int .i64 x13, .int .i64 x21, .int .i64 x31, .int .u64 x41, .slice x5A x5n x5c] ∧
    Calls Try.prog 26 #[.pointer x02, .pointer (some ⟨g3, 0, none⟩), .agg #[.int .i64 x03, .int .i64 x13, .int .i64 x21, .int .i64 x31, .int .u64 x41, .slice x5A x5n x5c]] w18 (onRet (fun r_12 w19 => ∃ x10 : Bool, r_12 = .bool x10 ∧
    Br (!x10)
    (R (.returned (.bool false)) w19)
    (K16378 (IntKind.i64.wrap (i + 1)) w19))
      (fun ch12 w19 => R (.panicked ch12) w19)))
    (IdxVC scriptA scriptn 6 i fun a2 =>
    ∃ x04 : Int, ∃ x14 : Int, ∃ x22 : Int, ∃ x32 : Int, ∃ x42 : Int, ∃ (x5A1 : Option Addr) (x5n1 x5c1 : Nat), CellsAt w18 a2 0 [.int .i64 x04, .int .i64 x14, .int .i64 x22, .int .i64 x32, .int .u64 x42, .slice x5A1 x5n1 x5c1] ∧
    Calls Try.prog 26 #[.pointer x01, .pointer (some ⟨g2, 0, none⟩), .agg #[.int .i64 x04, .int .i64 x14, .int .i64 x22, .int .i64 x32, .int .u64 x42, .slice x5A1 x5n1 x5c1]] w18 (onRet (fun r_13 w20 => ∃ x15 : Bool, r_13 = .bool x15 ∧
    Br (!x15)
    (R (.returned (.bool false)) w20)
    (K16378 (IntKind.i64.wrap (i + 1)) w20))
      (fun ch13 w20 => R (.panicked ch13) w20))))
    (DrawVC w18 fun S1 w21 =>
  NilVC (some ⟨g2, 0, none⟩) fun p =>
  ∃ (xA1 : Option Addr) (xn1 xc1 : Nat), (∀ w' : World, S1 w' → w'.cell? (p.add 1) = some (.slice xA1 xn1 xc1)) ∧
  Calls Try.prog 25 #[.pointer x01] w21 (onRet (fun r_14 w22 => ∃ (xA2 : Option Addr) (xn2 xc2 : Nat), r_14 = .slice xA2 xn2 xc2 ∧
  S1 w22 ∧
  Calls Try.prog 22 #[.slice xA2 xn2 xc2, .slice xA1 xn1 xc1] w22 (onRet (fun r_15 w23 => ∃ x16 : Bool, r_15 = .bool x16 ∧
  S1 w23 ∧
  Br x16
    (NilVC (some ⟨g3, 0, none⟩) fun p1 =>
    ∃ (xA3 : Option Addr) (xn3 xc3 : Nat), (∀ w' : World, S1 w' → w'.cell? (p1.add 1) = some (.slice xA3 xn3 xc3)) ∧
    Calls Try.prog 25 #[.pointer x02] w23 (onRet (fun r_16 w24 => ∃ (xA4 : Option Addr) (xn4 xc4 : Nat), r_16 = .slice xA4 xn4 xc4 ∧
    S1 w24 ∧
    Calls Try.prog 22 #[.slice xA4 xn4 xc4, .slice xA3 xn3 xc3] w24 (onRet (fun r_17 w25 => ∃ x17 : Bool, r_17 = .bool x17 ∧
    S1 w25 ∧
    Br x17
      ((Calls Try.prog 25 #[.pointer x0] w25 (onRet (fun r_18 w26 => ∃ (xA5 : Option Addr) (xn5 xc5 : Nat), r_18 = .slice xA5 xn5 xc5 ∧
      S1 w26 ∧
      NewVC w26 (.cells #[.int .u8 1, .int .u8 2] 5) fun g4 w27 =>
      S1 w27 ∧
      Calls Try.prog 22 #[.slice xA5 xn5 xc5, .slice (some ⟨g4, 0, none⟩) 2 2] w27 (onRet (fun r_19 w28 => ∃ x18 : Bool, r_19 = .bool x18 ∧
      S1 w28 ∧
      R (.returned (.bool x18)) w28)
        (fun _ _ => False)))
        (fun _ _ => False))) ∧
      (NewVC w25 (.cells #[.int .u8 1, .int .u8 2] 5) fun g5 w29 =>
      S1 w29 ∧
      Calls Try.prog 25 #[.pointer x0] w29 (onRet (fun r_20 w30 => ∃ (xA6 : Option Addr) (xn6 xc6 : Nat), r_20 = .slice xA6 xn6 xc6 ∧
      S1 w30 ∧
      Calls Try.prog 22 #[.slice xA6 xn6 xc6, .slice (some ⟨g5, 0, none⟩) 2 2] w30 (onRet (fun r_21 w31 => ∃ x19 : Bool, r_21 = .bool x19 ∧
      S1 w31 ∧
      R (.returned (.bool x19)) w31)
        (fun _ _ => False)))
        (fun _ _ => False))))
      ((R (.returned (.bool false)) w25) ∧
      (R (.returned (.bool false)) w25)))
      (fun _ _ => False)))
      (fun _ _ => False)))
    ((R (.returned (.bool false)) w23) ∧
    (R (.returned (.bool false)) w23)))
    (fun _ _ => False)))
    (fun _ _ => False)))
def weirlaw1_ViewBuilders_J254 (R : Ending → World → Prop) (m : Int) (n : Int) (scriptA : Option Addr) (scriptn : Nat) (x0 : Option Addr) (x01 : Option Addr) (x11 : Int) (x02 : Option Addr) (x12 : Int) (t68_ : Bool) (w12 : World) : Prop :=
  Br t68_
    (Br x02.isNone
      (Calls Try.prog 19 #[.int .i64 x12] w12 (onRet (fun r_9 w13 => ∃ x6 : Int, r_9 = .int .i64 x6 ∧
      R (.returned (.bool (decide (x6 = 1)))) w13)
        (fun ch9 w13 => R (.panicked ch9) w13)))
      (R (.returned (.bool false)) w12))
    (Br x01.isNone
    (R (.returned (.bool false)) w12)
    (Br x02.isNone
      (R (.returned (.bool false)) w12)
      (Calls Try.prog 19 #[.int .i64 x11] w12 (onRet (fun r_10 w14 => ∃ x7 : Int, r_10 = .int .i64 x7 ∧
      Br (decide (x7 ≠ 0))
        (R (.returned (.bool false)) w14)
        (Calls Try.prog 19 #[.int .i64 x12] w14 (onRet (fun r_11 w15 => ∃ x8 : Int, r_11 = .int .i64 x8 ∧
        Br (decide (x8 ≠ 0))
    (R (.returned (.bool false)) w15)
    (NewVC w15 (.cells #[.int .i64 m, .slice none 0 0] 49) fun g2 w16 =>
  NewVC w16 (.cells #[.int .i64 n, .slice none 0 0] 49) fun g3 w17 =>
  LoopVC (S := Int) (fun s w18 K16378 => weirlaw1_ViewBuilders_L16378 R scriptA scriptn x0 x01 x02 g2 g3 s w18 K16378) 0 w17))
          (fun ch11 w15 => R (.panicked ch11) w15))))
        (fun ch10 w14 => R (.panicked ch10) w14)))))
def weirlaw1_ViewBuilders_J126 (R : Ending → World → Prop) (m : Int) (n : Int) (scriptA : Option Addr) (scriptn : Nat) (x0 : Option Addr) (x01 : Option Addr) (x11 : Int) (x02 : Option Addr) (x12 : Int) (t55_ : Bool) (w10 : World) : Prop :=
  Br t55_
    (Br x01.isNone
      (Calls Try.prog 19 #[.int .i64 x11] w10 (onRet (fun r_8 w11 => ∃ x5 : Int, r_8 = .int .i64 x5 ∧
      R (.returned (.bool (decide (x5 = 1)))) w11)
        (fun ch8 w11 => R (.panicked ch8) w11)))
      (R (.returned (.bool false)) w10))
    (JoinVC (S := Bool) (fun J254 =>
      Br (decide (n < 0))
        (J254 true w10)
        (J254 (decide ((65535 : Int) < n)) w10))
    (fun s w12 => weirlaw1_ViewBuilders_J254 R m n scriptA scriptn x0 x01 x11 x02 x12 s w12))
def weirlaw1_ViewBuilders_VC (m : Int) (n : Int) (scriptA : Option Addr) (scriptn : Nat) (_scriptc : Nat) (w : World) (R : Ending → World → Prop) : Prop :=
  Calls Try.prog 23 #[.int .i64 3] w (onRet (fun r_ w1 => ∃ x0 : Option Addr, ∃ x1 : Int, r_ = .tuple #[.pointer x0, .int .i64 x1] ∧
  Br x0.isNone
    (R (.returned (.bool false)) w1)
    (Calls Try.prog 19 #[.int .i64 x1] w1 (onRet (fun r_1 w2 => ∃ x : Int, r_1 = .int .i64 x ∧
    Br (decide (x ≠ 0))
      (R (.returned (.bool false)) w2)
      (Calls Try.prog 24 #[.pointer x0, .int .i64 2, .int .u64 258] w2 (onRet (fun r_2 w3 => ∃ x2 : Int, r_2 = .int .i64 x2 ∧
      Calls Try.prog 19 #[.int .i64 x2] w3 (onRet (fun r_3 w4 => ∃ x3 : Int, r_3 = .int .i64 x3 ∧
      Br (decide (x3 ≠ 0))
        (R (.returned (.bool false)) w4)
        (Calls Try.prog 25 #[.pointer x0] w4 (onRet (fun r_4 w5 => ∃ (xA : Option Addr) (xn xc : Nat), r_4 = .slice xA xn xc ∧
        NewVC w5 (.cells #[.int .u8 1, .int .u8 2] 5) fun g1 w6 =>
        Calls Try.prog 22 #[.slice xA xn xc, .slice (some ⟨g1, 0, none⟩) 2 2] w6 (onRet (fun r_5 w7 => ∃ x4 : Bool, r_5 = .bool x4 ∧
        Br (!x4)
    (R (.returned (.bool false)) w7)
    (Calls Try.prog 23 #[.int .i64 m] w7 (onRet (fun r_6 w8 => ∃ x01 : Option Addr, ∃ x11 : Int, r_6 = .tuple #[.pointer x01, .int .i64 x11] ∧
  Calls Try.prog 23 #[.int .i64 n] w8 (onRet (fun r_7 w9 => ∃ x02 : Option Addr, ∃ x12 : Int, r_7 = .tuple #[.pointer x02, .int .i64 x12] ∧
  JoinVC (S := Bool) (fun J126 =>
      Br (decide (m < 0))
        (J126 true w9)
        (J126 (decide ((65535 : Int) < m)) w9))
    (fun s w10 => weirlaw1_ViewBuilders_J126 R m n scriptA scriptn x0 x01 x11 x02 x12 s w10))
    (fun ch7 w9 => R (.panicked ch7) w9)))
    (fun ch6 w8 => R (.panicked ch6) w8))))
          (fun ch5 w7 => R (.panicked ch5) w7)))
          (fun ch4 w5 => R (.panicked ch4) w5))))
        (fun ch3 w4 => R (.panicked ch3) w4)))
        (fun ch2 w3 => R (.panicked ch2) w3))))
      (fun ch1 w2 => R (.panicked ch1) w2))))
    (fun ch w1 => R (.panicked ch) w1))
def weirlaw1_ViewBuilders_H : Hints := [(126, [(55, .bool)]), (254, [(68, .bool)]), (16378, [(14, .int .i64)])]
set_option maxRecDepth 100000 in
theorem weirlaw1_ViewBuilders_of (m : Int) (n : Int) (scriptA : Option Addr) (scriptn : Nat) (scriptc : Nat) (w : World) (R : Ending → World → Prop) (h : weirlaw1_ViewBuilders_VC m n scriptA scriptn scriptc w R) :
    Calls Try.prog 4 #[.int .i64 m, .int .i64 n, .slice scriptA scriptn scriptc] w R :=
  calls_of_wpc callOk mixedOk (H := weirlaw1_ViewBuilders_H) (args := [.int .i64 m, .int .i64 n, .slice scriptA scriptn scriptc]) (fn := Try.f4) (c := bodyOf Try.f4) Try.func4 rfl (Nat.le_of_ble_eq_true rfl)
    (Eq.mp (by kernel_rfl : weirlaw1_ViewBuilders_VC m n scriptA scriptn scriptc w R = wpc Try.prog callF Try.f4.ntmps weirlaw1_ViewBuilders_H 1 (bodyOf Try.f4) (argEnv 0 [.int .i64 m, .int .i64 n, .slice scriptA scriptn scriptc]) [] w (finish Try.prog callF Try.f4.results.toList R)) h)

def weirlaw1_ViewBeside_J511 (R : Ending → World → Prop)   (w18 : World) : Prop :=
  Calls Try.prog 32 #[] w18 (onRet (fun r_15 w19 => ∃ x10 : Bool, r_15 = .bool x10 ∧
  R (.returned (.bool x10)) w19)
    (fun ch15 w19 => R (.panicked ch15) w19))
def weirlaw1_ViewBeside_J255 (R : Ending → World → Prop) (n : Int) (aheadn : Nat) (x0A1 : Option Addr) (x0n1 : Nat) (x0c1 : Nat) (x12 : Int) (xA : Option Addr) (xn : Nat) (xc : Nat)  (w13 : World) : Prop :=
  JoinVC (S := Unit) (fun J511 =>
      Calls Try.prog 19 #[.int .i64 x12] w13 (onRet (fun r_11 w14 => ∃ x7 : Int, r_11 = .int .i64 x7 ∧
      Br (decide (x7 = 0))
        (Calls Try.prog 29 #[.slice xA xn xc, .int .i64 (aheadn : Int), .int .i64 n] w14 (onRet (fun r_12 w15 => ∃ (x0A3 : Option Addr) (x0n3 x0c3 : Nat), ∃ x15 : Int, r_12 = .tuple #[.slice x0A3 x0n3 x0c3, .int .i64 x15] ∧
        Calls Try.prog 22 #[.slice x0A3 x0n3 x0c3, .slice x0A1 x0n1 x0c1] w15 (onRet (fun r_13 w16 => ∃ x8 : Bool, r_13 = .bool x8 ∧
        Br (!x8)
          (R (.returned (.bool false)) w16)
          (Calls Try.prog 19 #[.int .i64 x15] w16 (onRet (fun r_14 w17 => ∃ x9 : Int, r_14 = .int .i64 x9 ∧
          Br (decide (x9 ≠ 0))
          (R (.returned (.bool false)) w17)
          (J511 () w17))
            (fun ch14 w17 => R (.panicked ch14) w17))))
          (fun ch13 w16 => R (.panicked ch13) w16)))
          (fun ch12 w15 => R (.panicked ch12) w15)))
        (J511 () w14))
        (fun ch11 w14 => R (.panicked ch11) w14)))
    (fun _ w18 => weirlaw1_ViewBeside_J511 R w18)
def weirlaw1_ViewBeside_J127 (R : Ending → World → Prop) (n : Int) (aheadn : Nat) (widthsA : Option Addr) (widthsn : Nat) (widthsc : Nat) (x0A : Option Addr) (x0n : Nat) (x0c : Nat) (x11 : Int) (x2 : Int) (x0A1 : Option Addr) (x0n1 : Nat) (x0c1 : Nat) (x12 : Int) (xA : Option Addr) (xn : Nat) (xc : Nat)  (w8 : World) : Prop :=
  JoinVC (S := Unit) (fun J255 =>
      Calls Try.prog 19 #[.int .i64 x2] w8 (onRet (fun r_7 w9 => ∃ x4 : Int, r_7 = .int .i64 x4 ∧
      Br (decide (x4 = 0))
        (Calls Try.prog 28 #[.slice xA xn xc, .int .i64 (aheadn : Int), .slice widthsA widthsn widthsc] w9 (onRet (fun r_8 w10 => ∃ (x0A2 : Option Addr) (x0n2 x0c2 : Nat), ∃ x14 : Int, ∃ x21 : Int, r_8 = .tuple #[.slice x0A2 x0n2 x0c2, .int .i64 x14, .int .i64 x21] ∧
        Calls Try.prog 31 #[.slice x0A x0n x0c, .slice x0A2 x0n2 x0c2] w10 (onRet (fun r_9 w11 => ∃ x5 : Bool, r_9 = .bool x5 ∧
        Br (!x5)
          (R (.returned (.bool false)) w11)
          (Br (decide (x14 ≠ IntKind.i64.wrap (x11 + (aheadn : Int))))
            (R (.returned (.bool false)) w11)
            (Calls Try.prog 19 #[.int .i64 x21] w11 (onRet (fun r_10 w12 => ∃ x6 : Int, r_10 = .int .i64 x6 ∧
            Br (decide (x6 ≠ 0))
          (R (.returned (.bool false)) w12)
          (J255 () w12))
              (fun ch10 w12 => R (.panicked ch10) w12)))))
          (fun ch9 w11 => R (.panicked ch9) w11)))
          (fun ch8 w10 => R (.panicked ch8) w10)))
        (J255 () w9))
        (fun ch7 w9 => R (.panicked ch7) w9)))
    (fun _ w13 => weirlaw1_ViewBeside_J255 R n aheadn x0A1 x0n1 x0c1 x12 xA xn xc w13)
def weirlaw1_ViewBeside_VC (bA : Option Addr) (bn : Nat) (bc : Nat) (n : Int) (aheadA : Option Addr) (aheadn : Nat) (aheadc : Nat) (behindA : Option Addr) (behindn : Nat) (behindc : Nat) (widthsA : Option Addr) (widthsn : Nat) (widthsc : Nat) (w : World) (R : Ending → World → Prop) : Prop :=
  Calls Try.prog 27 #[.slice bA bn bc, .int .i64 0, .int .i64 n] w (onRet (fun r_ w1 => ∃ x0 : Int, ∃ x1 : Int, r_ = .tuple #[.int .u64 x0, .int .i64 x1] ∧
  Calls Try.prog 28 #[.slice bA bn bc, .int .i64 0, .slice widthsA widthsn widthsc] w1 (onRet (fun r_1 w2 => ∃ (x0A : Option Addr) (x0n x0c : Nat), ∃ x11 : Int, ∃ x2 : Int, r_1 = .tuple #[.slice x0A x0n x0c, .int .i64 x11, .int .i64 x2] ∧
  Calls Try.prog 29 #[.slice bA bn bc, .int .i64 0, .int .i64 n] w2 (onRet (fun r_2 w3 => ∃ (x0A1 : Option Addr) (x0n1 x0c1 : Nat), ∃ x12 : Int, r_2 = .tuple #[.slice x0A1 x0n1 x0c1, .int .i64 x12] ∧
  Calls Try.prog 30 #[.slice aheadA aheadn aheadc, .slice bA bn bc, .slice behindA behindn behindc] w3 (onRet (fun r_3 w4 => ∃ (xA : Option Addr) (xn xc : Nat), r_3 = .slice xA xn xc ∧
  JoinVC (S := Unit) (fun J127 =>
      Calls Try.prog 19 #[.int .i64 x1] w4 (onRet (fun r_4 w5 => ∃ x : Int, r_4 = .int .i64 x ∧
      Br (decide (x = 0))
        (Calls Try.prog 27 #[.slice xA xn xc, .int .i64 (aheadn : Int), .int .i64 n] w5 (onRet (fun r_5 w6 => ∃ x01 : Int, ∃ x13 : Int, r_5 = .tuple #[.int .u64 x01, .int .i64 x13] ∧
        Br (decide (x01 ≠ x0))
          (R (.returned (.bool false)) w6)
          (Calls Try.prog 19 #[.int .i64 x13] w6 (onRet (fun r_6 w7 => ∃ x3 : Int, r_6 = .int .i64 x3 ∧
          Br (decide (x3 ≠ 0))
          (R (.returned (.bool false)) w7)
          (J127 () w7))
            (fun ch6 w7 => R (.panicked ch6) w7))))
          (fun ch5 w6 => R (.panicked ch5) w6)))
        (J127 () w5))
        (fun ch4 w5 => R (.panicked ch4) w5)))
    (fun _ w8 => weirlaw1_ViewBeside_J127 R n aheadn widthsA widthsn widthsc x0A x0n x0c x11 x2 x0A1 x0n1 x0c1 x12 xA xn xc w8))
    (fun ch3 w4 => R (.panicked ch3) w4)))
    (fun ch2 w3 => R (.panicked ch2) w3)))
    (fun ch1 w2 => R (.panicked ch1) w2)))
    (fun ch w1 => R (.panicked ch) w1))
def weirlaw1_ViewBeside_H : Hints := [(127, []), (255, []), (511, [])]
set_option maxRecDepth 100000 in
theorem weirlaw1_ViewBeside_of (bA : Option Addr) (bn : Nat) (bc : Nat) (n : Int) (aheadA : Option Addr) (aheadn : Nat) (aheadc : Nat) (behindA : Option Addr) (behindn : Nat) (behindc : Nat) (widthsA : Option Addr) (widthsn : Nat) (widthsc : Nat) (w : World) (R : Ending → World → Prop) (h : weirlaw1_ViewBeside_VC bA bn bc n aheadA aheadn aheadc behindA behindn behindc widthsA widthsn widthsc w R) :
    Calls Try.prog 5 #[.slice bA bn bc, .int .i64 n, .slice aheadA aheadn aheadc, .slice behindA behindn behindc, .slice widthsA widthsn widthsc] w R :=
  calls_of_wpc callOk mixedOk (H := weirlaw1_ViewBeside_H) (args := [.slice bA bn bc, .int .i64 n, .slice aheadA aheadn aheadc, .slice behindA behindn behindc, .slice widthsA widthsn widthsc]) (fn := Try.f5) (c := bodyOf Try.f5) Try.func5 rfl (Nat.le_of_ble_eq_true rfl)
    (Eq.mp (by kernel_rfl : weirlaw1_ViewBeside_VC bA bn bc n aheadA aheadn aheadc behindA behindn behindc widthsA widthsn widthsc w R = wpc Try.prog callF Try.f5.ntmps weirlaw1_ViewBeside_H 1 (bodyOf Try.f5) (argEnv 0 [.slice bA bn bc, .int .i64 n, .slice aheadA aheadn aheadc, .slice behindA behindn behindc, .slice widthsA widthsn widthsc]) [] w (finish Try.prog callF Try.f5.results.toList R)) h)

def weirlaw1_ViewBack_VC (widthsA : Option Addr) (widthsn : Nat) (widthsc : Nat) (valuesA : Option Addr) (valuesn : Nat) (valuesc : Nat) (aheadA : Option Addr) (aheadn : Nat) (aheadc : Nat) (behindA : Option Addr) (behindn : Nat) (behindc : Nat) (w : World) (R : Ending → World → Prop) : Prop :=
  Calls Try.prog 33 #[.slice widthsA widthsn widthsc, .slice valuesA valuesn valuesc] w (onRet (fun r_ w1 => ∃ (x0A : Option Addr) (x0n x0c : Nat), ∃ x1 : Int, r_ = .tuple #[.slice x0A x0n x0c, .int .i64 x1] ∧
  Calls Try.prog 19 #[.int .i64 x1] w1 (onRet (fun r_1 w2 => ∃ x : Int, r_1 = .int .i64 x ∧
  Br (decide (x ≠ 0))
    (Calls Try.prog 32 #[] w2 (onRet (fun r_2 w3 => ∃ x2 : Bool, r_2 = .bool x2 ∧
    Br x2
      (R (.returned (.bool (decide ((x0n : Int) = 0)))) w3)
      (R (.returned (.bool false)) w3))
      (fun ch2 w3 => R (.panicked ch2) w3)))
    (Calls Try.prog 30 #[.slice aheadA aheadn aheadc, .slice x0A x0n x0c, .slice behindA behindn behindc] w2 (onRet (fun r_3 w4 => ∃ (xA : Option Addr) (xn xc : Nat), r_3 = .slice xA xn xc ∧
  Calls Try.prog 28 #[.slice xA xn xc, .int .i64 (aheadn : Int), .slice widthsA widthsn widthsc] w4 (onRet (fun r_4 w5 => ∃ (x0A1 : Option Addr) (x0n1 x0c1 : Nat), ∃ x11 : Int, ∃ x21 : Int, r_4 = .tuple #[.slice x0A1 x0n1 x0c1, .int .i64 x11, .int .i64 x21] ∧
  Calls Try.prog 33 #[.slice widthsA widthsn widthsc, .slice x0A1 x0n1 x0c1] w5 (onRet (fun r_5 w6 => ∃ (x0A2 : Option Addr) (x0n2 x0c2 : Nat), ∃ x12 : Int, r_5 = .tuple #[.slice x0A2 x0n2 x0c2, .int .i64 x12] ∧
  Calls Try.prog 32 #[] w6 (onRet (fun r_6 w7 => ∃ x3 : Bool, r_6 = .bool x3 ∧
  Br x3
    (Calls Try.prog 19 #[.int .i64 x21] w7 (onRet (fun r_7 w8 => ∃ x4 : Int, r_7 = .int .i64 x4 ∧
    Br (decide (x4 = 0))
      (Br (decide (x11 = IntKind.i64.wrap ((aheadn : Int) + (x0n : Int))))
        (Calls Try.prog 31 #[.slice x0A1 x0n1 x0c1, .slice valuesA valuesn valuesc] w8 (onRet (fun r_8 w9 => ∃ x5 : Bool, r_8 = .bool x5 ∧
        Br x5
          (Calls Try.prog 19 #[.int .i64 x12] w9 (onRet (fun r_9 w10 => ∃ x6 : Int, r_9 = .int .i64 x6 ∧
          Br (decide (x6 = 0))
            (Calls Try.prog 22 #[.slice x0A x0n x0c, .slice x0A2 x0n2 x0c2] w10 (onRet (fun r_10 w11 => ∃ x7 : Bool, r_10 = .bool x7 ∧
            R (.returned (.bool x7)) w11)
              (fun ch10 w11 => R (.panicked ch10) w11)))
            (R (.returned (.bool false)) w10))
            (fun ch9 w10 => R (.panicked ch9) w10)))
          (R (.returned (.bool false)) w9))
          (fun ch8 w9 => R (.panicked ch8) w9)))
        (R (.returned (.bool false)) w8))
      (R (.returned (.bool false)) w8))
      (fun ch7 w8 => R (.panicked ch7) w8)))
    (R (.returned (.bool false)) w7))
    (fun ch6 w7 => R (.panicked ch6) w7)))
    (fun ch5 w6 => R (.panicked ch5) w6)))
    (fun ch4 w5 => R (.panicked ch4) w5)))
    (fun ch3 w4 => R (.panicked ch3) w4))))
    (fun ch1 w2 => R (.panicked ch1) w2)))
    (fun ch w1 => R (.panicked ch) w1))
def weirlaw1_ViewBack_H : Hints := []
set_option maxRecDepth 100000 in
theorem weirlaw1_ViewBack_of (widthsA : Option Addr) (widthsn : Nat) (widthsc : Nat) (valuesA : Option Addr) (valuesn : Nat) (valuesc : Nat) (aheadA : Option Addr) (aheadn : Nat) (aheadc : Nat) (behindA : Option Addr) (behindn : Nat) (behindc : Nat) (w : World) (R : Ending → World → Prop) (h : weirlaw1_ViewBack_VC widthsA widthsn widthsc valuesA valuesn valuesc aheadA aheadn aheadc behindA behindn behindc w R) :
    Calls Try.prog 6 #[.slice widthsA widthsn widthsc, .slice valuesA valuesn valuesc, .slice aheadA aheadn aheadc, .slice behindA behindn behindc] w R :=
  calls_of_wpc callOk mixedOk (H := weirlaw1_ViewBack_H) (args := [.slice widthsA widthsn widthsc, .slice valuesA valuesn valuesc, .slice aheadA aheadn aheadc, .slice behindA behindn behindc]) (fn := Try.f6) (c := bodyOf Try.f6) Try.func6 rfl (Nat.le_of_ble_eq_true rfl)
    (Eq.mp (by kernel_rfl : weirlaw1_ViewBack_VC widthsA widthsn widthsc valuesA valuesn valuesc aheadA aheadn aheadc behindA behindn behindc w R = wpc Try.prog callF Try.f6.ntmps weirlaw1_ViewBack_H 1 (bodyOf Try.f6) (argEnv 0 [.slice widthsA widthsn widthsc, .slice valuesA valuesn valuesc, .slice aheadA aheadn aheadc, .slice behindA behindn behindc]) [] w (finish Try.prog callF Try.f6.results.toList R)) h)

def weirlaw1_ViewOneWay_VC (bA : Option Addr) (bn : Nat) (bc : Nat) (at_ : Int) (widthsA : Option Addr) (widthsn : Nat) (widthsc : Nat) (w : World) (R : Ending → World → Prop) : Prop :=
  Calls Try.prog 28 #[.slice bA bn bc, .int .i64 at_, .slice widthsA widthsn widthsc] w (onRet (fun r_ w1 => ∃ (x0A : Option Addr) (x0n x0c : Nat), ∃ x1 : Int, ∃ x2 : Int, r_ = .tuple #[.slice x0A x0n x0c, .int .i64 x1, .int .i64 x2] ∧
  Calls Try.prog 19 #[.int .i64 x2] w1 (onRet (fun r_1 w2 => ∃ x : Int, r_1 = .int .i64 x ∧
  Br (decide (x ≠ 0))
    (Calls Try.prog 32 #[] w2 (onRet (fun r_2 w3 => ∃ x3 : Bool, r_2 = .bool x3 ∧
    Br x3
      (Br (decide ((x0n : Int) = 0))
        (R (.returned (.bool (decide (x1 = 0)))) w3)
        (R (.returned (.bool false)) w3))
      (R (.returned (.bool false)) w3))
      (fun ch2 w3 => R (.panicked ch2) w3)))
    (Calls Try.prog 33 #[.slice widthsA widthsn widthsc, .slice x0A x0n x0c] w2 (onRet (fun r_3 w4 => ∃ (x0A1 : Option Addr) (x0n1 x0c1 : Nat), ∃ x11 : Int, r_3 = .tuple #[.slice x0A1 x0n1 x0c1, .int .i64 x11] ∧
  Calls Try.prog 32 #[] w4 (onRet (fun r_4 w5 => ∃ x4 : Bool, r_4 = .bool x4 ∧
  Br x4
    (Br (decide ((0 : Int) ≤ at_))
      (Br (decide (at_ ≤ x1))
        (Br (decide (x1 ≤ (bn : Int)))
          (Calls Try.prog 19 #[.int .i64 x11] w5 (onRet (fun r_5 w6 => ∃ x5 : Int, r_5 = .int .i64 x5 ∧
          Br (decide (x5 = 0))
            (SliceVC bA bn bc 1 (some at_) (some x1) none fun sA sn sc =>
            Calls Try.prog 22 #[.slice x0A1 x0n1 x0c1, .slice sA sn sc] w6 (onRet (fun r_6 w7 => ∃ x6 : Bool, r_6 = .bool x6 ∧
            R (.returned (.bool x6)) w7)
              (fun ch6 w7 => R (.panicked ch6) w7)))
            (R (.returned (.bool false)) w6))
            (fun ch5 w6 => R (.panicked ch5) w6)))
          (R (.returned (.bool false)) w5))
        (R (.returned (.bool false)) w5))
      (R (.returned (.bool false)) w5))
    (R (.returned (.bool false)) w5))
    (fun ch4 w5 => R (.panicked ch4) w5)))
    (fun ch3 w4 => R (.panicked ch3) w4))))
    (fun ch1 w2 => R (.panicked ch1) w2)))
    (fun ch w1 => R (.panicked ch) w1))
def weirlaw1_ViewOneWay_H : Hints := []
set_option maxRecDepth 100000 in
theorem weirlaw1_ViewOneWay_of (bA : Option Addr) (bn : Nat) (bc : Nat) (at_ : Int) (widthsA : Option Addr) (widthsn : Nat) (widthsc : Nat) (w : World) (R : Ending → World → Prop) (h : weirlaw1_ViewOneWay_VC bA bn bc at_ widthsA widthsn widthsc w R) :
    Calls Try.prog 7 #[.slice bA bn bc, .int .i64 at_, .slice widthsA widthsn widthsc] w R :=
  calls_of_wpc callOk mixedOk (H := weirlaw1_ViewOneWay_H) (args := [.slice bA bn bc, .int .i64 at_, .slice widthsA widthsn widthsc]) (fn := Try.f7) (c := bodyOf Try.f7) Try.func7 rfl (Nat.le_of_ble_eq_true rfl)
    (Eq.mp (by kernel_rfl : weirlaw1_ViewOneWay_VC bA bn bc at_ widthsA widthsn widthsc w R = wpc Try.prog callF Try.f7.ntmps weirlaw1_ViewOneWay_H 1 (bodyOf Try.f7) (argEnv 0 [.slice bA bn bc, .int .i64 at_, .slice widthsA widthsn widthsc]) [] w (finish Try.prog callF Try.f7.results.toList R)) h)

def weirlaw1_ViewShares_J4094 (R : Ending → World → Prop) (at_ : Int) (place : Int) (sA : Option Addr) (sn : Nat) (x0A : Option Addr) (x0n : Nat) (x0A1 : Option Addr) (x0n1 : Nat) (J2047 : (Unit → World → Prop)) (t138_ : Bool) (w10 : World) : Prop :=
  Br t138_
    (IdxVC sA sn 1 (IntKind.i64.wrap (at_ + place)) fun a3 =>
    SetVC w10 a3 (.int .u8 6) fun w11 =>
    IdxVC x0A x0n 1 place fun a4 =>
    ∃ x6 : Int, w11.cell? a4 = some (.int .u8 x6) ∧
    Br (decide (x6 ≠ 6))
      (R (.returned (.bool false)) w11)
      (IdxVC x0A1 x0n1 1 (IntKind.i64.wrap (at_ + place)) fun a5 =>
      ∃ x7 : Int, w11.cell? a5 = some (.int .u8 x7) ∧
      Br (decide (x7 ≠ 6))
      (R (.returned (.bool false)) w11)
      (J2047 () w11)))
    (J2047 () w10)
def weirlaw1_ViewShares_L134217722 (R : Ending → World → Prop) (bn : Nat) (xA : Option Addr) (xn : Nat) (xc : Nat) (sA : Option Addr) (sn : Nat) (x0n2 : Nat) (ln3 : Nat) (j1 : Int) (w30 : World) (K134217722 : (Int → World → Prop)) : Prop :=
  Br (decide (j1 < (bn : Int)))
    (IdxVC sA sn 1 j1 fun a7 =>
  ∃ x15 : Int, w30.cell? a7 = some (.int .u8 x15) ∧
  Br (decide (x15 ≠ 5))
    (R (.returned (.bool false)) w30)
    (K134217722 (IntKind.i64.wrap (j1 + 1)) w30))
    (DrawVC w30 fun S1 w31 =>
  Br (decide ((ln3 : Int) = IntKind.i64.wrap ((x0n2 : Int) + 1)))
    (SliceVC xA xn xc 1 (some (bn : Int)) none none fun sA1 sn1 sc1 =>
    Calls Try.prog 16 #[.slice none 0 0] w31 (onRet (fun r_13 w32 => ∃ (xA2 : Option Addr) (xn2 xc2 : Nat), r_13 = .slice xA2 xn2 xc2 ∧
    S1 w32 ∧
    Calls Try.prog 22 #[.slice sA1 sn1 sc1, .slice xA2 xn2 xc2] w32 (onRet (fun r_14 w33 => ∃ x16 : Bool, r_14 = .bool x16 ∧
    S1 w33 ∧
    R (.returned (.bool x16)) w33)
      (fun _ _ => False)))
      (fun _ _ => False)))
    (R (.returned (.bool false)) w31))
def weirlaw1_ViewShares_L33554426 (R : Ending → World → Prop) (bn : Nat) (lo : Int) (xA : Option Addr) (xn : Nat) (xc : Nat) (sA : Option Addr) (sn : Nat) (x0A2 : Option Addr) (x0n2 : Nat) (x0c2 : Nat) (j : Int) (w26 : World) (K33554426 : (Int → World → Prop)) : Prop :=
  Br (decide (j < (x0n2 : Int)))
    (IdxVC x0A2 x0n2 1 j fun a6 =>
  SetVC w26 a6 (.int .u8 5) fun w27 =>
  K33554426 (IntKind.i64.wrap (j + 1)) w27)
    (NewVC w26 (.cells #[.int .u8 254] 5) fun g4 w28 =>
  AppVC Try.prog #[22, 22] 22 (.slice x0A2 x0n2 x0c2) (.slice (some ⟨g4, 0, none⟩) 1 1) w28 fun _lA3 ln3 _lc3 w29 =>
  LoopVC (S := Int) (fun s w30 K134217722 => weirlaw1_ViewShares_L134217722 R bn xA xn xc sA sn x0n2 ln3 s w30 K134217722) lo w29)
def weirlaw1_ViewShares_J2047 (R : Ending → World → Prop) (bn : Nat) (n : Int) (lo : Int) (xA : Option Addr) (xn : Nat) (xc : Nat) (sA : Option Addr) (sn : Nat) (sc : Nat) (x0A : Option Addr) (x0n : Nat) (x0c : Nat) (x0A1 : Option Addr) (x0n1 : Nat) (x0c1 : Nat)  (w12 : World) : Prop :=
  Calls Try.prog 30 #[.slice xA xn xc, .slice none 0 0, .slice none 0 0] w12 (onRet (fun r_6 w13 => ∃ (xA1 : Option Addr) (xn1 xc1 : Nat), r_6 = .slice xA1 xn1 xc1 ∧
  NewVC w13 (.cells #[.int .u8 251] 5) fun g1 w14 =>
  AppVC Try.prog #[22, 22] 22 (.slice x0A x0n x0c) (.slice (some ⟨g1, 0, none⟩) 1 1) w14 fun _lA ln _lc w15 =>
  NewVC w15 (.cells #[.int .u8 252, .int .u8 252] 5) fun g2 w16 =>
  AppVC Try.prog #[22, 22] 22 (.slice x0A x0n x0c) (.slice (some ⟨g2, 0, none⟩) 2 2) w16 fun _lA1 ln1 _lc1 w17 =>
  NewVC w17 (.cells #[.int .u8 253, .int .u8 253, .int .u8 253] 5) fun g3 w18 =>
  AppVC Try.prog #[22, 22] 22 (.slice x0A1 x0n1 x0c1) (.slice (some ⟨g3, 0, none⟩) 3 3) w18 fun _lA2 ln2 _lc2 w19 =>
  Br (decide ((ln : Int) ≠ IntKind.i64.wrap (n + 1)))
    (R (.returned (.bool false)) w19)
    (Br (decide ((ln1 : Int) ≠ IntKind.i64.wrap (n + 2)))
      (R (.returned (.bool false)) w19)
      (Br (decide ((ln2 : Int) ≠ IntKind.i64.wrap ((bn : Int) + 3)))
        (R (.returned (.bool false)) w19)
        (Calls Try.prog 22 #[.slice xA xn xc, .slice xA1 xn1 xc1] w19 (onRet (fun r_7 w20 => ∃ x8 : Bool, r_7 = .bool x8 ∧
        Br (!x8)
    (R (.returned (.bool false)) w20)
    (Calls Try.prog 17 #[.slice sA sn sc] w20 (onRet (fun r_8 w21 => ∃ x9 : Option Addr, r_8 = .pointer x9 ∧
  Br x9.isNone
    (R (.returned (.bool (!(x9.isNone)))) w21)
    (Br (decide (lo < 0))
      (R (.returned (.bool (!(x9.isNone)))) w21)
      (Br (decide ((bn : Int) < lo))
    (R (.returned (.bool (!(x9.isNone)))) w21)
    (Calls Try.prog 34 #[.pointer x9, .int .i64 lo] w21 (onRet (fun r_9 w22 => ∃ x10 : Int, r_9 = .int .i64 x10 ∧
  Calls Try.prog 35 #[.pointer x9, .int .i64 (IntKind.i64.wrap ((bn : Int) - lo))] w22 (onRet (fun r_10 w23 => ∃ (x0A2 : Option Addr) (x0n2 x0c2 : Nat), ∃ x12 : Int, r_10 = .tuple #[.slice x0A2 x0n2 x0c2, .int .i64 x12] ∧
  Calls Try.prog 19 #[.int .i64 x10] w23 (onRet (fun r_11 w24 => ∃ x13 : Int, r_11 = .int .i64 x13 ∧
  Br (decide (x13 ≠ 0))
    (R (.returned (.bool false)) w24)
    (Calls Try.prog 19 #[.int .i64 x12] w24 (onRet (fun r_12 w25 => ∃ x14 : Int, r_12 = .int .i64 x14 ∧
    Br (decide (x14 ≠ 0))
      (R (.returned (.bool false)) w25)
      (Br (decide ((x0n2 : Int) ≠ IntKind.i64.wrap ((bn : Int) - lo)))
    (R (.returned (.bool false)) w25)
    (LoopVC (S := Int) (fun s w26 K33554426 => weirlaw1_ViewShares_L33554426 R bn lo xA xn xc sA sn x0A2 x0n2 x0c2 s w26 K33554426) 0 w25)))
      (fun ch12 w25 => R (.panicked ch12) w25))))
    (fun ch11 w24 => R (.panicked ch11) w24)))
    (fun ch10 w23 => R (.panicked ch10) w23)))
    (fun ch9 w22 => R (.panicked ch9) w22))))))
    (fun ch8 w21 => R (.panicked ch8) w21))))
          (fun ch7 w20 => R (.panicked ch7) w20))))))
    (fun ch6 w13 => R (.panicked ch6) w13))
def weirlaw1_ViewShares_L8186 (R : Ending → World → Prop) (bn : Nat) (at_ : Int) (n : Int) (place : Int) (lo : Int) (xA : Option Addr) (xn : Nat) (xc : Nat) (sA : Option Addr) (sn : Nat) (sc : Nat) (x0A : Option Addr) (x0n : Nat) (x0c : Nat) (x0A1 : Option Addr) (x0n1 : Nat) (x0c1 : Nat) (i1 : Int) (w9 : World) (K8186 : (Int → World → Prop)) : Prop :=
  Br (decide (i1 < n))
    (IdxVC sA sn 1 (IntKind.i64.wrap (at_ + i1)) fun a1 =>
  ∃ x4 : Int, w9.cell? a1 = some (.int .u8 x4) ∧
  Br (decide (x4 ≠ IntKind.u8.wrap (IntKind.i64.wrap (7 + Int.tmod i1 200))))
    (R (.returned (.bool false)) w9)
    (IdxVC x0A1 x0n1 1 (IntKind.i64.wrap (at_ + i1)) fun a2 =>
    ∃ x5 : Int, w9.cell? a2 = some (.int .u8 x5) ∧
    Br (decide (x5 ≠ IntKind.u8.wrap (IntKind.i64.wrap (7 + Int.tmod i1 200))))
    (R (.returned (.bool false)) w9)
    (K8186 (IntKind.i64.wrap (i1 + 1)) w9)))
    (JoinVC (S := Unit) (fun J2047 =>
      JoinVC (S := Bool) (fun J4094 =>
          Br (decide ((0 : Int) ≤ place))
            (J4094 (decide (place < n)) w9)
            (J4094 false w9))
        (fun s w10 => weirlaw1_ViewShares_J4094 R at_ place sA sn x0A x0n x0A1 x0n1 J2047 s w10))
    (fun _ w12 => weirlaw1_ViewShares_J2047 R bn n lo xA xn xc sA sn sc x0A x0n x0c x0A1 x0n1 x0c1 w12))
def weirlaw1_ViewShares_L4090 (R : Ending → World → Prop) (bn : Nat) (at_ : Int) (n : Int) (place : Int) (lo : Int) (xA : Option Addr) (xn : Nat) (xc : Nat) (sA : Option Addr) (sn : Nat) (sc : Nat) (x0A : Option Addr) (x0n : Nat) (x0c : Nat) (x0A1 : Option Addr) (x0n1 : Nat) (x0c1 : Nat) (i : Int) (w7 : World) (K4090 : (Int → World → Prop)) : Prop :=
  Br (decide (i < (x0n : Int)))
    (IdxVC x0A x0n 1 i fun a =>
  SetVC w7 a (.int .u8 (IntKind.u8.wrap (IntKind.i64.wrap (7 + Int.tmod i 200)))) fun w8 =>
  K4090 (IntKind.i64.wrap (i + 1)) w8)
    (LoopVC (S := Int) (fun s w9 K8186 => weirlaw1_ViewShares_L8186 R bn at_ n place lo xA xn xc sA sn sc x0A x0n x0c x0A1 x0n1 x0c1 s w9 K8186) 0 w7)
def weirlaw1_ViewShares_VC (bA : Option Addr) (bn : Nat) (bc : Nat) (at_ : Int) (n : Int) (place : Int) (lo : Int) (w : World) (R : Ending → World → Prop) : Prop :=
  Calls Try.prog 16 #[.slice bA bn bc] w (onRet (fun r_ w1 => ∃ (xA : Option Addr) (xn xc : Nat), r_ = .slice xA xn xc ∧
  SliceVC xA xn xc 1 none (some (bn : Int)) none fun sA sn sc =>
  Calls Try.prog 29 #[.slice sA sn sc, .int .i64 at_, .int .i64 n] w1 (onRet (fun r_1 w2 => ∃ (x0A : Option Addr) (x0n x0c : Nat), ∃ x1 : Int, r_1 = .tuple #[.slice x0A x0n x0c, .int .i64 x1] ∧
  Calls Try.prog 29 #[.slice sA sn sc, .int .i64 0, .int .i64 (bn : Int)] w2 (onRet (fun r_2 w3 => ∃ (x0A1 : Option Addr) (x0n1 x0c1 : Nat), ∃ x11 : Int, r_2 = .tuple #[.slice x0A1 x0n1 x0c1, .int .i64 x11] ∧
  Calls Try.prog 19 #[.int .i64 x11] w3 (onRet (fun r_3 w4 => ∃ x : Int, r_3 = .int .i64 x ∧
  Br (decide (x ≠ 0))
    (R (.returned (.bool false)) w4)
    (Br (decide ((x0n1 : Int) ≠ (bn : Int)))
      (R (.returned (.bool false)) w4)
      (Calls Try.prog 32 #[] w4 (onRet (fun r_4 w5 => ∃ x2 : Bool, r_4 = .bool x2 ∧
      Br (!x2)
    (R (.returned (.bool false)) w5)
    (Calls Try.prog 19 #[.int .i64 x1] w5 (onRet (fun r_5 w6 => ∃ x3 : Int, r_5 = .int .i64 x3 ∧
  Br (decide (x3 ≠ 0))
    (R (.returned (.bool (decide ((x0n : Int) = 0)))) w6)
    (Br (decide ((x0n : Int) ≠ n))
    (R (.returned (.bool false)) w6)
    (Br (decide (at_ < 0))
      (R (.returned (.bool false)) w6)
      (Br (decide (n < 0))
        (R (.returned (.bool false)) w6)
        (Br (decide (IntKind.i64.wrap ((bn : Int) - at_) < n))
    (R (.returned (.bool false)) w6)
    (LoopVC (S := Int) (fun s w7 K4090 => weirlaw1_ViewShares_L4090 R bn at_ n place lo xA xn xc sA sn sc x0A x0n x0c x0A1 x0n1 x0c1 s w7 K4090) 0 w6))))))
    (fun ch5 w6 => R (.panicked ch5) w6))))
        (fun ch4 w5 => R (.panicked ch4) w5)))))
    (fun ch3 w4 => R (.panicked ch3) w4)))
    (fun ch2 w3 => R (.panicked ch2) w3)))
    (fun ch1 w2 => R (.panicked ch1) w2)))
    (fun ch w1 => R (.panicked ch) w1))
def weirlaw1_ViewShares_H : Hints := [(4090, [(17, .int .i64)]), (8186, [(18, .int .i64)]), (4094, [(138, .bool)]), (2047, []), (33554426, [(27, .int .i64)]), (134217722, [(29, .int .i64)])]
set_option maxRecDepth 100000 in
theorem weirlaw1_ViewShares_of (bA : Option Addr) (bn : Nat) (bc : Nat) (at_ : Int) (n : Int) (place : Int) (lo : Int) (w : World) (R : Ending → World → Prop) (h : weirlaw1_ViewShares_VC bA bn bc at_ n place lo w R) :
    Calls Try.prog 8 #[.slice bA bn bc, .int .i64 at_, .int .i64 n, .int .i64 place, .int .i64 lo] w R :=
  calls_of_wpc callOk mixedOk (H := weirlaw1_ViewShares_H) (args := [.slice bA bn bc, .int .i64 at_, .int .i64 n, .int .i64 place, .int .i64 lo]) (fn := Try.f8) (c := bodyOf Try.f8) Try.func8 rfl (Nat.le_of_ble_eq_true rfl)
    (Eq.mp (by kernel_rfl : weirlaw1_ViewShares_VC bA bn bc at_ n place lo w R = wpc Try.prog callF Try.f8.ntmps weirlaw1_ViewShares_H 1 (bodyOf Try.f8) (argEnv 0 [.slice bA bn bc, .int .i64 at_, .int .i64 n, .int .i64 place, .int .i64 lo]) [] w (finish Try.prog callF Try.f8.results.toList R)) h)

def weirlaw1_ViewLooks_VC (scriptA : Option Addr) (scriptn : Nat) (scriptc : Nat) (w : World) (R : Ending → World → Prop) : Prop :=
  Calls Try.prog 32 #[] w (onRet (fun r_ w1 => ∃ x : Bool, r_ = .bool x ∧
  Br x
    (Calls Try.prog 36 #[.slice scriptA scriptn scriptc, .int .i64 1, .int .i64 1] w1 (onRet (fun r_1 w2 => ∃ x1 : Bool, r_1 = .bool x1 ∧
    Br x1
      (Calls Try.prog 36 #[.slice scriptA scriptn scriptc, .int .i64 4, .int .i64 4] w2 (onRet (fun r_2 w3 => ∃ x2 : Bool, r_2 = .bool x2 ∧
      R (.returned (.bool x2)) w3)
        (fun ch2 w3 => R (.panicked ch2) w3)))
      (R (.returned (.bool false)) w2))
      (fun ch1 w2 => R (.panicked ch1) w2)))
    (R (.returned (.bool false)) w1))
    (fun ch w1 => R (.panicked ch) w1))
def weirlaw1_ViewLooks_H : Hints := []
set_option maxRecDepth 100000 in
theorem weirlaw1_ViewLooks_of (scriptA : Option Addr) (scriptn : Nat) (scriptc : Nat) (w : World) (R : Ending → World → Prop) (h : weirlaw1_ViewLooks_VC scriptA scriptn scriptc w R) :
    Calls Try.prog 9 #[.slice scriptA scriptn scriptc] w R :=
  calls_of_wpc callOk mixedOk (H := weirlaw1_ViewLooks_H) (args := [.slice scriptA scriptn scriptc]) (fn := Try.f9) (c := bodyOf Try.f9) Try.func9 rfl (Nat.le_of_ble_eq_true rfl)
    (Eq.mp (by kernel_rfl : weirlaw1_ViewLooks_VC scriptA scriptn scriptc w R = wpc Try.prog callF Try.f9.ntmps weirlaw1_ViewLooks_H 1 (bodyOf Try.f9) (argEnv 0 [.slice scriptA scriptn scriptc]) [] w (finish Try.prog callF Try.f9.results.toList R)) h)

def weirlaw1_ViewFields_VC (scriptA : Option Addr) (scriptn : Nat) (scriptc : Nat) (w : World) (R : Ending → World → Prop) : Prop :=
  Calls Try.prog 32 #[] w (onRet (fun r_ w1 => ∃ x : Bool, r_ = .bool x ∧
  Br x
    (Calls Try.prog 36 #[.slice scriptA scriptn scriptc, .int .i64 2, .int .i64 3] w1 (onRet (fun r_1 w2 => ∃ x1 : Bool, r_1 = .bool x1 ∧
    R (.returned (.bool x1)) w2)
      (fun ch1 w2 => R (.panicked ch1) w2)))
    (R (.returned (.bool false)) w1))
    (fun ch w1 => R (.panicked ch) w1))
def weirlaw1_ViewFields_H : Hints := []
set_option maxRecDepth 100000 in
theorem weirlaw1_ViewFields_of (scriptA : Option Addr) (scriptn : Nat) (scriptc : Nat) (w : World) (R : Ending → World → Prop) (h : weirlaw1_ViewFields_VC scriptA scriptn scriptc w R) :
    Calls Try.prog 10 #[.slice scriptA scriptn scriptc] w R :=
  calls_of_wpc callOk mixedOk (H := weirlaw1_ViewFields_H) (args := [.slice scriptA scriptn scriptc]) (fn := Try.f10) (c := bodyOf Try.f10) Try.func10 rfl (Nat.le_of_ble_eq_true rfl)
    (Eq.mp (by kernel_rfl : weirlaw1_ViewFields_VC scriptA scriptn scriptc w R = wpc Try.prog callF Try.f10.ntmps weirlaw1_ViewFields_H 1 (bodyOf Try.f10) (argEnv 0 [.slice scriptA scriptn scriptc]) [] w (finish Try.prog callF Try.f10.results.toList R)) h)

def weirlaw1_ViewPlays_VC (scriptA : Option Addr) (scriptn : Nat) (scriptc : Nat) (w : World) (R : Ending → World → Prop) : Prop :=
  Calls Try.prog 32 #[] w (onRet (fun r_ w1 => ∃ x : Bool, r_ = .bool x ∧
  Br x
    (Calls Try.prog 36 #[.slice scriptA scriptn scriptc, .int .i64 1, .int .i64 4] w1 (onRet (fun r_1 w2 => ∃ x1 : Bool, r_1 = .bool x1 ∧
    R (.returned (.bool x1)) w2)
      (fun ch1 w2 => R (.panicked ch1) w2)))
    (R (.returned (.bool false)) w1))
    (fun ch w1 => R (.panicked ch) w1))
def weirlaw1_ViewPlays_H : Hints := []
set_option maxRecDepth 100000 in
theorem weirlaw1_ViewPlays_of (scriptA : Option Addr) (scriptn : Nat) (scriptc : Nat) (w : World) (R : Ending → World → Prop) (h : weirlaw1_ViewPlays_VC scriptA scriptn scriptc w R) :
    Calls Try.prog 11 #[.slice scriptA scriptn scriptc] w R :=
  calls_of_wpc callOk mixedOk (H := weirlaw1_ViewPlays_H) (args := [.slice scriptA scriptn scriptc]) (fn := Try.f11) (c := bodyOf Try.f11) Try.func11 rfl (Nat.le_of_ble_eq_true rfl)
    (Eq.mp (by kernel_rfl : weirlaw1_ViewPlays_VC scriptA scriptn scriptc w R = wpc Try.prog callF Try.f11.ntmps weirlaw1_ViewPlays_H 1 (bodyOf Try.f11) (argEnv 0 [.slice scriptA scriptn scriptc]) [] w (finish Try.prog callF Try.f11.results.toList R)) h)

def weirlaw1_ViewAgain_L4090 (R : Ending → World → Prop) (scriptA : Option Addr) (scriptn : Nat) (size1 : Int) (few1 : Int) (g1 : Nat) (g2 : Nat) (g3 : Nat) (n : Int) (w6 : World) (K4090 : (Int → World → Prop)) : Prop :=
  Br (decide (n < IntKind.i64.wrap (2 * (scriptn : Int))))
    (DivVC (scriptn : Int) (
  IdxVC scriptA scriptn 6 (Int.tmod (IntKind.i64.wrap (IntKind.i64.wrap (Int.tdiv n 2) + Int.tmod n 2)) (scriptn : Int)) fun a =>
  ∃ x0 : Int, ∃ (x1A : Option Addr) (x1n x1c : Nat), ∃ x2 : Int, ∃ x3 : Int, ∃ (x4A : Option Addr) (x4n x4c : Nat), ∃ (x5A : Option Addr) (x5n x5c : Nat), CellsAt w6 a 0 [.int .i64 x0, .slice x1A x1n x1c, .int .i64 x2, .int .i64 x3, .slice x4A x4n x4c, .slice x5A x5n x5c] ∧
  NewVC w6 (.cells #[.int .i64 0, .slice none 0 0, .int .i64 0, .int .i64 0, .slice none 0 0, .slice none 0 0] 75) fun g4 w7 =>
  SetVC w7 ⟨g4, 0, none⟩ (.int .i64 x0) fun w8 =>
  SetVC w8 ⟨g4, 1, none⟩ (.slice x1A x1n x1c) fun w9 =>
  SetVC w9 ⟨g4, 2, none⟩ (.int .i64 x2) fun w10 =>
  SetVC w10 ⟨g4, 3, none⟩ (.int .i64 x3) fun w11 =>
  SetVC w11 ⟨g4, 4, none⟩ (.slice x4A x4n x4c) fun w12 =>
  SetVC w12 ⟨g4, 5, none⟩ (.slice x5A x5n x5c) fun w13 =>
  ∃ (xA : Option Addr) (xn xc : Nat), w13.cell? ⟨g4, 1, none⟩ = some (.slice xA xn xc) ∧
  Calls Try.prog 37 #[.slice (some ⟨g1, 0, none⟩) size1.toNat size1.toNat, .slice xA xn xc] w13 (onRet (fun r_ w14 => r_ = .tuple #[] ∧
  ∃ (xA1 : Option Addr) (xn1 xc1 : Nat), w14.cell? ⟨g4, 4, none⟩ = some (.slice xA1 xn1 xc1) ∧
  Calls Try.prog 38 #[.slice (some ⟨g2, 0, none⟩) few1.toNat few1.toNat, .slice xA1 xn1 xc1, .int .i64 8] w14 (onRet (fun r_1 w15 => r_1 = .tuple #[] ∧
  ∃ (xA2 : Option Addr) (xn2 xc2 : Nat), w15.cell? ⟨g4, 5, none⟩ = some (.slice xA2 xn2 xc2) ∧
  Calls Try.prog 38 #[.slice (some ⟨g3, 0, none⟩) few1.toNat few1.toNat, .slice xA2 xn2 xc2, .int .i64 1] w15 (onRet (fun r_2 w16 => r_2 = .tuple #[] ∧
  IdxVC scriptA scriptn 6 (IntKind.i64.wrap (Int.tdiv n 2)) fun a1 =>
  ∃ x01 : Int, ∃ (x1A1 : Option Addr) (x1n1 x1c1 : Nat), ∃ x21 : Int, ∃ x31 : Int, ∃ (x4A1 : Option Addr) (x4n1 x4c1 : Nat), ∃ (x5A1 : Option Addr) (x5n1 x5c1 : Nat), CellsAt w16 a1 0 [.int .i64 x01, .slice x1A1 x1n1 x1c1, .int .i64 x21, .int .i64 x31, .slice x4A1 x4n1 x4c1, .slice x5A1 x5n1 x5c1] ∧
  NewVC w16 (.cells #[.int .i64 0, .slice none 0 0, .int .i64 0, .int .i64 0, .slice none 0 0, .slice none 0 0] 75) fun g5 w17 =>
  SetVC w17 ⟨g5, 0, none⟩ (.int .i64 x01) fun w18 =>
  SetVC w18 ⟨g5, 1, none⟩ (.slice x1A1 x1n1 x1c1) fun w19 =>
  SetVC w19 ⟨g5, 2, none⟩ (.int .i64 x21) fun w20 =>
  SetVC w20 ⟨g5, 3, none⟩ (.int .i64 x31) fun w21 =>
  SetVC w21 ⟨g5, 4, none⟩ (.slice x4A1 x4n1 x4c1) fun w22 =>
  SetVC w22 ⟨g5, 5, none⟩ (.slice x5A1 x5n1 x5c1) fun w23 =>
  NewVC w23 (.cells #[] 5) fun g6 w24 =>
  AppVC Try.prog #[22, 22] 22 (.slice (some ⟨g6, 0, none⟩) 0 0) (.slice (some ⟨g1, 0, none⟩) size1.toNat size1.toNat) w24 fun lA ln lc w25 =>
  SetVC w25 ⟨g5, 1, none⟩ (.slice lA ln lc) fun w26 =>
  NewVC w26 (.cells #[] 3) fun g7 w27 =>
  AppVC Try.prog #[55, 55] 55 (.slice (some ⟨g7, 0, none⟩) 0 0) (.slice (some ⟨g2, 0, none⟩) few1.toNat few1.toNat) w27 fun lA1 ln1 lc1 w28 =>
  SetVC w28 ⟨g5, 4, none⟩ (.slice lA1 ln1 lc1) fun w29 =>
  NewVC w29 (.cells #[] 3) fun g8 w30 =>
  AppVC Try.prog #[55, 55] 55 (.slice (some ⟨g8, 0, none⟩) 0 0) (.slice (some ⟨g3, 0, none⟩) few1.toNat few1.toNat) w30 fun lA2 ln2 lc2 w31 =>
  SetVC w31 ⟨g5, 5, none⟩ (.slice lA2 ln2 lc2) fun w32 =>
  ∃ x02 : Int, ∃ (x1A2 : Option Addr) (x1n2 x1c2 : Nat), ∃ x22 : Int, ∃ x32 : Int, ∃ (x4A2 : Option Addr) (x4n2 x4c2 : Nat), ∃ (x5A2 : Option Addr) (x5n2 x5c2 : Nat), CellsAt w32 ⟨g5, 0, none⟩ 0 [.int .i64 x02, .slice x1A2 x1n2 x1c2, .int .i64 x22, .int .i64 x32, .slice x4A2 x4n2 x4c2, .slice x5A2 x5n2 x5c2] ∧
  NewVC w32 (.cells #[.int .i64 0, .slice none 0 0, .int .i64 0, .int .i64 0, .slice none 0 0, .slice none 0 0] 75) fun g9 w33 =>
  SetVC w33 ⟨g9, 0, none⟩ (.int .i64 x02) fun w34 =>
  SetVC w34 ⟨g9, 1, none⟩ (.slice x1A2 x1n2 x1c2) fun w35 =>
  SetVC w35 ⟨g9, 2, none⟩ (.int .i64 x22) fun w36 =>
  SetVC w36 ⟨g9, 3, none⟩ (.int .i64 x32) fun w37 =>
  SetVC w37 ⟨g9, 4, none⟩ (.slice x4A2 x4n2 x4c2) fun w38 =>
  SetVC w38 ⟨g9, 5, none⟩ (.slice x5A2 x5n2 x5c2) fun w39 =>
  SetVC w39 ⟨g9, 1, none⟩ (.slice (some ⟨g1, 0, none⟩) size1.toNat size1.toNat) fun w40 =>
  SetVC w40 ⟨g9, 4, none⟩ (.slice (some ⟨g2, 0, none⟩) few1.toNat few1.toNat) fun w41 =>
  SetVC w41 ⟨g9, 5, none⟩ (.slice (some ⟨g3, 0, none⟩) few1.toNat few1.toNat) fun w42 =>
  ∃ x03 : Int, ∃ (x1A3 : Option Addr) (x1n3 x1c3 : Nat), ∃ x23 : Int, ∃ x33 : Int, ∃ (x4A3 : Option Addr) (x4n3 x4c3 : Nat), ∃ (x5A3 : Option Addr) (x5n3 x5c3 : Nat), CellsAt w42 ⟨g9, 0, none⟩ 0 [.int .i64 x03, .slice x1A3 x1n3 x1c3, .int .i64 x23, .int .i64 x33, .slice x4A3 x4n3 x4c3, .slice x5A3 x5n3 x5c3] ∧
  Calls Try.prog 39 #[.agg #[.int .i64 x03, .slice x1A3 x1n3 x1c3, .int .i64 x23, .int .i64 x33, .slice x4A3 x4n3 x4c3, .slice x5A3 x5n3 x5c3]] w42 (onRet (fun r_3 w43 => ∃ x : Bool, r_3 = .bool x ∧
  Br (!x)
    (R (.returned (.bool false)) w43)
    (∃ (xA3 : Option Addr) (xn3 xc3 : Nat), w43.cell? ⟨g5, 1, none⟩ = some (.slice xA3 xn3 xc3) ∧
    Calls Try.prog 22 #[.slice (some ⟨g1, 0, none⟩) size1.toNat size1.toNat, .slice xA3 xn3 xc3] w43 (onRet (fun r_4 w44 => ∃ x1 : Bool, r_4 = .bool x1 ∧
    Br (!x1)
      (R (.returned (.bool false)) w44)
      (∃ (xA4 : Option Addr) (xn4 xc4 : Nat), w44.cell? ⟨g5, 4, none⟩ = some (.slice xA4 xn4 xc4) ∧
      Calls Try.prog 31 #[.slice (some ⟨g2, 0, none⟩) few1.toNat few1.toNat, .slice xA4 xn4 xc4] w44 (onRet (fun r_5 w45 => ∃ x4 : Bool, r_5 = .bool x4 ∧
      Br (!x4)
        (R (.returned (.bool false)) w45)
        (∃ (xA5 : Option Addr) (xn5 xc5 : Nat), w45.cell? ⟨g5, 5, none⟩ = some (.slice xA5 xn5 xc5) ∧
        Calls Try.prog 31 #[.slice (some ⟨g3, 0, none⟩) few1.toNat few1.toNat, .slice xA5 xn5 xc5] w45 (onRet (fun r_6 w46 => ∃ x5 : Bool, r_6 = .bool x5 ∧
        Br (!x5)
    (R (.returned (.bool false)) w46)
    (K4090 (IntKind.i64.wrap (n + 1)) w46))
          (fun ch6 w46 => R (.panicked ch6) w46))))
        (fun ch5 w45 => R (.panicked ch5) w45))))
      (fun ch4 w44 => R (.panicked ch4) w44))))
    (fun ch3 w43 => R (.panicked ch3) w43)))
    (fun ch2 w16 => R (.panicked ch2) w16)))
    (fun ch1 w15 => R (.panicked ch1) w15)))
    (fun ch w14 => R (.panicked ch) w14))))
    (Calls Try.prog 32 #[] w6 (onRet (fun r_7 w47 => ∃ x6 : Bool, r_7 = .bool x6 ∧
  R (.returned (.bool x6)) w47)
    (fun ch7 w47 => R (.panicked ch7) w47)))
def weirlaw1_ViewAgain_J31 (R : Ending → World → Prop) (scriptA : Option Addr) (scriptn : Nat) (size1 : Int) (few1 : Int) (w2 : World) : Prop :=
  MakeVC w2 5 1 [.int .u8 0] size1 size1 fun g1 w3 =>
  MakeVC w3 3 8 [.int .i64 0] few1 few1 fun g2 w4 =>
  MakeVC w4 3 8 [.int .i64 0] few1 few1 fun g3 w5 =>
  LoopVC (S := Int) (fun s w6 K4090 => weirlaw1_ViewAgain_L4090 R scriptA scriptn size1 few1 g1 g2 g3 s w6 K4090) 0 w5
def weirlaw1_ViewAgain_J7 (R : Ending → World → Prop) (few : Int) (scriptA : Option Addr) (scriptn : Nat) (size1 : Int) (w1 : World) : Prop :=
  JoinVC (S := Int) (fun J31 =>
      Br (decide (Int.tmod few 40 < 0))
        (J31 (IntKind.i64.wrap (0 - Int.tmod few 40)) w1)
        (J31 (Int.tmod few 40) w1))
    (fun s w2 => weirlaw1_ViewAgain_J31 R scriptA scriptn size1 s w2)
def weirlaw1_ViewAgain_VC (size : Int) (few : Int) (scriptA : Option Addr) (scriptn : Nat) (_scriptc : Nat) (w : World) (R : Ending → World → Prop) : Prop :=
  JoinVC (S := Int) (fun J7 =>
      Br (decide (Int.tmod size 400 < 0))
        (J7 (IntKind.i64.wrap (0 - Int.tmod size 400)) w)
        (J7 (Int.tmod size 400) w))
    (fun s w1 => weirlaw1_ViewAgain_J7 R few scriptA scriptn s w1)
def weirlaw1_ViewAgain_H : Hints := [(7, [(0, .int .i64)]), (31, [(1, .int .i64)]), (4090, [(10, .int .i64)])]
set_option maxRecDepth 100000 in
theorem weirlaw1_ViewAgain_of (size : Int) (few : Int) (scriptA : Option Addr) (scriptn : Nat) (scriptc : Nat) (w : World) (R : Ending → World → Prop) (h : weirlaw1_ViewAgain_VC size few scriptA scriptn scriptc w R) :
    Calls Try.prog 12 #[.int .i64 size, .int .i64 few, .slice scriptA scriptn scriptc] w R :=
  calls_of_wpc callOk mixedOk (H := weirlaw1_ViewAgain_H) (args := [.int .i64 size, .int .i64 few, .slice scriptA scriptn scriptc]) (fn := Try.f12) (c := bodyOf Try.f12) Try.func12 rfl (Nat.le_of_ble_eq_true rfl)
    (Eq.mp (by kernel_rfl : weirlaw1_ViewAgain_VC size few scriptA scriptn scriptc w R = wpc Try.prog callF Try.f12.ntmps weirlaw1_ViewAgain_H 1 (bodyOf Try.f12) (argEnv 0 [.int .i64 size, .int .i64 few, .slice scriptA scriptn scriptc]) [] w (finish Try.prog callF Try.f12.results.toList R)) h)

def weirlaw1_ViewOwn_L524282 (R : Ending → World → Prop) (bA : Option Addr) (bn : Nat) (bc : Nat) (widthsA : Option Addr) (widthsn : Nat) (widthsc : Nat) (valuesA : Option Addr) (valuesn : Nat) (valuesc : Nat) (x0 : Option Addr) (xA2 : Option Addr) (xn2 : Nat) (xc2 : Nat) (xA3 : Option Addr) (xn3 : Nat) (xc3 : Nat) (g2 : Nat) (xA4 : Option Addr) (xn4 : Nat) (xc4 : Nat) (x0A2 : Option Addr) (x0n2 : Nat) (x0c2 : Nat) (x0A3 : Option Addr) (x0n3 : Nat) (x0c3 : Nat) (i : Int) (w19 : World) (K524282 : (Int → World → Prop)) : Prop :=
  Br (decide (i < (x0n2 : Int)))
    (IdxVC x0A2 x0n2 1 i fun a =>
  SetVC w19 a (.int .i64 (-1)) fun w20 =>
  K524282 (IntKind.i64.wrap (i + 1)) w20)
    (NewVC w19 (.cells #[.int .i64 (-2)] 3) fun g3 w21 =>
  AppVC Try.prog #[55, 55] 55 (.slice x0A2 x0n2 x0c2) (.slice (some ⟨g3, 0, none⟩) 1 1) w21 fun _lA ln _lc w22 =>
  NewVC w22 (.cells #[.int .i64 (-3), .int .i64 (-3)] 3) fun g4 w23 =>
  AppVC Try.prog #[55, 55] 55 (.slice x0A2 x0n2 x0c2) (.slice (some ⟨g4, 0, none⟩) 2 2) w23 fun _lA1 ln1 _lc1 w24 =>
  Calls Try.prog 28 #[.slice bA bn bc, .int .i64 0, .slice widthsA widthsn widthsc] w24 (onRet (fun r_15 w25 => ∃ (x0A4 : Option Addr) (x0n4 x0c4 : Nat), ∃ x15 : Int, ∃ x23 : Int, r_15 = .tuple #[.slice x0A4 x0n4 x0c4, .int .i64 x15, .int .i64 x23] ∧
  Calls Try.prog 42 #[.slice (some ⟨g2, 0, none⟩) 4 4, .slice xA4 xn4 xc4] w25 (onRet (fun r_16 w26 => ∃ x6 : Bool, r_16 = .bool x6 ∧
  Br (!x6)
    (R (.returned (.bool false)) w26)
    (Calls Try.prog 31 #[.slice x0A3 x0n3 x0c3, .slice x0A4 x0n4 x0c4] w26 (onRet (fun r_17 w27 => ∃ x7 : Bool, r_17 = .bool x7 ∧
    Br (!x7)
      (R (.returned (.bool false)) w27)
      (Br (decide ((ln : Int) ≠ IntKind.i64.wrap ((x0n2 : Int) + 1)))
        (R (.returned (.bool false)) w27)
        (Br (decide ((ln1 : Int) ≠ IntKind.i64.wrap ((x0n2 : Int) + 2)))
    (R (.returned (.bool false)) w27)
    (Calls Try.prog 33 #[.slice widthsA widthsn widthsc, .slice valuesA valuesn valuesc] w27 (onRet (fun r_18 w28 => ∃ (x0A5 : Option Addr) (x0n5 x0c5 : Nat), ∃ x16 : Int, r_18 = .tuple #[.slice x0A5 x0n5 x0c5, .int .i64 x16] ∧
  Calls Try.prog 22 #[.slice x0A5 x0n5 x0c5, .slice xA2 xn2 xc2] w28 (onRet (fun r_19 w29 => ∃ x8 : Bool, r_19 = .bool x8 ∧
  Br x8
    (Calls Try.prog 25 #[.pointer x0] w29 (onRet (fun r_20 w30 => ∃ (xA5 : Option Addr) (xn5 xc5 : Nat), r_20 = .slice xA5 xn5 xc5 ∧
    Calls Try.prog 22 #[.slice xA5 xn5 xc5, .slice xA3 xn3 xc3] w30 (onRet (fun r_21 w31 => ∃ x9 : Bool, r_21 = .bool x9 ∧
    Br x9
      (Calls Try.prog 42 #[.slice (some ⟨g2, 0, none⟩) 4 4, .slice xA4 xn4 xc4] w31 (onRet (fun r_22 w32 => ∃ x10 : Bool, r_22 = .bool x10 ∧
      R (.returned (.bool x10)) w32)
        (fun ch22 w32 => R (.panicked ch22) w32)))
      (R (.returned (.bool false)) w31))
      (fun ch21 w31 => R (.panicked ch21) w31)))
      (fun ch20 w30 => R (.panicked ch20) w30)))
    (R (.returned (.bool false)) w29))
    (fun ch19 w29 => R (.panicked ch19) w29)))
    (fun ch18 w28 => R (.panicked ch18) w28))))))
      (fun ch17 w27 => R (.panicked ch17) w27))))
    (fun ch16 w26 => R (.panicked ch16) w26)))
    (fun ch15 w25 => R (.panicked ch15) w25)))
def weirlaw1_ViewOwn_J15 (R : Ending → World → Prop) (bA : Option Addr) (bn : Nat) (bc : Nat) (widthsA : Option Addr) (widthsn : Nat) (widthsc : Nat) (valuesA : Option Addr) (valuesn : Nat) (valuesc : Nat) (x0 : Option Addr)  (w8 : World) : Prop :=
  Calls Try.prog 33 #[.slice widthsA widthsn widthsc, .slice valuesA valuesn valuesc] w8 (onRet (fun r_6 w9 => ∃ (x0A : Option Addr) (x0n x0c : Nat), ∃ x11 : Int, r_6 = .tuple #[.slice x0A x0n x0c, .int .i64 x11] ∧
  Calls Try.prog 33 #[.slice widthsA widthsn widthsc, .slice valuesA valuesn valuesc] w9 (onRet (fun r_7 w10 => ∃ (x0A1 : Option Addr) (x0n1 x0c1 : Nat), ∃ x12 : Int, r_7 = .tuple #[.slice x0A1 x0n1 x0c1, .int .i64 x12] ∧
  Calls Try.prog 25 #[.pointer x0] w10 (onRet (fun r_8 w11 => ∃ (xA : Option Addr) (xn xc : Nat), r_8 = .slice xA xn xc ∧
  Calls Try.prog 25 #[.pointer x0] w11 (onRet (fun r_9 w12 => ∃ (xA1 : Option Addr) (xn1 xc1 : Nat), r_9 = .slice xA1 xn1 xc1 ∧
  Calls Try.prog 30 #[.slice x0A x0n x0c, .slice none 0 0, .slice none 0 0] w12 (onRet (fun r_10 w13 => ∃ (xA2 : Option Addr) (xn2 xc2 : Nat), r_10 = .slice xA2 xn2 xc2 ∧
  Calls Try.prog 30 #[.slice xA xn xc, .slice none 0 0, .slice none 0 0] w13 (onRet (fun r_11 w14 => ∃ (xA3 : Option Addr) (xn3 xc3 : Nat), r_11 = .slice xA3 xn3 xc3 ∧
  NewVC w14 (.cells #[.slice x0A x0n x0c, .slice x0A1 x0n1 x0c1, .slice xA xn xc, .slice xA1 xn1 xc1] 22) fun g2 w15 =>
  Calls Try.prog 41 #[.slice (some ⟨g2, 0, none⟩) 4 4] w15 (onRet (fun r_12 w16 => ∃ (xA4 : Option Addr) (xn4 xc4 : Nat), r_12 = .slice xA4 xn4 xc4 ∧
  Calls Try.prog 28 #[.slice bA bn bc, .int .i64 0, .slice widthsA widthsn widthsc] w16 (onRet (fun r_13 w17 => ∃ (x0A2 : Option Addr) (x0n2 x0c2 : Nat), ∃ x13 : Int, ∃ x21 : Int, r_13 = .tuple #[.slice x0A2 x0n2 x0c2, .int .i64 x13, .int .i64 x21] ∧
  Calls Try.prog 28 #[.slice bA bn bc, .int .i64 0, .slice widthsA widthsn widthsc] w17 (onRet (fun r_14 w18 => ∃ (x0A3 : Option Addr) (x0n3 x0c3 : Nat), ∃ x14 : Int, ∃ x22 : Int, r_14 = .tuple #[.slice x0A3 x0n3 x0c3, .int .i64 x14, .int .i64 x22] ∧
  LoopVC (S := Int) (fun s w19 K524282 => weirlaw1_ViewOwn_L524282 R bA bn bc widthsA widthsn widthsc valuesA valuesn valuesc x0 xA2 xn2 xc2 xA3 xn3 xc3 g2 xA4 xn4 xc4 x0A2 x0n2 x0c2 x0A3 x0n3 x0c3 s w19 K524282) 0 w18)
    (fun ch14 w18 => R (.panicked ch14) w18)))
    (fun ch13 w17 => R (.panicked ch13) w17)))
    (fun ch12 w16 => R (.panicked ch12) w16)))
    (fun ch11 w14 => R (.panicked ch11) w14)))
    (fun ch10 w13 => R (.panicked ch10) w13)))
    (fun ch9 w12 => R (.panicked ch9) w12)))
    (fun ch8 w11 => R (.panicked ch8) w11)))
    (fun ch7 w10 => R (.panicked ch7) w10)))
    (fun ch6 w9 => R (.panicked ch6) w9))
def weirlaw1_ViewOwn_VC (bA : Option Addr) (bn : Nat) (bc : Nat) (widthsA : Option Addr) (widthsn : Nat) (widthsc : Nat) (valuesA : Option Addr) (valuesn : Nat) (valuesc : Nat) (w : World) (R : Ending → World → Prop) : Prop :=
  Calls Try.prog 23 #[.int .i64 60000] w (onRet (fun r_ w1 => ∃ x0 : Option Addr, ∃ x1 : Int, r_ = .tuple #[.pointer x0, .int .i64 x1] ∧
  Br x0.isNone
    (R (.returned (.bool false)) w1)
    (Calls Try.prog 19 #[.int .i64 x1] w1 (onRet (fun r_1 w2 => ∃ x : Int, r_1 = .int .i64 x ∧
    Br (decide (x ≠ 0))
      (R (.returned (.bool false)) w2)
      (Calls Try.prog 24 #[.pointer x0, .int .i64 2, .int .u64 515] w2 (onRet (fun r_2 w3 => ∃ x2 : Int, r_2 = .int .i64 x2 ∧
      Calls Try.prog 19 #[.int .i64 x2] w3 (onRet (fun r_3 w4 => ∃ x3 : Int, r_3 = .int .i64 x3 ∧
      Br (decide (x3 ≠ 0))
    (R (.returned (.bool false)) w4)
    (JoinVC (S := Unit) (fun J15 =>
      Br (decide ((bn : Int) ≤ 30000))
        (SliceVC bA bn bc 1 none (some (IntKind.i64.wrap (Int.tdiv (bn : Int) 2))) none fun sA sn sc =>
        NewVC w4 (.cells #[.slice bA bn bc, .slice sA sn sc] 22) fun g1 w5 =>
        Calls Try.prog 40 #[.pointer x0, .slice (some ⟨g1, 0, none⟩) 2 2] w5 (onRet (fun r_4 w6 => ∃ x4 : Int, r_4 = .int .i64 x4 ∧
        Calls Try.prog 19 #[.int .i64 x4] w6 (onRet (fun r_5 w7 => ∃ x5 : Int, r_5 = .int .i64 x5 ∧
        Br (decide (x5 ≠ 0))
          (R (.returned (.bool false)) w7)
          (J15 () w7))
          (fun ch5 w7 => R (.panicked ch5) w7)))
          (fun ch4 w6 => R (.panicked ch4) w6)))
        (J15 () w4))
    (fun _ w8 => weirlaw1_ViewOwn_J15 R bA bn bc widthsA widthsn widthsc valuesA valuesn valuesc x0 w8)))
        (fun ch3 w4 => R (.panicked ch3) w4)))
        (fun ch2 w3 => R (.panicked ch2) w3))))
      (fun ch1 w2 => R (.panicked ch1) w2))))
    (fun ch w1 => R (.panicked ch) w1))
def weirlaw1_ViewOwn_H : Hints := [(15, []), (524282, [(26, .int .i64)])]
set_option maxRecDepth 100000 in
theorem weirlaw1_ViewOwn_of (bA : Option Addr) (bn : Nat) (bc : Nat) (widthsA : Option Addr) (widthsn : Nat) (widthsc : Nat) (valuesA : Option Addr) (valuesn : Nat) (valuesc : Nat) (w : World) (R : Ending → World → Prop) (h : weirlaw1_ViewOwn_VC bA bn bc widthsA widthsn widthsc valuesA valuesn valuesc w R) :
    Calls Try.prog 13 #[.slice bA bn bc, .slice widthsA widthsn widthsc, .slice valuesA valuesn valuesc] w R :=
  calls_of_wpc callOk mixedOk (H := weirlaw1_ViewOwn_H) (args := [.slice bA bn bc, .slice widthsA widthsn widthsc, .slice valuesA valuesn valuesc]) (fn := Try.f13) (c := bodyOf Try.f13) Try.func13 rfl (Nat.le_of_ble_eq_true rfl)
    (Eq.mp (by kernel_rfl : weirlaw1_ViewOwn_VC bA bn bc widthsA widthsn widthsc valuesA valuesn valuesc w R = wpc Try.prog callF Try.f13.ntmps weirlaw1_ViewOwn_H 1 (bodyOf Try.f13) (argEnv 0 [.slice bA bn bc, .slice widthsA widthsn widthsc, .slice valuesA valuesn valuesc]) [] w (finish Try.prog callF Try.f13.results.toList R)) h)

def weirlaw1_ViewLent_J16201 (R : Ending → World → Prop) (x0 : Option Addr) (g1 : Nat) (i : Int) (K506 : (Int → World → Prop)) (ok : Bool) (w16 : World) : Prop :=
  Br (!ok)
    (R (.returned (.bool false)) w16)
    (DrawVC w16 fun S1 w17 =>
  NilVC (some ⟨g1, 0, none⟩) fun p =>
  ∃ (xA : Option Addr) (xn xc : Nat), (∀ w' : World, S1 w' → w'.cell? p = some (.slice xA xn xc)) ∧
  Calls Try.prog 25 #[.pointer x0] w17 (onRet (fun r_6 w18 => ∃ (xA1 : Option Addr) (xn1 xc1 : Nat), r_6 = .slice xA1 xn1 xc1 ∧
  S1 w18 ∧
  NewVC w18 (.cells #[.slice xA1 xn1 xc1] 22) fun g3 w19 =>
  S1 w19 ∧
  AppVC Try.prog #[50, 50] 50 (.slice xA xn xc) (.slice (some ⟨g3, 0, none⟩) 1 1) w19 fun lA ln lc w20 =>
  S1 w20 ∧
  NilVC (some ⟨g1, 0, none⟩) fun p1 =>
  SetVC w20 p1 (.slice lA ln lc) fun w21 =>
  NilVC (some ⟨g1, 0, none⟩) fun p2 =>
  ∃ (xA2 : Option Addr) (xn2 xc2 : Nat), w21.cell? (p2.add 1) = some (.slice xA2 xn2 xc2) ∧
  NewVC w21 (.cells #[.int .u8 2, .int .u8 3] 5) fun g4 w22 =>
  NewVC w22 (.cells #[.slice (some ⟨g4, 0, none⟩) 2 2] 22) fun g5 w23 =>
  AppVC Try.prog #[50, 50] 50 (.slice xA2 xn2 xc2) (.slice (some ⟨g5, 0, none⟩) 1 1) w23 fun lA1 ln1 lc1 w24 =>
  NilVC (some ⟨g1, 0, none⟩) fun p3 =>
  SetVC w24 (p3.add 1) (.slice lA1 ln1 lc1) fun w25 =>
  K506 (IntKind.i64.wrap (i + 1)) w25)
    (fun _ _ => False)))
def weirlaw1_ViewLent_L261778 (g1 : Nat) (i1 : Int) (K4090 : (Int → World → Prop)) (k : Int) (w29 : World) (K261778 : (Int → World → Prop)) : Prop :=
  NilVC (some ⟨g1, 0, none⟩) fun p6 =>
  ∃ (xA6 : Option Addr) (xn6 xc6 : Nat), w29.cell? (p6.add 2) = some (.slice xA6 xn6 xc6) ∧
  IdxVC xA6 xn6 1 i1 fun a1 =>
  ∃ (xA7 : Option Addr) (xn7 xc7 : Nat), w29.cell? a1 = some (.slice xA7 xn7 xc7) ∧
  Br (decide (k < (xn7 : Int)))
    (NilVC (some ⟨g1, 0, none⟩) fun p7 =>
  ∃ (xA8 : Option Addr) (xn8 xc8 : Nat), w29.cell? (p7.add 2) = some (.slice xA8 xn8 xc8) ∧
  IdxVC xA8 xn8 1 i1 fun a2 =>
  ∃ (xA9 : Option Addr) (xn9 xc9 : Nat), w29.cell? a2 = some (.slice xA9 xn9 xc9) ∧
  IdxVC xA9 xn9 1 k fun a3 =>
  SetVC w29 a3 (.int .i64 (IntKind.i64.wrap ((-1) - i1))) fun w30 =>
  K261778 (IntKind.i64.wrap (k + 1)) w30)
    (K4090 (IntKind.i64.wrap (i1 + 1)) w29)
def weirlaw1_ViewLent_L2096420 (g1 : Nat) (longA : Option Addr) (longn : Nat) (longc : Nat) (i2 : Int) (K16378 : ((Option Addr × Nat × Nat) × Int → World → Prop)) (gA : Option Addr) (gn : Nat) (gc : Nat) (w32 : World) (K2096420 : ((Option Addr × Nat × Nat) → World → Prop)) : Prop :=
  NilVC (some ⟨g1, 0, none⟩) fun p10 =>
  ∃ (xA13 : Option Addr) (xn13 xc13 : Nat), w32.cell? (p10.add 2) = some (.slice xA13 xn13 xc13) ∧
  IdxVC xA13 xn13 1 i2 fun a5 =>
  ∃ (xA14 : Option Addr) (xn14 xc14 : Nat), w32.cell? a5 = some (.slice xA14 xn14 xc14) ∧
  Br (decide ((gn : Int) < IntKind.i64.wrap ((xn14 : Int) + 70)))
    (NewVC w32 (.cells #[.int .i64 (IntKind.i64.wrap ((-1) - i2))] 3) fun g6 w33 =>
  AppVC Try.prog #[55, 55] 55 (.slice gA gn gc) (.slice (some ⟨g6, 0, none⟩) 1 1) w33 fun lA2 ln2 lc2 w34 =>
  K2096420 (lA2, ln2, lc2) w34)
    (NewVC w32 (.cells #[.slice gA gn gc] 55) fun g7 w35 =>
  AppVC Try.prog #[85, 85] 85 (.slice longA longn longc) (.slice (some ⟨g7, 0, none⟩) 1 1) w35 fun lA3 ln3 lc3 w36 =>
  K16378 ((lA3, ln3, lc3), IntKind.i64.wrap (i2 + 1)) w36)
def weirlaw1_ViewLent_L16776850 (R : Ending → World → Prop) (g1 : Nat) (longA : Option Addr) (longn : Nat) (i3 : Int) (K262138 : (Int → World → Prop)) (k1 : Int) (w47 : World) (K16776850 : (Int → World → Prop)) : Prop :=
  IdxVC longA longn 1 i3 fun a6 =>
  ∃ (xA17 : Option Addr) (xn17 xc17 : Nat), w47.cell? a6 = some (.slice xA17 xn17 xc17) ∧
  Br (decide (k1 < (xn17 : Int)))
    (IdxVC longA longn 1 i3 fun a7 =>
  ∃ (xA18 : Option Addr) (xn18 xc18 : Nat), w47.cell? a7 = some (.slice xA18 xn18 xc18) ∧
  IdxVC xA18 xn18 1 k1 fun a8 =>
  ∃ x13 : Int, w47.cell? a8 = some (.int .i64 x13) ∧
  Br (decide (x13 ≠ IntKind.i64.wrap ((-1) - i3)))
    (R (.returned (.bool false)) w47)
    (NilVC (some ⟨g1, 0, none⟩) fun p12 =>
    ∃ (xA19 : Option Addr) (xn19 xc19 : Nat), w47.cell? (p12.add 2) = some (.slice xA19 xn19 xc19) ∧
    IdxVC xA19 xn19 1 i3 fun a9 =>
    ∃ (xA20 : Option Addr) (xn20 xc20 : Nat), w47.cell? a9 = some (.slice xA20 xn20 xc20) ∧
    Br (decide (k1 < (xn20 : Int)))
      (NilVC (some ⟨g1, 0, none⟩) fun p13 =>
      ∃ (xA21 : Option Addr) (xn21 xc21 : Nat), w47.cell? (p13.add 2) = some (.slice xA21 xn21 xc21) ∧
      IdxVC xA21 xn21 1 i3 fun a10 =>
      ∃ (xA22 : Option Addr) (xn22 xc22 : Nat), w47.cell? a10 = some (.slice xA22 xn22 xc22) ∧
      IdxVC xA22 xn22 1 k1 fun a11 =>
      ∃ x14 : Int, w47.cell? a11 = some (.int .i64 x14) ∧
      Br (decide (x14 ≠ IntKind.i64.wrap ((-1) - i3)))
    (R (.returned (.bool false)) w47)
    (K16776850 (IntKind.i64.wrap (k1 + 1)) w47))
      (K16776850 (IntKind.i64.wrap (k1 + 1)) w47)))
    (K262138 (IntKind.i64.wrap (i3 + 1)) w47)
def weirlaw1_ViewLent_L262138 (R : Ending → World → Prop) (g1 : Nat) (longA : Option Addr) (longn : Nat) (i3 : Int) (w46 : World) (K262138 : (Int → World → Prop)) : Prop :=
  Br (decide (i3 < (longn : Int)))
    (LoopVC (S := Int) (fun s w47 K16776850 => weirlaw1_ViewLent_L16776850 R g1 longA longn i3 K262138 s w47 K16776850) 0 w46)
    (Calls Try.prog 32 #[] w46 (onRet (fun r_15 w48 => ∃ x15 : Bool, r_15 = .bool x15 ∧
  R (.returned (.bool x15)) w48)
    (fun ch15 w48 => R (.panicked ch15) w48)))
def weirlaw1_ViewLent_J8191 (R : Ending → World → Prop) (x0 : Option Addr) (g1 : Nat) (xA4 : Option Addr) (xn4 : Nat) (xc4 : Nat) (longA : Option Addr) (longn : Nat) (g8 : Nat) (ok1 : Bool) (w40 : World) : Prop :=
  Br (!ok1)
    (R (.returned (.bool false)) w40)
    (Calls Try.prog 44 #[.pointer (some ⟨g8, 0, none⟩)] w40 (onRet (fun r_11 w41 => ∃ x10 : Bool, r_11 = .bool x10 ∧
    Br (!x10)
      (R (.returned (.bool false)) w41)
      (Calls Try.prog 25 #[.pointer x0] w41 (onRet (fun r_12 w42 => ∃ (xA15 : Option Addr) (xn15 xc15 : Nat), r_12 = .slice xA15 xn15 xc15 ∧
      NewVC w42 (.cells #[.int .u8 2, .int .u8 3] 5) fun g9 w43 =>
      Calls Try.prog 22 #[.slice xA15 xn15 xc15, .slice (some ⟨g9, 0, none⟩) 2 2] w43 (onRet (fun r_13 w44 => ∃ x11 : Bool, r_13 = .bool x11 ∧
      Br (!x11)
        (R (.returned (.bool false)) w44)
        (NilVC (some ⟨g1, 0, none⟩) fun p11 =>
        ∃ (xA16 : Option Addr) (xn16 xc16 : Nat), w44.cell? p11 = some (.slice xA16 xn16 xc16) ∧
        Calls Try.prog 42 #[.slice xA16 xn16 xc16, .slice xA4 xn4 xc4] w44 (onRet (fun r_14 w45 => ∃ x12 : Bool, r_14 = .bool x12 ∧
        Br (!x12)
    (R (.returned (.bool false)) w45)
    (LoopVC (S := Int) (fun s w46 K262138 => weirlaw1_ViewLent_L262138 R g1 longA longn s w46 K262138) 0 w45))
          (fun ch14 w45 => R (.panicked ch14) w45))))
        (fun ch13 w44 => R (.panicked ch13) w44)))
        (fun ch12 w42 => R (.panicked ch12) w42))))
      (fun ch11 w41 => R (.panicked ch11) w41)))
def weirlaw1_ViewLent_L16378 (R : Ending → World → Prop) (aA : Option Addr) (an : Nat) (ac : Nat) (bA : Option Addr) (bn : Nat) (bc : Nat) (widthsA : Option Addr) (widthsn : Nat) (widthsc : Nat) (valuesA : Option Addr) (valuesn : Nat) (valuesc : Nat) (otherA : Option Addr) (othern : Nat) (otherc : Nat) (moreA : Option Addr) (moren : Nat) (morec : Nat) (x0 : Option Addr) (g1 : Nat) (xA4 : Option Addr) (xn4 : Nat) (xc4 : Nat) (longA : Option Addr) (longn : Nat) (longc : Nat) (i2 : Int) (w31 : World) (K16378 : ((Option Addr × Nat × Nat) × Int → World → Prop)) : Prop :=
  NilVC (some ⟨g1, 0, none⟩) fun p8 =>
  ∃ (xA10 : Option Addr) (xn10 xc10 : Nat), w31.cell? (p8.add 2) = some (.slice xA10 xn10 xc10) ∧
  Br (decide (i2 < (xn10 : Int)))
    (NilVC (some ⟨g1, 0, none⟩) fun p9 =>
  ∃ (xA11 : Option Addr) (xn11 xc11 : Nat), w31.cell? (p9.add 2) = some (.slice xA11 xn11 xc11) ∧
  IdxVC xA11 xn11 1 i2 fun a4 =>
  ∃ (xA12 : Option Addr) (xn12 xc12 : Nat), w31.cell? a4 = some (.slice xA12 xn12 xc12) ∧
  LoopVC (S := (Option Addr × Nat × Nat)) (fun s w32 K2096420 => weirlaw1_ViewLent_L2096420 g1 longA longn longc i2 K16378 s.1 s.2.1 s.2.2 w32 K2096420) (xA12, xn12, xc12) w31)
    (NewVC w31 (.cells #[.slice none 0 0, .slice none 0 0, .slice none 0 0, .slice none 0 0] 87) fun g8 w37 =>
  JoinVC (S := Bool) (fun J8191 =>
      Calls Try.prog 43 #[.pointer (some ⟨g8, 0, none⟩), .slice aA an ac, .slice widthsA widthsn widthsc, .slice valuesA valuesn valuesc] w37 (onRet (fun r_9 w38 => ∃ x8 : Bool, r_9 = .bool x8 ∧
      Br x8
        (Calls Try.prog 43 #[.pointer (some ⟨g8, 0, none⟩), .slice bA bn bc, .slice otherA othern otherc, .slice moreA moren morec] w38 (onRet (fun r_10 w39 => ∃ x9 : Bool, r_10 = .bool x9 ∧
        J8191 x9 w39)
          (fun ch10 w39 => R (.panicked ch10) w39)))
        (J8191 false w38))
        (fun ch9 w38 => R (.panicked ch9) w38)))
    (fun s w40 => weirlaw1_ViewLent_J8191 R x0 g1 xA4 xn4 xc4 longA longn g8 s w40))
def weirlaw1_ViewLent_L4090 (R : Ending → World → Prop) (aA : Option Addr) (an : Nat) (ac : Nat) (bA : Option Addr) (bn : Nat) (bc : Nat) (widthsA : Option Addr) (widthsn : Nat) (widthsc : Nat) (valuesA : Option Addr) (valuesn : Nat) (valuesc : Nat) (otherA : Option Addr) (othern : Nat) (otherc : Nat) (moreA : Option Addr) (moren : Nat) (morec : Nat) (x0 : Option Addr) (g1 : Nat) (xA4 : Option Addr) (xn4 : Nat) (xc4 : Nat) (i1 : Int) (w28 : World) (K4090 : (Int → World → Prop)) : Prop :=
  NilVC (some ⟨g1, 0, none⟩) fun p5 =>
  ∃ (xA5 : Option Addr) (xn5 xc5 : Nat), w28.cell? (p5.add 2) = some (.slice xA5 xn5 xc5) ∧
  Br (decide (i1 < (xn5 : Int)))
    (LoopVC (S := Int) (fun s w29 K261778 => weirlaw1_ViewLent_L261778 g1 i1 K4090 s w29 K261778) 0 w28)
    (LoopVC (S := (Option Addr × Nat × Nat) × Int) (fun s w31 K16378 => weirlaw1_ViewLent_L16378 R aA an ac bA bn bc widthsA widthsn widthsc valuesA valuesn valuesc otherA othern otherc moreA moren morec x0 g1 xA4 xn4 xc4 s.1.1 s.1.2.1 s.1.2.2 s.2 w31 K16378) ((none, 0, 0), 0) w28)
def weirlaw1_ViewLent_L506 (R : Ending → World → Prop) (aA : Option Addr) (an : Nat) (ac : Nat) (bA : Option Addr) (bn : Nat) (bc : Nat) (widthsA : Option Addr) (widthsn : Nat) (widthsc : Nat) (valuesA : Option Addr) (valuesn : Nat) (valuesc : Nat) (otherA : Option Addr) (othern : Nat) (otherc : Nat) (moreA : Option Addr) (moren : Nat) (morec : Nat) (x0 : Option Addr) (g1 : Nat) (g2 : Nat) (i : Int) (w13 : World) (K506 : (Int → World → Prop)) : Prop :=
  Br (decide (i < 6))
    (JoinVC (S := Bool) (fun J16201 =>
      IdxVC (some ⟨g2, 0, none⟩) 6 1 i fun a =>
      ∃ x4 : Int, w13.cell? a = some (.int .i64 x4) ∧
      Br (decide (x4 = 0))
        (Calls Try.prog 43 #[.pointer (some ⟨g1, 0, none⟩), .slice aA an ac, .slice widthsA widthsn widthsc, .slice valuesA valuesn valuesc] w13 (onRet (fun r_4 w14 => ∃ x5 : Bool, r_4 = .bool x5 ∧
        J16201 x5 w14)
          (fun ch4 w14 => R (.panicked ch4) w14)))
        (Calls Try.prog 43 #[.pointer (some ⟨g1, 0, none⟩), .slice bA bn bc, .slice otherA othern otherc, .slice moreA moren morec] w13 (onRet (fun r_5 w15 => ∃ x6 : Bool, r_5 = .bool x6 ∧
        J16201 x6 w15)
          (fun ch5 w15 => R (.panicked ch5) w15))))
    (fun s w16 => weirlaw1_ViewLent_J16201 R x0 g1 i K506 s w16))
    (Calls Try.prog 44 #[.pointer (some ⟨g1, 0, none⟩)] w13 (onRet (fun r_7 w26 => ∃ x7 : Bool, r_7 = .bool x7 ∧
  Br (!x7)
    (R (.returned (.bool false)) w26)
    (NilVC (some ⟨g1, 0, none⟩) fun p4 =>
  ∃ (xA3 : Option Addr) (xn3 xc3 : Nat), w26.cell? p4 = some (.slice xA3 xn3 xc3) ∧
  Calls Try.prog 41 #[.slice xA3 xn3 xc3] w26 (onRet (fun r_8 w27 => ∃ (xA4 : Option Addr) (xn4 xc4 : Nat), r_8 = .slice xA4 xn4 xc4 ∧
  LoopVC (S := Int) (fun s w28 K4090 => weirlaw1_ViewLent_L4090 R aA an ac bA bn bc widthsA widthsn widthsc valuesA valuesn valuesc otherA othern otherc moreA moren morec x0 g1 xA4 xn4 xc4 s w28 K4090) 0 w27)
    (fun ch8 w27 => R (.panicked ch8) w27))))
    (fun ch7 w26 => R (.panicked ch7) w26)))
def weirlaw1_ViewLent_VC (aA : Option Addr) (an : Nat) (ac : Nat) (bA : Option Addr) (bn : Nat) (bc : Nat) (widthsA : Option Addr) (widthsn : Nat) (widthsc : Nat) (valuesA : Option Addr) (valuesn : Nat) (valuesc : Nat) (otherA : Option Addr) (othern : Nat) (otherc : Nat) (moreA : Option Addr) (moren : Nat) (morec : Nat) (w : World) (R : Ending → World → Prop) : Prop :=
  Calls Try.prog 23 #[.int .i64 65535] w (onRet (fun r_ w1 => ∃ x0 : Option Addr, ∃ x1 : Int, r_ = .tuple #[.pointer x0, .int .i64 x1] ∧
  Br x0.isNone
    (R (.returned (.bool false)) w1)
    (Calls Try.prog 19 #[.int .i64 x1] w1 (onRet (fun r_1 w2 => ∃ x : Int, r_1 = .int .i64 x ∧
    Br (decide (x ≠ 0))
      (R (.returned (.bool false)) w2)
      (Calls Try.prog 24 #[.pointer x0, .int .i64 2, .int .u64 515] w2 (onRet (fun r_2 w3 => ∃ x2 : Int, r_2 = .int .i64 x2 ∧
      Calls Try.prog 19 #[.int .i64 x2] w3 (onRet (fun r_3 w4 => ∃ x3 : Int, r_3 = .int .i64 x3 ∧
      Br (decide (x3 ≠ 0))
    (R (.returned (.bool false)) w4)
    (NewVC w4 (.cells #[.slice none 0 0, .slice none 0 0, .slice none 0 0, .slice none 0 0] 87) fun g1 w5 =>
  NewVC w5 (.cells #[.int .i64 0, .int .i64 0, .int .i64 0, .int .i64 0, .int .i64 0, .int .i64 0] 88) fun g2 w6 =>
  SetVC w6 ⟨g2, 0, none⟩ (.int .i64 0) fun w7 =>
  SetVC w7 ⟨g2, 1, none⟩ (.int .i64 0) fun w8 =>
  SetVC w8 ⟨g2, 2, none⟩ (.int .i64 1) fun w9 =>
  SetVC w9 ⟨g2, 3, none⟩ (.int .i64 1) fun w10 =>
  SetVC w10 ⟨g2, 4, none⟩ (.int .i64 0) fun w11 =>
  SetVC w11 ⟨g2, 5, none⟩ (.int .i64 1) fun w12 =>
  LoopVC (S := Int) (fun s w13 K506 => weirlaw1_ViewLent_L506 R aA an ac bA bn bc widthsA widthsn widthsc valuesA valuesn valuesc otherA othern otherc moreA moren morec x0 g1 g2 s w13 K506) 0 w12))
        (fun ch3 w4 => R (.panicked ch3) w4)))
        (fun ch2 w3 => R (.panicked ch2) w3))))
      (fun ch1 w2 => R (.panicked ch1) w2))))
    (fun ch w1 => R (.panicked ch) w1))
def weirlaw1_ViewLent_H : Hints := [(506, [(17, .int .i64)]), (16201, [(18, .bool)]), (4090, [(20, .int .i64)]), (261778, [(21, .int .i64)]), (16378, [(22, .slice), (23, .int .i64)]), (2096420, [(24, .slice)]), (8191, [(26, .bool)]), (262138, [(27, .int .i64)]), (16776850, [(28, .int .i64)])]
set_option maxRecDepth 100000 in
theorem weirlaw1_ViewLent_of (aA : Option Addr) (an : Nat) (ac : Nat) (bA : Option Addr) (bn : Nat) (bc : Nat) (widthsA : Option Addr) (widthsn : Nat) (widthsc : Nat) (valuesA : Option Addr) (valuesn : Nat) (valuesc : Nat) (otherA : Option Addr) (othern : Nat) (otherc : Nat) (moreA : Option Addr) (moren : Nat) (morec : Nat) (w : World) (R : Ending → World → Prop) (h : weirlaw1_ViewLent_VC aA an ac bA bn bc widthsA widthsn widthsc valuesA valuesn valuesc otherA othern otherc moreA moren morec w R) :
    Calls Try.prog 14 #[.slice aA an ac, .slice bA bn bc, .slice widthsA widthsn widthsc, .slice valuesA valuesn valuesc, .slice otherA othern otherc, .slice moreA moren morec] w R :=
  calls_of_wpc callOk mixedOk (H := weirlaw1_ViewLent_H) (args := [.slice aA an ac, .slice bA bn bc, .slice widthsA widthsn widthsc, .slice valuesA valuesn valuesc, .slice otherA othern otherc, .slice moreA moren morec]) (fn := Try.f14) (c := bodyOf Try.f14) Try.func14 rfl (Nat.le_of_ble_eq_true rfl)
    (Eq.mp (by kernel_rfl : weirlaw1_ViewLent_VC aA an ac bA bn bc widthsA widthsn widthsc valuesA valuesn valuesc otherA othern otherc moreA moren morec w R = wpc Try.prog callF Try.f14.ntmps weirlaw1_ViewLent_H 1 (bodyOf Try.f14) (argEnv 0 [.slice aA an ac, .slice bA bn bc, .slice widthsA widthsn widthsc, .slice valuesA valuesn valuesc, .slice otherA othern otherc, .slice moreA moren morec]) [] w (finish Try.prog callF Try.f14.results.toList R)) h)

def weirlaw1_ViewMany_J523559 (R : Ending → World → Prop) (bn : Nat) (csA : Option Addr) (csn : Nat) (dsA : Option Addr) (dsn : Nat) (i1 : Int) (K4090 : (Int → World → Prop)) (wantA : Option Addr) (wantn : Nat) (wantc : Nat) (at_ : Int) (w20 : World) : Prop :=
  IdxVC dsA dsn 1 i1 fun a1 =>
  ∃ x10 : Option Addr, w20.cell? a1 = some (.pointer x10) ∧
  Calls Try.prog 25 #[.pointer x10] w20 (onRet (fun r_9 w21 => ∃ (xA : Option Addr) (xn xc : Nat), r_9 = .slice xA xn xc ∧
  Calls Try.prog 22 #[.slice xA xn xc, .slice wantA wantn wantc] w21 (onRet (fun r_10 w22 => ∃ x11 : Bool, r_10 = .bool x11 ∧
  Br (!x11)
    (R (.returned (.bool false)) w22)
    (IdxVC dsA dsn 1 i1 fun a2 =>
    ∃ x12 : Option Addr, w22.cell? a2 = some (.pointer x12) ∧
    Calls Try.prog 45 #[.pointer x12] w22 (onRet (fun r_11 w23 => ∃ x13 : Int, r_11 = .int .i64 x13 ∧
    Br (decide (x13 ≠ (wantn : Int)))
      (R (.returned (.bool false)) w23)
      (IdxVC csA csn 1 i1 fun a3 =>
      ∃ x14 : Option Addr, w23.cell? a3 = some (.pointer x14) ∧
      Calls Try.prog 46 #[.pointer x14] w23 (onRet (fun r_12 w24 => ∃ x15 : Int, r_12 = .int .i64 x15 ∧
      Br (decide (x15 ≠ at_))
        (R (.returned (.bool false)) w24)
        (IdxVC csA csn 1 i1 fun a4 =>
        ∃ x16 : Option Addr, w24.cell? a4 = some (.pointer x16) ∧
        Calls Try.prog 21 #[.pointer x16] w24 (onRet (fun r_13 w25 => ∃ x17 : Int, r_13 = .int .i64 x17 ∧
        Br (decide (x17 ≠ IntKind.i64.wrap ((bn : Int) - at_)))
    (R (.returned (.bool false)) w25)
    (K4090 (IntKind.i64.wrap (i1 + 1)) w25))
          (fun ch13 w25 => R (.panicked ch13) w25))))
        (fun ch12 w24 => R (.panicked ch12) w24))))
      (fun ch11 w23 => R (.panicked ch11) w23))))
    (fun ch10 w22 => R (.panicked ch10) w22)))
    (fun ch9 w21 => R (.panicked ch9) w21))
def weirlaw1_ViewMany_J130889 (R : Ending → World → Prop) (bn : Nat) (csA : Option Addr) (csn : Nat) (dsA : Option Addr) (dsn : Nat) (i1 : Int) (K4090 : (Int → World → Prop)) (wantA : Option Addr) (wantn : Nat) (wantc : Nat) (w19 : World) : Prop :=
  JoinVC (S := Int) (fun J523559 =>
      Br (decide ((bn : Int) < i1))
        (J523559 0 w19)
        (J523559 i1 w19))
    (fun s w20 => weirlaw1_ViewMany_J523559 R bn csA csn dsA dsn i1 K4090 wantA wantn wantc s w20)
def weirlaw1_ViewMany_L4090 (R : Ending → World → Prop) (bn : Nat) (csA : Option Addr) (csn : Nat) (dsA : Option Addr) (dsn : Nat) (n1 : Int) (i1 : Int) (w16 : World) (K4090 : (Int → World → Prop)) : Prop :=
  Br (decide (i1 < 40))
    (NewVC w16 (.cells #[.int .u8 (IntKind.u8.wrap i1)] 5) fun g3 w17 =>
  JoinVC (S := (Option Addr × Nat × Nat)) (fun J130889 =>
      Br (decide (i1 = n1))
        (NewVC w17 (.cells #[.int .u8 (IntKind.u8.wrap i1), .int .u8 255] 5) fun g4 w18 =>
        J130889 ((some ⟨g4, 0, none⟩), 2, 2) w18)
        (J130889 ((some ⟨g3, 0, none⟩), 1, 1) w17))
    (fun s w19 => weirlaw1_ViewMany_J130889 R bn csA csn dsA dsn i1 K4090 s.1 s.2.1 s.2.2 w19))
    (Calls Try.prog 32 #[] w16 (onRet (fun r_14 w26 => ∃ x18 : Bool, r_14 = .bool x18 ∧
  R (.returned (.bool x18)) w26)
    (fun ch14 w26 => R (.panicked ch14) w26)))
def weirlaw1_ViewMany_J63 (R : Ending → World → Prop) (bn : Nat) (csA : Option Addr) (csn : Nat) (dsA : Option Addr) (dsn : Nat) (n1 : Int) (w13 : World) : Prop :=
  IdxVC dsA dsn 1 n1 fun a =>
  ∃ x7 : Option Addr, w13.cell? a = some (.pointer x7) ∧
  Calls Try.prog 24 #[.pointer x7, .int .i64 1, .int .u64 255] w13 (onRet (fun r_7 w14 => ∃ x8 : Int, r_7 = .int .i64 x8 ∧
  Calls Try.prog 19 #[.int .i64 x8] w14 (onRet (fun r_8 w15 => ∃ x9 : Int, r_8 = .int .i64 x9 ∧
  Br (decide (x9 ≠ 0))
    (R (.returned (.bool false)) w15)
    (LoopVC (S := Int) (fun s w16 K4090 => weirlaw1_ViewMany_L4090 R bn csA csn dsA dsn n1 s w16 K4090) 0 w15))
    (fun ch8 w15 => R (.panicked ch8) w15)))
    (fun ch7 w14 => R (.panicked ch7) w14))
def weirlaw1_ViewMany_L250 (R : Ending → World → Prop) (bA : Option Addr) (bn : Nat) (bc : Nat) (n : Int) (csA : Option Addr) (csn : Nat) (csc : Nat) (dsA : Option Addr) (dsn : Nat) (dsc : Nat) (i : Int) (w1 : World) (K250 : ((Option Addr × Nat × Nat) × (Option Addr × Nat × Nat) × Int → World → Prop)) : Prop :=
  Br (decide (i < 40))
    (Calls Try.prog 17 #[.slice bA bn bc] w1 (onRet (fun r_ w2 => ∃ x : Option Addr, r_ = .pointer x ∧
  Calls Try.prog 23 #[.int .i64 3] w2 (onRet (fun r_1 w3 => ∃ x0 : Option Addr, ∃ x1 : Int, r_1 = .tuple #[.pointer x0, .int .i64 x1] ∧
  Br x.isNone
    (R (.returned (.bool false)) w3)
    (Br x0.isNone
      (R (.returned (.bool false)) w3)
      (Calls Try.prog 19 #[.int .i64 x1] w3 (onRet (fun r_2 w4 => ∃ x2 : Int, r_2 = .int .i64 x2 ∧
      Br (decide (x2 ≠ 0))
    (R (.returned (.bool false)) w4)
    (Calls Try.prog 24 #[.pointer x0, .int .i64 1, .int .u64 (IntKind.u64.wrap i)] w4 (onRet (fun r_3 w5 => ∃ x3 : Int, r_3 = .int .i64 x3 ∧
  Calls Try.prog 19 #[.int .i64 x3] w5 (onRet (fun r_4 w6 => ∃ x4 : Int, r_4 = .int .i64 x4 ∧
  Br (decide (x4 ≠ 0))
    (R (.returned (.bool false)) w6)
    (Calls Try.prog 34 #[.pointer x, .int .i64 i] w6 (onRet (fun r_5 w7 => ∃ x5 : Int, r_5 = .int .i64 x5 ∧
    Calls Try.prog 19 #[.int .i64 x5] w7 (onRet (fun r_6 w8 => ∃ x6 : Int, r_6 = .int .i64 x6 ∧
    Br (!((decide (i ≤ (bn : Int))) == (decide (x6 = 0))))
    (R (.returned (.bool false)) w8)
    (NewVC w8 (.cells #[.pointer x] 25) fun g1 w9 =>
  AppVC Try.prog #[90, 90] 90 (.slice csA csn csc) (.slice (some ⟨g1, 0, none⟩) 1 1) w9 fun lA ln lc w10 =>
  NewVC w10 (.cells #[.pointer x0] 42) fun g2 w11 =>
  AppVC Try.prog #[91, 91] 91 (.slice dsA dsn dsc) (.slice (some ⟨g2, 0, none⟩) 1 1) w11 fun lA1 ln1 lc1 w12 =>
  K250 ((lA, ln, lc), (lA1, ln1, lc1), IntKind.i64.wrap (i + 1)) w12))
      (fun ch6 w8 => R (.panicked ch6) w8)))
      (fun ch5 w7 => R (.panicked ch5) w7))))
    (fun ch4 w6 => R (.panicked ch4) w6)))
    (fun ch3 w5 => R (.panicked ch3) w5))))
        (fun ch2 w4 => R (.panicked ch2) w4)))))
    (fun ch1 w3 => R (.panicked ch1) w3)))
    (fun ch w2 => R (.panicked ch) w2)))
    (JoinVC (S := Int) (fun J63 =>
      Br (decide (n < 0))
        (J63 39 w1)
        (Br (decide ((40 : Int) ≤ n))
        (J63 39 w1)
        (J63 n w1)))
    (fun s w13 => weirlaw1_ViewMany_J63 R bn csA csn dsA dsn s w13))
def weirlaw1_ViewMany_VC (bA : Option Addr) (bn : Nat) (bc : Nat) (n : Int) (w : World) (R : Ending → World → Prop) : Prop :=
  LoopVC (S := (Option Addr × Nat × Nat) × (Option Addr × Nat × Nat) × Int) (fun s w1 K250 => weirlaw1_ViewMany_L250 R bA bn bc n s.1.1 s.1.2.1 s.1.2.2 s.2.1.1 s.2.1.2.1 s.2.1.2.2 s.2.2 w1 K250) ((none, 0, 0), (none, 0, 0), 0) w
def weirlaw1_ViewMany_H : Hints := [(250, [(5, .slice), (6, .slice), (8, .int .i64)]), (63, [(1, .int .i64)]), (4090, [(13, .int .i64)]), (130889, [(14, .slice)]), (523559, [(15, .int .i64)])]
set_option maxRecDepth 100000 in
theorem weirlaw1_ViewMany_of (bA : Option Addr) (bn : Nat) (bc : Nat) (n : Int) (w : World) (R : Ending → World → Prop) (h : weirlaw1_ViewMany_VC bA bn bc n w R) :
    Calls Try.prog 15 #[.slice bA bn bc, .int .i64 n] w R :=
  calls_of_wpc callOk mixedOk (H := weirlaw1_ViewMany_H) (args := [.slice bA bn bc, .int .i64 n]) (fn := Try.f15) (c := bodyOf Try.f15) Try.func15 rfl (Nat.le_of_ble_eq_true rfl)
    (Eq.mp (by kernel_rfl : weirlaw1_ViewMany_VC bA bn bc n w R = wpc Try.prog callF Try.f15.ntmps weirlaw1_ViewMany_H 1 (bodyOf Try.f15) (argEnv 0 [.slice bA bn bc, .int .i64 n]) [] w (finish Try.prog callF Try.f15.results.toList R)) h)

def weirlaw1_roomy_L122 (R : Ending → World → Prop)  (wA : Option Addr) (wn : Nat) (wc : Nat) (i : Int) (w2 : World) (K122 : ((Option Addr × Nat × Nat) × Int → World → Prop)) : Prop :=
  Br (decide (i < 75))
    (NewVC w2 (.cells #[.int .u8 (IntKind.u8.wrap (IntKind.i64.wrap (201 + Int.tmod i 5)))] 5) fun g1 w3 =>
  AppVC Try.prog #[22, 22] 22 (.slice wA wn wc) (.slice (some ⟨g1, 0, none⟩) 1 1) w3 fun lA1 ln1 lc1 w4 =>
  K122 ((lA1, ln1, lc1), IntKind.i64.wrap (i + 1)) w4)
    (R (.returned (.slice wA wn wc)) w2)
def weirlaw1_roomy_VC (bA : Option Addr) (bn : Nat) (bc : Nat) (w : World) (R : Ending → World → Prop) : Prop :=
  AppVC Try.prog #[22, 22] 22 (.slice none 0 0) (.slice bA bn bc) w fun lA ln lc w1 =>
  LoopVC (S := (Option Addr × Nat × Nat) × Int) (fun s w2 K122 => weirlaw1_roomy_L122 R s.1.1 s.1.2.1 s.1.2.2 s.2 w2 K122) ((lA, ln, lc), 0) w1
def weirlaw1_roomy_H : Hints := [(122, [(3, .slice), (4, .int .i64)])]
set_option maxRecDepth 100000 in
theorem weirlaw1_roomy_of (bA : Option Addr) (bn : Nat) (bc : Nat) (w : World) (R : Ending → World → Prop) (h : weirlaw1_roomy_VC bA bn bc w R) :
    Calls Try.prog 16 #[.slice bA bn bc] w R :=
  calls_of_wpc callOk mixedOk (H := weirlaw1_roomy_H) (args := [.slice bA bn bc]) (fn := Try.f16) (c := bodyOf Try.f16) Try.func16 rfl (Nat.le_of_ble_eq_true rfl)
    (Eq.mp (by kernel_rfl : weirlaw1_roomy_VC bA bn bc w R = wpc Try.prog callF Try.f16.ntmps weirlaw1_roomy_H 1 (bodyOf Try.f16) (argEnv 0 [.slice bA bn bc]) [] w (finish Try.prog callF Try.f16.results.toList R)) h)

def view_At_VC (bA : Option Addr) (bn : Nat) (bc : Nat) (w : World) (R : Ending → World → Prop) : Prop :=
  NewVC w (.cells #[.slice bA bn bc, .int .i64 0] 94) fun g1 w1 =>
  R (.returned (.pointer (some ⟨g1, 0, none⟩))) w1
def view_At_H : Hints := []
set_option maxRecDepth 100000 in
theorem view_At_of (bA : Option Addr) (bn : Nat) (bc : Nat) (w : World) (R : Ending → World → Prop) (h : view_At_VC bA bn bc w R) :
    Calls Try.prog 17 #[.slice bA bn bc] w R :=
  calls_of_wpc callOk mixedOk (H := view_At_H) (args := [.slice bA bn bc]) (fn := Try.f17) (c := bodyOf Try.f17) Try.func17 rfl (Nat.le_of_ble_eq_true rfl)
    (Eq.mp (by kernel_rfl : view_At_VC bA bn bc w R = wpc Try.prog callF Try.f17.ntmps view_At_H 1 (bodyOf Try.f17) (argEnv 0 [.slice bA bn bc]) [] w (finish Try.prog callF Try.f17.results.toList R)) h)

def view_Cursor_Uint_VC (c : Option Addr) (n : Int) (w : World) (R : Ending → World → Prop) : Prop :=
  DrawVC w fun S1 w1 =>
  NilVC c fun p =>
  ∃ (xA : Option Addr) (xn xc : Nat), (∀ w' : World, S1 w' → w'.cell? p = some (.slice xA xn xc)) ∧
  NilVC c fun p1 =>
  ∃ x : Int, (∀ w' : World, S1 w' → w'.cell? (p1.add 1) = some (.int .i64 x)) ∧
  Calls Try.prog 27 #[.slice xA xn xc, .int .i64 x, .int .i64 n] w1 (onRet (fun r_ w2 => ∃ x0 : Int, ∃ x1 : Int, r_ = .tuple #[.int .u64 x0, .int .i64 x1] ∧
  S1 w2 ∧
  Br (decide (x1 = 0))
    (NilVC c fun p2 =>
    ∃ x2 : Int, w2.cell? (p2.add 1) = some (.int .i64 x2) ∧
    NilVC c fun p3 =>
    SetVC w2 (p3.add 1) (.int .i64 (IntKind.i64.wrap (x2 + n))) fun w3 =>
    R (.returned (.tuple #[.int .u64 x0, .int .i64 x1])) w3)
    (R (.returned (.tuple #[.int .u64 x0, .int .i64 x1])) w2))
    (fun _ _ => False))
def view_Cursor_Uint_H : Hints := []
set_option maxRecDepth 100000 in
theorem view_Cursor_Uint_of (c : Option Addr) (n : Int) (w : World) (R : Ending → World → Prop) (h : view_Cursor_Uint_VC c n w R) :
    Calls Try.prog 18 #[.pointer c, .int .i64 n] w R :=
  calls_of_wpc callOk mixedOk (H := view_Cursor_Uint_H) (args := [.pointer c, .int .i64 n]) (fn := Try.f18) (c := bodyOf Try.f18) Try.func18 rfl (Nat.le_of_ble_eq_true rfl)
    (Eq.mp (by kernel_rfl : view_Cursor_Uint_VC c n w R = wpc Try.prog callF Try.f18.ntmps view_Cursor_Uint_H 1 (bodyOf Try.f18) (argEnv 0 [.pointer c, .int .i64 n]) [] w (finish Try.prog callF Try.f18.results.toList R)) h)

def weirlaw1_num_VC (e_ : Int) (w : World) (R : Ending → World → Prop) : Prop :=
  R (.returned (.int .i64 e_)) w
def weirlaw1_num_H : Hints := []
set_option maxRecDepth 100000 in
theorem weirlaw1_num_of (e_ : Int) (w : World) (R : Ending → World → Prop) (h : weirlaw1_num_VC e_ w R) :
    Calls Try.prog 19 #[.int .i64 e_] w R :=
  calls_of_wpc callOk mixedOk (H := weirlaw1_num_H) (args := [.int .i64 e_]) (fn := Try.f19) (c := bodyOf Try.f19) Try.func19 rfl (Nat.le_of_ble_eq_true rfl)
    (Eq.mp (by kernel_rfl : weirlaw1_num_VC e_ w R = wpc Try.prog callF Try.f19.ntmps weirlaw1_num_H 1 (bodyOf Try.f19) (argEnv 0 [.int .i64 e_]) [] w (finish Try.prog callF Try.f19.results.toList R)) h)

def weirlaw1_stepped_J106 (R : Ending → World → Prop) (r : Option Addr) (wA : Option Addr) (wn : Nat) (g1 : Nat) (t37_ : Bool) (w3 : World) : Prop :=
  Br t37_
    (DrawVC w3 fun S2 w4 =>
    ∃ x3 : Int, (∀ w' : World, S2 w' → w'.cell? ⟨g1, 2, none⟩ = some (.int .i64 x3)) ∧
    ∃ x4 : Int, (∀ w' : World, S2 w' → w'.cell? ⟨g1, 2, none⟩ = some (.int .i64 x4)) ∧
    IdxVC wA wn 1 x4 fun a =>
    ∃ x5 : Int, (∀ w' : World, S2 w' → w'.cell? a = some (.int .u8 x5)) ∧
    IdxVC wA wn 1 x3 fun a1 =>
    SetVC w4 a1 (.int .u8 (IntKind.u8.wrap (x5 + 1))) fun w5 =>
    DrawVC w5 fun S3 w6 =>
    NilVC r fun p1 =>
    ∃ (xA1 : Option Addr) (xn1 xc1 : Nat), (∀ w' : World, S3 w' → w'.cell? p1 = some (.slice xA1 xn1 xc1)) ∧
    ∃ x6 : Int, (∀ w' : World, S3 w' → w'.cell? ⟨g1, 2, none⟩ = some (.int .i64 x6)) ∧
    ∃ x7 : Int, (∀ w' : World, S3 w' → w'.cell? ⟨g1, 2, none⟩ = some (.int .i64 x7)) ∧
    IdxVC wA wn 1 x7 fun a2 =>
    ∃ x8 : Int, (∀ w' : World, S3 w' → w'.cell? a2 = some (.int .u8 x8)) ∧
    IdxVC xA1 xn1 1 x6 fun a3 =>
    SetVC w6 a3 (.int .u8 x8) fun w7 =>
    R (.returned (.bool true)) w7)
    (R (.returned (.bool true)) w3)
def weirlaw1_stepped_VC (c : Option Addr) (r : Option Addr) (wA : Option Addr) (wn : Nat) (_wc : Nat) (s_Kind : Int) (s_Obj : Int) (s_N : Int) (w : World) (R : Ending → World → Prop) : Prop :=
  NewVC w (.cells #[.int .i64 s_Kind, .int .i64 s_Obj, .int .i64 s_N] 36) fun g1 w1 =>
  ∃ x : Int, w1.cell? ⟨g1, 0, none⟩ = some (.int .i64 x) ∧
  Br (decide (x = 6))
    (JoinVC (S := Bool) (fun J106 =>
        DrawVC w1 fun S1 w2 =>
        ∃ x1 : Int, (∀ w' : World, S1 w' → w'.cell? ⟨g1, 2, none⟩ = some (.int .i64 x1)) ∧
        Br (decide ((0 : Int) ≤ x1))
          (∃ x2 : Int, (∀ w' : World, S1 w' → w'.cell? ⟨g1, 2, none⟩ = some (.int .i64 x2)) ∧
          NilVC r fun p =>
          ∃ (xA : Option Addr) (xn xc : Nat), (∀ w' : World, S1 w' → w'.cell? p = some (.slice xA xn xc)) ∧
          J106 (decide (x2 < (xn : Int))) w2)
          (J106 false w2))
      (fun s w3 => weirlaw1_stepped_J106 R r wA wn g1 s w3))
    (Br (decide (x = 1))
      (∃ x9 : Int, w1.cell? ⟨g1, 2, none⟩ = some (.int .i64 x9) ∧
      Calls Try.prog 18 #[.pointer c, .int .i64 x9] w1 (onRet (fun r_ w8 => ∃ x0 : Int, ∃ x11 : Int, r_ = .tuple #[.int .u64 x0, .int .i64 x11] ∧
      ∃ x10 : Int, w8.cell? ⟨g1, 2, none⟩ = some (.int .i64 x10) ∧
      Calls Try.prog 47 #[.pointer r, .int .i64 x10] w8 (onRet (fun r_1 w9 => ∃ x01 : Int, ∃ x12 : Int, r_1 = .tuple #[.int .u64 x01, .int .i64 x12] ∧
      Br (decide (x0 = x01))
        (Calls Try.prog 19 #[.int .i64 x11] w9 (onRet (fun r_2 w10 => ∃ x13 : Int, r_2 = .int .i64 x13 ∧
        R (.returned (.bool (decide (x13 = x12)))) w10)
          (fun ch2 w10 => R (.panicked ch2) w10)))
        (R (.returned (.bool false)) w9))
        (fun ch1 w9 => R (.panicked ch1) w9)))
        (fun ch w8 => R (.panicked ch) w8)))
      (Br (decide (x = 2))
        (∃ x14 : Int, w1.cell? ⟨g1, 2, none⟩ = some (.int .i64 x14) ∧
        Calls Try.prog 35 #[.pointer c, .int .i64 x14] w1 (onRet (fun r_3 w11 => ∃ (x0A : Option Addr) (x0n x0c : Nat), ∃ x15 : Int, r_3 = .tuple #[.slice x0A x0n x0c, .int .i64 x15] ∧
        ∃ x16 : Int, w11.cell? ⟨g1, 2, none⟩ = some (.int .i64 x16) ∧
        Calls Try.prog 48 #[.pointer r, .int .i64 x16] w11 (onRet (fun r_4 w12 => ∃ (x0A1 : Option Addr) (x0n1 x0c1 : Nat), ∃ x17 : Int, r_4 = .tuple #[.slice x0A1 x0n1 x0c1, .int .i64 x17] ∧
        Calls Try.prog 22 #[.slice x0A x0n x0c, .slice x0A1 x0n1 x0c1] w12 (onRet (fun r_5 w13 => ∃ x18 : Bool, r_5 = .bool x18 ∧
        Br x18
          (Calls Try.prog 19 #[.int .i64 x15] w13 (onRet (fun r_6 w14 => ∃ x19 : Int, r_6 = .int .i64 x19 ∧
          R (.returned (.bool (decide (x19 = x17)))) w14)
            (fun ch6 w14 => R (.panicked ch6) w14)))
          (R (.returned (.bool false)) w13))
          (fun ch5 w13 => R (.panicked ch5) w13)))
          (fun ch4 w12 => R (.panicked ch4) w12)))
          (fun ch3 w11 => R (.panicked ch3) w11)))
        (Br (decide (x = 3))
          (∃ x20 : Int, w1.cell? ⟨g1, 2, none⟩ = some (.int .i64 x20) ∧
          Calls Try.prog 34 #[.pointer c, .int .i64 x20] w1 (onRet (fun r_7 w15 => ∃ x21 : Int, r_7 = .int .i64 x21 ∧
          ∃ x22 : Int, w15.cell? ⟨g1, 2, none⟩ = some (.int .i64 x22) ∧
          Calls Try.prog 49 #[.pointer r, .int .i64 x22] w15 (onRet (fun r_8 w16 => ∃ x23 : Int, r_8 = .int .i64 x23 ∧
          Calls Try.prog 19 #[.int .i64 x21] w16 (onRet (fun r_9 w17 => ∃ x24 : Int, r_9 = .int .i64 x24 ∧
          R (.returned (.bool (decide (x24 = x23)))) w17)
            (fun ch9 w17 => R (.panicked ch9) w17)))
            (fun ch8 w16 => R (.panicked ch8) w16)))
            (fun ch7 w15 => R (.panicked ch7) w15)))
          (Br (decide (x = 4))
            (Calls Try.prog 21 #[.pointer c] w1 (onRet (fun r_10 w18 => ∃ x25 : Int, r_10 = .int .i64 x25 ∧
            DrawVC w18 fun S4 w19 =>
            NilVC r fun p2 =>
            ∃ (xA2 : Option Addr) (xn2 xc2 : Nat), (∀ w' : World, S4 w' → w'.cell? p2 = some (.slice xA2 xn2 xc2)) ∧
            NilVC r fun p3 =>
            ∃ x26 : Int, (∀ w' : World, S4 w' → w'.cell? (p3.add 1) = some (.int .i64 x26)) ∧
            R (.returned (.bool (decide (x25 = IntKind.i64.wrap ((xn2 : Int) - x26))))) w19)
              (fun ch10 w18 => R (.panicked ch10) w18)))
            (Br (decide (x = 5))
              (Calls Try.prog 46 #[.pointer c] w1 (onRet (fun r_11 w20 => ∃ x27 : Int, r_11 = .int .i64 x27 ∧
              NilVC r fun p4 =>
              ∃ x28 : Int, w20.cell? (p4.add 1) = some (.int .i64 x28) ∧
              R (.returned (.bool (decide (x27 = x28)))) w20)
                (fun ch11 w20 => R (.panicked ch11) w20)))
              (R (.returned (.bool true)) w1))))))
def weirlaw1_stepped_H : Hints := [(106, [(37, .bool)])]
set_option maxRecDepth 100000 in
theorem weirlaw1_stepped_of (c : Option Addr) (r : Option Addr) (wA : Option Addr) (wn : Nat) (wc : Nat) (s_Kind : Int) (s_Obj : Int) (s_N : Int) (w : World) (R : Ending → World → Prop) (h : weirlaw1_stepped_VC c r wA wn wc s_Kind s_Obj s_N w R) :
    Calls Try.prog 20 #[.pointer c, .pointer r, .slice wA wn wc, .agg #[.int .i64 s_Kind, .int .i64 s_Obj, .int .i64 s_N]] w R :=
  calls_of_wpc callOk mixedOk (H := weirlaw1_stepped_H) (args := [.pointer c, .pointer r, .slice wA wn wc, .agg #[.int .i64 s_Kind, .int .i64 s_Obj, .int .i64 s_N]]) (fn := Try.f20) (c := bodyOf Try.f20) Try.func20 rfl (Nat.le_of_ble_eq_true rfl)
    (Eq.mp (by kernel_rfl : weirlaw1_stepped_VC c r wA wn wc s_Kind s_Obj s_N w R = wpc Try.prog callF Try.f20.ntmps weirlaw1_stepped_H 1 (bodyOf Try.f20) (argEnv 0 [.pointer c, .pointer r, .slice wA wn wc, .agg #[.int .i64 s_Kind, .int .i64 s_Obj, .int .i64 s_N]]) [] w (finish Try.prog callF Try.f20.results.toList R)) h)

def view_Cursor_Left_VC (c : Option Addr) (w : World) (R : Ending → World → Prop) : Prop :=
  DrawVC w fun S1 w1 =>
  NilVC c fun p =>
  ∃ (xA : Option Addr) (xn xc : Nat), (∀ w' : World, S1 w' → w'.cell? p = some (.slice xA xn xc)) ∧
  NilVC c fun p1 =>
  ∃ x : Int, (∀ w' : World, S1 w' → w'.cell? (p1.add 1) = some (.int .i64 x)) ∧
  R (.returned (.int .i64 (IntKind.i64.wrap ((xn : Int) - x)))) w1
def view_Cursor_Left_H : Hints := []
set_option maxRecDepth 100000 in
theorem view_Cursor_Left_of (c : Option Addr) (w : World) (R : Ending → World → Prop) (h : view_Cursor_Left_VC c w R) :
    Calls Try.prog 21 #[.pointer c] w R :=
  calls_of_wpc callOk mixedOk (H := view_Cursor_Left_H) (args := [.pointer c]) (fn := Try.f21) (c := bodyOf Try.f21) Try.func21 rfl (Nat.le_of_ble_eq_true rfl)
    (Eq.mp (by kernel_rfl : view_Cursor_Left_VC c w R = wpc Try.prog callF Try.f21.ntmps view_Cursor_Left_H 1 (bodyOf Try.f21) (argEnv 0 [.pointer c]) [] w (finish Try.prog callF Try.f21.results.toList R)) h)

def weirlaw1_same_VC (aA : Option Addr) (an : Nat) (ac : Nat) (bA : Option Addr) (bn : Nat) (bc : Nat) (w : World) (R : Ending → World → Prop) : Prop :=
  StrVC Try.prog (.slice aA an ac) w fun str =>
  StrVC Try.prog (.slice bA bn bc) w fun str1 =>
  R (.returned (.bool (str.toList == str1.toList))) w
def weirlaw1_same_H : Hints := []
set_option maxRecDepth 100000 in
theorem weirlaw1_same_of (aA : Option Addr) (an : Nat) (ac : Nat) (bA : Option Addr) (bn : Nat) (bc : Nat) (w : World) (R : Ending → World → Prop) (h : weirlaw1_same_VC aA an ac bA bn bc w R) :
    Calls Try.prog 22 #[.slice aA an ac, .slice bA bn bc] w R :=
  calls_of_wpc callOk mixedOk (H := weirlaw1_same_H) (args := [.slice aA an ac, .slice bA bn bc]) (fn := Try.f22) (c := bodyOf Try.f22) Try.func22 rfl (Nat.le_of_ble_eq_true rfl)
    (Eq.mp (by kernel_rfl : weirlaw1_same_VC aA an ac bA bn bc w R = wpc Try.prog callF Try.f22.ntmps weirlaw1_same_H 1 (bodyOf Try.f22) (argEnv 0 [.slice aA an ac, .slice bA bn bc]) [] w (finish Try.prog callF Try.f22.results.toList R)) h)

def view_NewBuilder_VC (max : Int) (w : World) (R : Ending → World → Prop) : Prop :=
  Br (decide (max < 0))
    (R (.returned (.tuple #[.pointer none, .int .i64 1])) w)
    (Br (decide ((65535 : Int) < max))
    (R (.returned (.tuple #[.pointer none, .int .i64 1])) w)
    (NewVC w (.cells #[.slice none 0 0, .int .i64 max] 101) fun g1 w1 =>
  R (.returned (.tuple #[.pointer (some ⟨g1, 0, none⟩), .int .i64 0])) w1))
def view_NewBuilder_H : Hints := []
set_option maxRecDepth 100000 in
theorem view_NewBuilder_of (max : Int) (w : World) (R : Ending → World → Prop) (h : view_NewBuilder_VC max w R) :
    Calls Try.prog 23 #[.int .i64 max] w R :=
  calls_of_wpc callOk mixedOk (H := view_NewBuilder_H) (args := [.int .i64 max]) (fn := Try.f23) (c := bodyOf Try.f23) Try.func23 rfl (Nat.le_of_ble_eq_true rfl)
    (Eq.mp (by kernel_rfl : view_NewBuilder_VC max w R = wpc Try.prog callF Try.f23.ntmps view_NewBuilder_H 1 (bodyOf Try.f23) (argEnv 0 [.int .i64 max]) [] w (finish Try.prog callF Try.f23.results.toList R)) h)

def view_Builder_Put_VC (b : Option Addr) (n : Int) (v_ : Int) (w : World) (R : Ending → World → Prop) : Prop :=
  Calls Try.prog 50 #[.int .i64 n] w (onRet (fun r_ w1 => ∃ x : Bool, r_ = .bool x ∧
  Br (!x)
    (R (.returned (.int .i64 1)) w1)
    (Calls Try.prog 51 #[.int .i64 n, .int .u64 v_] w1 (onRet (fun r_1 w2 => ∃ x1 : Bool, r_1 = .bool x1 ∧
    Br (!x1)
      (R (.returned (.int .i64 12)) w2)
      (DrawVC w2 fun S1 w3 =>
      NilVC b fun p =>
      ∃ x2 : Int, (∀ w' : World, S1 w' → w'.cell? (p.add 1) = some (.int .i64 x2)) ∧
      NilVC b fun p1 =>
      ∃ (xA : Option Addr) (xn xc : Nat), (∀ w' : World, S1 w' → w'.cell? p1 = some (.slice xA xn xc)) ∧
      Br (decide (IntKind.i64.wrap (x2 - (xn : Int)) < n))
        (R (.returned (.int .i64 13)) w3)
        (MakeVC w3 5 1 [.int .u8 0] n n fun g1 w4 =>
  Calls Try.prog 52 #[.slice (some ⟨g1, 0, none⟩) n.toNat n.toNat, .int .u64 v_] w4 (onRet (fun r_2 w5 => r_2 = .tuple #[] ∧
  NilVC b fun p2 =>
  ∃ (xA1 : Option Addr) (xn1 xc1 : Nat), w5.cell? p2 = some (.slice xA1 xn1 xc1) ∧
  AppVC Try.prog #[22, 22] 22 (.slice xA1 xn1 xc1) (.slice (some ⟨g1, 0, none⟩) n.toNat n.toNat) w5 fun lA ln lc w6 =>
  NilVC b fun p3 =>
  SetVC w6 p3 (.slice lA ln lc) fun w7 =>
  R (.returned (.int .i64 0)) w7)
    (fun ch2 w5 => R (.panicked ch2) w5)))))
      (fun ch1 w2 => R (.panicked ch1) w2))))
    (fun ch w1 => R (.panicked ch) w1))
def view_Builder_Put_H : Hints := []
set_option maxRecDepth 100000 in
theorem view_Builder_Put_of (b : Option Addr) (n : Int) (v_ : Int) (w : World) (R : Ending → World → Prop) (h : view_Builder_Put_VC b n v_ w R) :
    Calls Try.prog 24 #[.pointer b, .int .i64 n, .int .u64 v_] w R :=
  calls_of_wpc callOk mixedOk (H := view_Builder_Put_H) (args := [.pointer b, .int .i64 n, .int .u64 v_]) (fn := Try.f24) (c := bodyOf Try.f24) Try.func24 rfl (Nat.le_of_ble_eq_true rfl)
    (Eq.mp (by kernel_rfl : view_Builder_Put_VC b n v_ w R = wpc Try.prog callF Try.f24.ntmps view_Builder_Put_H 1 (bodyOf Try.f24) (argEnv 0 [.pointer b, .int .i64 n, .int .u64 v_]) [] w (finish Try.prog callF Try.f24.results.toList R)) h)

def view_Builder_Done_VC (b : Option Addr) (w : World) (R : Ending → World → Prop) : Prop :=
  NilVC b fun p =>
  ∃ (xA : Option Addr) (xn xc : Nat), w.cell? p = some (.slice xA xn xc) ∧
  MakeVC w 5 1 [.int .u8 0] (xn : Int) (xn : Int) fun g1 w1 =>
  NilVC b fun p1 =>
  ∃ (xA1 : Option Addr) (xn1 xc1 : Nat), w1.cell? p1 = some (.slice xA1 xn1 xc1) ∧
  CopyVC Try.prog #[22, 22] 3 (.slice (some ⟨g1, 0, none⟩) xn xn) (.slice xA1 xn1 xc1) w1 fun _m w2 =>
  R (.returned (.slice (some ⟨g1, 0, none⟩) xn xn)) w2
def view_Builder_Done_H : Hints := []
set_option maxRecDepth 100000 in
theorem view_Builder_Done_of (b : Option Addr) (w : World) (R : Ending → World → Prop) (h : view_Builder_Done_VC b w R) :
    Calls Try.prog 25 #[.pointer b] w R :=
  calls_of_wpc callOk mixedOk (H := view_Builder_Done_H) (args := [.pointer b]) (fn := Try.f25) (c := bodyOf Try.f25) Try.func25 rfl (Nat.le_of_ble_eq_true rfl)
    (Eq.mp (by kernel_rfl : view_Builder_Done_VC b w R = wpc Try.prog callF Try.f25.ntmps view_Builder_Done_H 1 (bodyOf Try.f25) (argEnv 0 [.pointer b]) [] w (finish Try.prog callF Try.f25.results.toList R)) h)

def weirlaw1_acted_L3530746 (R : Ending → World → Prop) (x1A : Option Addr) (x1n : Nat) (i2 : Int) (w18 : World) (K3530746 : (Int → World → Prop)) : Prop :=
  Br (decide (i2 < (x1n : Int)))
    (IdxVC x1A x1n 1 i2 fun a3 =>
  SetVC w18 a3 (.int .u8 99) fun w19 =>
  K3530746 (IntKind.i64.wrap (i2 + 1)) w19)
    (R (.returned (.bool true)) w18)
def weirlaw1_acted_L1765370 (R : Ending → World → Prop) (x1A : Option Addr) (x1n : Nat) (listA : Option Addr) (listn : Nat) (i1 : Int) (w17 : World) (K1765370 : (Int → World → Prop)) : Prop :=
  Br (decide (i1 < (listn : Int)))
    (IdxVC listA listn 1 i1 fun a =>
  ∃ (xA5 : Option Addr) (xn5 xc5 : Nat), w17.cell? a = some (.slice xA5 xn5 xc5) ∧
  Br (decide ((xn5 : Int) ≠ 1))
    (R (.returned (.bool false)) w17)
    (IdxVC listA listn 1 i1 fun a1 =>
    ∃ (xA6 : Option Addr) (xn6 xc6 : Nat), w17.cell? a1 = some (.slice xA6 xn6 xc6) ∧
    IdxVC xA6 xn6 1 0 fun a2 =>
    ∃ x13 : Int, w17.cell? a2 = some (.int .u8 x13) ∧
    Br (decide (x13 ≠ 207))
    (R (.returned (.bool false)) w17)
    (K1765370 (IntKind.i64.wrap (i1 + 1)) w17)))
    (LoopVC (S := Int) (fun s w18 K3530746 => weirlaw1_acted_L3530746 R x1A x1n s w18 K3530746) 0 w17)
def weirlaw1_acted_L55162 (R : Ending → World → Prop) (b : Option Addr) (r : Option Addr) (g1 : Nat) (x0n : Nat) (x1A : Option Addr) (x1n : Nat) (x1c : Nat) (x0n1 : Nat) (listA : Option Addr) (listn : Nat) (listc : Nat) (i : Int) (w8 : World) (K55162 : ((Option Addr × Nat × Nat) × Int → World → Prop)) : Prop :=
  Br (decide (i < 20))
    (NewVC w8 (.cells #[.int .u8 207] 5) fun g2 w9 =>
  NewVC w9 (.cells #[.slice (some ⟨g2, 0, none⟩) 1 1] 22) fun g3 w10 =>
  AppVC Try.prog #[50, 50] 50 (.slice listA listn listc) (.slice (some ⟨g3, 0, none⟩) 1 1) w10 fun lA ln lc w11 =>
  K55162 ((lA, ln, lc), IntKind.i64.wrap (i + 1)) w11)
    (SliceVC listA listn listc 1 none (some (x0n : Int)) none fun sA sn sc =>
      Calls Try.prog 40 #[.pointer b, .slice sA sn sc] w8 (onRet (fun r_6 w12 => ∃ x9 : Int, r_6 = .int .i64 x9 ∧
      ∃ (xA3 : Option Addr) (xn3 xc3 : Nat), w12.cell? ⟨g1, 5, none⟩ = some (.slice xA3 xn3 xc3) ∧
      Calls Try.prog 56 #[.pointer r, .slice xA3 xn3 xc3] w12 (onRet (fun r_7 w13 => ∃ x10 : Int, r_7 = .int .i64 x10 ∧
      ∃ (xA4 : Option Addr) (xn4 xc4 : Nat), w13.cell? ⟨g1, 5, none⟩ = some (.slice xA4 xn4 xc4) ∧
      Calls Try.prog 55 #[.slice xA4 xn4 xc4] w13 (onRet (fun r_8 w14 => ∃ (x0A2 : Option Addr) (x0n2 x0c2 : Nat), ∃ (x1A2 : Option Addr) (x1n2 x1c2 : Nat), r_8 = .tuple #[.slice x0A2 x0n2 x0c2, .slice x1A2 x1n2 x1c2] ∧
      Calls Try.prog 19 #[.int .i64 x9] w14 (onRet (fun r_9 w15 => ∃ x11 : Int, r_9 = .int .i64 x11 ∧
      Br (decide (x11 ≠ x10))
        (R (.returned (.bool false)) w15)
        (Calls Try.prog 22 #[.slice x1A x1n x1c, .slice x1A2 x1n2 x1c2] w15 (onRet (fun r_10 w16 => ∃ x12 : Bool, r_10 = .bool x12 ∧
        Br (!x12)
        (R (.returned (.bool false)) w16)
        (LoopVC (S := Int) (fun s w17 K1765370 => weirlaw1_acted_L1765370 R x1A x1n listA listn s w17 K1765370) (x0n1 : Int) w16))
          (fun ch10 w16 => R (.panicked ch10) w16))))
        (fun ch9 w15 => R (.panicked ch9) w15)))
        (fun ch8 w14 => R (.panicked ch8) w14)))
        (fun ch7 w13 => R (.panicked ch7) w13)))
        (fun ch6 w12 => R (.panicked ch6) w12)))
def weirlaw1_acted_L884698 (R : Ending → World → Prop) (xA8 : Option Addr) (xn8 : Nat) (xc8 : Nat) (x24 : Bool) (i3 : Int) (w26 : World) (K884698 : (Int → World → Prop)) : Prop :=
  Br (decide (i3 < (xn8 : Int)))
    (IdxVC xA8 xn8 1 i3 fun a4 =>
  SetVC w26 a4 (.int .u8 98) fun w27 =>
  K884698 (IntKind.i64.wrap (i3 + 1)) w27)
    (NewVC w26 (.cells #[.int .u8 97, .int .u8 97, .int .u8 97] 5) fun g4 w28 =>
            AppVC Try.prog #[22, 22] 22 (.slice xA8 xn8 xc8) (.slice (some ⟨g4, 0, none⟩) 3 3) w28 fun _lA1 ln1 _lc1 w29 =>
            Br x24
              (R (.returned (.bool (decide ((ln1 : Int) = IntKind.i64.wrap ((xn8 : Int) + 3))))) w29)
              (R (.returned (.bool false)) w29))
def weirlaw1_acted_VC (b : Option Addr) (r : Option Addr) (a_Kind : Int) (a_Obj : Int) (a_At : Int) (a_N : Int) (a_V : Int) (a_PartsA : Option Addr) (a_Partsn : Nat) (a_Partsc : Nat) (w : World) (R : Ending → World → Prop) : Prop :=
  NewVC w (.cells #[.int .i64 a_Kind, .int .i64 a_Obj, .int .i64 a_At, .int .i64 a_N, .int .u64 a_V, .slice a_PartsA a_Partsn a_Partsc] 52) fun g1 w1 =>
  ∃ x : Int, w1.cell? ⟨g1, 0, none⟩ = some (.int .i64 x) ∧
  Br (decide (x = 1))
    (∃ x1 : Int, w1.cell? ⟨g1, 3, none⟩ = some (.int .i64 x1) ∧
    ∃ x2 : Int, w1.cell? ⟨g1, 4, none⟩ = some (.int .u64 x2) ∧
    Calls Try.prog 24 #[.pointer b, .int .i64 x1, .int .u64 x2] w1 (onRet (fun r_ w2 => ∃ x3 : Int, r_ = .int .i64 x3 ∧
    ∃ x4 : Int, w2.cell? ⟨g1, 3, none⟩ = some (.int .i64 x4) ∧
    ∃ x5 : Int, w2.cell? ⟨g1, 4, none⟩ = some (.int .u64 x5) ∧
    Calls Try.prog 53 #[.pointer r, .int .i64 x4, .int .u64 x5] w2 (onRet (fun r_1 w3 => ∃ x6 : Int, r_1 = .int .i64 x6 ∧
    Calls Try.prog 19 #[.int .i64 x3] w3 (onRet (fun r_2 w4 => ∃ x7 : Int, r_2 = .int .i64 x7 ∧
    R (.returned (.bool (decide (x7 = x6)))) w4)
      (fun ch2 w4 => R (.panicked ch2) w4)))
      (fun ch1 w3 => R (.panicked ch1) w3)))
      (fun ch w2 => R (.panicked ch) w2)))
    (Br (decide (x = 2))
      (∃ (xA : Option Addr) (xn xc : Nat), w1.cell? ⟨g1, 5, none⟩ = some (.slice xA xn xc) ∧
      Calls Try.prog 54 #[.slice xA xn xc] w1 (onRet (fun r_3 w5 => ∃ x8 : Bool, r_3 = .bool x8 ∧
      Br (!x8)
        (R (.returned (.bool true)) w5)
        (∃ (xA1 : Option Addr) (xn1 xc1 : Nat), w5.cell? ⟨g1, 5, none⟩ = some (.slice xA1 xn1 xc1) ∧
      Calls Try.prog 55 #[.slice xA1 xn1 xc1] w5 (onRet (fun r_4 w6 => ∃ (x0A : Option Addr) (x0n x0c : Nat), ∃ (x1A : Option Addr) (x1n x1c : Nat), r_4 = .tuple #[.slice x0A x0n x0c, .slice x1A x1n x1c] ∧
      ∃ (xA2 : Option Addr) (xn2 xc2 : Nat), w6.cell? ⟨g1, 5, none⟩ = some (.slice xA2 xn2 xc2) ∧
      Calls Try.prog 55 #[.slice xA2 xn2 xc2] w6 (onRet (fun r_5 w7 => ∃ (x0A1 : Option Addr) (x0n1 x0c1 : Nat), ∃ (x1A1 : Option Addr) (x1n1 x1c1 : Nat), r_5 = .tuple #[.slice x0A1 x0n1 x0c1, .slice x1A1 x1n1 x1c1] ∧
      LoopVC (S := (Option Addr × Nat × Nat) × Int) (fun s w8 K55162 => weirlaw1_acted_L55162 R b r g1 x0n x1A x1n x1c x0n1 s.1.1 s.1.2.1 s.1.2.2 s.2 w8 K55162) ((x0A, x0n, x0c), 0) w7)
        (fun ch5 w7 => R (.panicked ch5) w7)))
        (fun ch4 w6 => R (.panicked ch4) w6))))
        (fun ch3 w5 => R (.panicked ch3) w5)))
      (Br (decide (x = 3))
        (∃ x14 : Int, w1.cell? ⟨g1, 2, none⟩ = some (.int .i64 x14) ∧
        ∃ x15 : Int, w1.cell? ⟨g1, 3, none⟩ = some (.int .i64 x15) ∧
        ∃ x16 : Int, w1.cell? ⟨g1, 4, none⟩ = some (.int .u64 x16) ∧
        Calls Try.prog 57 #[.pointer b, .int .i64 x14, .int .i64 x15, .int .u64 x16] w1 (onRet (fun r_11 w20 => ∃ x17 : Int, r_11 = .int .i64 x17 ∧
        ∃ x18 : Int, w20.cell? ⟨g1, 2, none⟩ = some (.int .i64 x18) ∧
        ∃ x19 : Int, w20.cell? ⟨g1, 3, none⟩ = some (.int .i64 x19) ∧
        ∃ x20 : Int, w20.cell? ⟨g1, 4, none⟩ = some (.int .u64 x20) ∧
        Calls Try.prog 58 #[.pointer r, .int .i64 x18, .int .i64 x19, .int .u64 x20] w20 (onRet (fun r_12 w21 => ∃ x21 : Int, r_12 = .int .i64 x21 ∧
        Calls Try.prog 19 #[.int .i64 x17] w21 (onRet (fun r_13 w22 => ∃ x22 : Int, r_13 = .int .i64 x22 ∧
        R (.returned (.bool (decide (x22 = x21)))) w22)
          (fun ch13 w22 => R (.panicked ch13) w22)))
          (fun ch12 w21 => R (.panicked ch12) w21)))
          (fun ch11 w20 => R (.panicked ch11) w20)))
        (Br (decide (x = 4))
          (Calls Try.prog 45 #[.pointer b] w1 (onRet (fun r_14 w23 => ∃ x23 : Int, r_14 = .int .i64 x23 ∧
          NilVC r fun p =>
          ∃ (xA7 : Option Addr) (xn7 xc7 : Nat), w23.cell? (p.add 1) = some (.slice xA7 xn7 xc7) ∧
          R (.returned (.bool (decide (x23 = (xn7 : Int))))) w23)
            (fun ch14 w23 => R (.panicked ch14) w23)))
          (Br (decide (x = 5))
            (Calls Try.prog 25 #[.pointer b] w1 (onRet (fun r_15 w24 => ∃ (xA8 : Option Addr) (xn8 xc8 : Nat), r_15 = .slice xA8 xn8 xc8 ∧
            NilVC r fun p1 =>
            ∃ (xA9 : Option Addr) (xn9 xc9 : Nat), w24.cell? (p1.add 1) = some (.slice xA9 xn9 xc9) ∧
            Calls Try.prog 22 #[.slice xA8 xn8 xc8, .slice xA9 xn9 xc9] w24 (onRet (fun r_16 w25 => ∃ x24 : Bool, r_16 = .bool x24 ∧
            LoopVC (S := Int) (fun s w26 K884698 => weirlaw1_acted_L884698 R xA8 xn8 xc8 x24 s w26 K884698) 0 w25)
              (fun ch16 w25 => R (.panicked ch16) w25)))
              (fun ch15 w24 => R (.panicked ch15) w24)))
            (R (.returned (.bool true)) w1)))))
def weirlaw1_acted_H : Hints := [(55162, [(13, .slice), (14, .int .i64)]), (1765370, [(19, .int .i64)]), (3530746, [(20, .int .i64)]), (884698, [(26, .int .i64)])]
set_option maxRecDepth 100000 in
theorem weirlaw1_acted_of (b : Option Addr) (r : Option Addr) (a_Kind : Int) (a_Obj : Int) (a_At : Int) (a_N : Int) (a_V : Int) (a_PartsA : Option Addr) (a_Partsn : Nat) (a_Partsc : Nat) (w : World) (R : Ending → World → Prop) (h : weirlaw1_acted_VC b r a_Kind a_Obj a_At a_N a_V a_PartsA a_Partsn a_Partsc w R) :
    Calls Try.prog 26 #[.pointer b, .pointer r, .agg #[.int .i64 a_Kind, .int .i64 a_Obj, .int .i64 a_At, .int .i64 a_N, .int .u64 a_V, .slice a_PartsA a_Partsn a_Partsc]] w R :=
  calls_of_wpc callOk mixedOk (H := weirlaw1_acted_H) (args := [.pointer b, .pointer r, .agg #[.int .i64 a_Kind, .int .i64 a_Obj, .int .i64 a_At, .int .i64 a_N, .int .u64 a_V, .slice a_PartsA a_Partsn a_Partsc]]) (fn := Try.f26) (c := bodyOf Try.f26) Try.func26 rfl (Nat.le_of_ble_eq_true rfl)
    (Eq.mp (by kernel_rfl : weirlaw1_acted_VC b r a_Kind a_Obj a_At a_N a_V a_PartsA a_Partsn a_Partsc w R = wpc Try.prog callF Try.f26.ntmps weirlaw1_acted_H 1 (bodyOf Try.f26) (argEnv 0 [.pointer b, .pointer r, .agg #[.int .i64 a_Kind, .int .i64 a_Obj, .int .i64 a_At, .int .i64 a_N, .int .u64 a_V, .slice a_PartsA a_Partsn a_Partsc]]) [] w (finish Try.prog callF Try.f26.results.toList R)) h)

def view_Uint_VC (bA : Option Addr) (bn : Nat) (bc : Nat) (at_ : Int) (n : Int) (w : World) (R : Ending → World → Prop) : Prop :=
  NewVC w (.cells #[.int .u64 0] 27) fun g1 w1 =>
  NewVC w1 (.cells #[.int .i64 0] 28) fun g2 w2 =>
  Calls Try.prog 50 #[.int .i64 n] w2 (onRet (fun r_ w3 => ∃ x : Bool, r_ = .bool x ∧
  Br (!x)
    (SetVC w3 ⟨g1, 0, none⟩ (.int .u64 0) fun w4 =>
    SetVC w4 ⟨g2, 0, none⟩ (.int .i64 1) fun w5 =>
    ∃ res : Int, w5.cell? ⟨g1, 0, none⟩ = some (.int .u64 res) ∧
  ∃ res1 : Int, w5.cell? ⟨g2, 0, none⟩ = some (.int .i64 res1) ∧
  R (.returned (.tuple #[.int .u64 res, .int .i64 res1])) w5)
    (Calls Try.prog 60 #[.slice bA bn bc, .int .i64 at_, .int .i64 n] w3 (onRet (fun r_1 w6 => ∃ x1 : Int, r_1 = .int .u64 x1 ∧
  SetVC w6 ⟨g1, 0, none⟩ (.int .u64 x1) fun w7 =>
  SetVC w7 ⟨g2, 0, none⟩ (.int .i64 0) fun w8 =>
  leaveWp Try.prog callF (fun w9 => ∃ res2 : Int, w9.cell? ⟨g1, 0, none⟩ = some (.int .u64 res2) ∧
    ∃ res3 : Int, w9.cell? ⟨g2, 0, none⟩ = some (.int .i64 res3) ∧
    R (.returned (.tuple #[.int .u64 res2, .int .i64 res3])) w9)
    R [{ target := .fn (.func 59) #[.pointer (some ⟨g1, 0, none⟩), .pointer (some ⟨g2, 0, none⟩)], args := #[] }] .returning w8)
    (fun ch1 w6 => leaveWp Try.prog callF (fun w10 => ∃ res4 : Int, w10.cell? ⟨g1, 0, none⟩ = some (.int .u64 res4) ∧
    ∃ res5 : Int, w10.cell? ⟨g2, 0, none⟩ = some (.int .i64 res5) ∧
    R (.returned (.tuple #[.int .u64 res4, .int .i64 res5])) w10)
    R [{ target := .fn (.func 59) #[.pointer (some ⟨g1, 0, none⟩), .pointer (some ⟨g2, 0, none⟩)], args := #[] }] (.panicking ch1) w6))))
    (fun ch w3 => R (.panicked ch) w3))
def view_Uint_H : Hints := []
set_option maxRecDepth 100000 in
theorem view_Uint_of (bA : Option Addr) (bn : Nat) (bc : Nat) (at_ : Int) (n : Int) (w : World) (R : Ending → World → Prop) (h : view_Uint_VC bA bn bc at_ n w R) :
    Calls Try.prog 27 #[.slice bA bn bc, .int .i64 at_, .int .i64 n] w R :=
  calls_of_wpc callOk mixedOk (H := view_Uint_H) (args := [.slice bA bn bc, .int .i64 at_, .int .i64 n]) (fn := Try.f27) (c := bodyOf Try.f27) Try.func27 rfl (Nat.le_of_ble_eq_true rfl)
    (Eq.mp (by kernel_rfl : view_Uint_VC bA bn bc at_ n w R = wpc Try.prog callF Try.f27.ntmps view_Uint_H 1 (bodyOf Try.f27) (argEnv 0 [.slice bA bn bc, .int .i64 at_, .int .i64 n]) [] w (finish Try.prog callF Try.f27.results.toList R)) h)

def view_Fields_L1042842 (R : Ending → World → Prop) (g1 : Nat) (g2 : Nat) (g3 : Nat) (xA : Option Addr) (xn : Nat) (xc : Nat) (t30_ : Int) (K1018 : (Int × Int → World → Prop)) (x3 : Int) (bit1 : Int) (v_ : Int) (t35_ : Int) (w12 : World) (K1042842 : (Int × Int × Int → World → Prop)) : Prop :=
  Br (decide (t35_ < x3))
    (Calls Try.prog 64 #[.slice xA xn xc, .int .i64 (IntKind.i64.wrap (Int.tdiv bit1 8))] w12 (onRet (fun r_2 w13 => ∃ x4 : Int, r_2 = .int .u8 x4 ∧
  ShVC (IntKind.u64.wrap (7 - IntKind.u64.wrap (Int.tmod bit1 8))) (
  ([{ target := .fn (.func 62) #[.pointer (some ⟨g1, 0, none⟩), .pointer (some ⟨g2, 0, none⟩), .pointer (some ⟨g3, 0, none⟩)], args := #[] }] : List Deferred) = [{ target := .fn (.func 62) #[.pointer (some ⟨g1, 0, none⟩), .pointer (some ⟨g2, 0, none⟩), .pointer (some ⟨g3, 0, none⟩)], args := #[] }] ∧ K1042842 (IntKind.i64.wrap (bit1 + 1), bitv .or .i64 (IntKind.i64.wrap (v_ * 2)) (IntKind.i64.wrap (bitv .and .u8 (Int.fdiv x4 (2 ^ (min ((IntKind.u64.wrap (7 - IntKind.u64.wrap (Int.tmod bit1 8))).toNat) 8))) 1)), IntKind.i64.wrap (t35_ + 1)) w13))
    (fun ch2 w13 => leaveWp Try.prog callF (fun w14 => ∃ (resA1 : Option Addr) (resn1 resc1 : Nat), w14.cell? ⟨g1, 0, none⟩ = some (.slice resA1 resn1 resc1) ∧
    ∃ res2 : Int, w14.cell? ⟨g2, 0, none⟩ = some (.int .i64 res2) ∧
    ∃ res3 : Int, w14.cell? ⟨g3, 0, none⟩ = some (.int .i64 res3) ∧
    R (.returned (.tuple #[.slice resA1 resn1 resc1, .int .i64 res2, .int .i64 res3])) w14)
    R [{ target := .fn (.func 62) #[.pointer (some ⟨g1, 0, none⟩), .pointer (some ⟨g2, 0, none⟩), .pointer (some ⟨g3, 0, none⟩)], args := #[] }] (.panicking ch2) w13)))
    (∃ (xA1 : Option Addr) (xn1 xc1 : Nat), w12.cell? ⟨g1, 0, none⟩ = some (.slice xA1 xn1 xc1) ∧
  NewVC w12 (.cells #[.int .i64 v_] 3) fun g4 w15 =>
  AppVC Try.prog #[55, 55] 55 (.slice xA1 xn1 xc1) (.slice (some ⟨g4, 0, none⟩) 1 1) w15 fun lA ln lc w16 =>
  SetVC w16 ⟨g1, 0, none⟩ (.slice lA ln lc) fun w17 =>
  ([{ target := .fn (.func 62) #[.pointer (some ⟨g1, 0, none⟩), .pointer (some ⟨g2, 0, none⟩), .pointer (some ⟨g3, 0, none⟩)], args := #[] }] : List Deferred) = [{ target := .fn (.func 62) #[.pointer (some ⟨g1, 0, none⟩), .pointer (some ⟨g2, 0, none⟩), .pointer (some ⟨g3, 0, none⟩)], args := #[] }] ∧ K1018 (bit1, IntKind.i64.wrap (t30_ + 1)) w17)
def view_Fields_L1018 (R : Ending → World → Prop) (at_ : Int) (widthsA : Option Addr) (widthsn : Nat) (g1 : Nat) (g2 : Nat) (g3 : Nat) (x0 : Int) (xA : Option Addr) (xn : Nat) (xc : Nat) (bit : Int) (t30_ : Int) (w11 : World) (K1018 : (Int × Int → World → Prop)) : Prop :=
  Br (decide (t30_ < (widthsn : Int)))
    (IdxVC widthsA widthsn 1 t30_ fun a =>
  ∃ x3 : Int, w11.cell? a = some (.int .i64 x3) ∧
  LoopVC (S := Int × Int × Int) (fun s w12 K1042842 => view_Fields_L1042842 R g1 g2 g3 xA xn xc t30_ K1018 x3 s.1 s.2.1 s.2.2 w12 K1042842) (bit, 0, 0) w11)
    (∃ (xA2 : Option Addr) (xn2 xc2 : Nat), w11.cell? ⟨g1, 0, none⟩ = some (.slice xA2 xn2 xc2) ∧
  SetVC w11 ⟨g1, 0, none⟩ (.slice xA2 xn2 xc2) fun w18 =>
  SetVC w18 ⟨g2, 0, none⟩ (.int .i64 (IntKind.i64.wrap (at_ + x0))) fun w19 =>
  SetVC w19 ⟨g3, 0, none⟩ (.int .i64 0) fun w20 =>
  leaveWp Try.prog callF (fun w21 => ∃ (resA2 : Option Addr) (resn2 resc2 : Nat), w21.cell? ⟨g1, 0, none⟩ = some (.slice resA2 resn2 resc2) ∧
    ∃ res4 : Int, w21.cell? ⟨g2, 0, none⟩ = some (.int .i64 res4) ∧
    ∃ res5 : Int, w21.cell? ⟨g3, 0, none⟩ = some (.int .i64 res5) ∧
    R (.returned (.tuple #[.slice resA2 resn2 resc2, .int .i64 res4, .int .i64 res5])) w21)
    R [{ target := .fn (.func 62) #[.pointer (some ⟨g1, 0, none⟩), .pointer (some ⟨g2, 0, none⟩), .pointer (some ⟨g3, 0, none⟩)], args := #[] }] .returning w20)
def view_Fields_VC (bA : Option Addr) (bn : Nat) (bc : Nat) (at_ : Int) (widthsA : Option Addr) (widthsn : Nat) (widthsc : Nat) (w : World) (R : Ending → World → Prop) : Prop :=
  NewVC w (.cells #[.slice none 0 0] 55) fun g1 w1 =>
  NewVC w1 (.cells #[.int .i64 0] 3) fun g2 w2 =>
  NewVC w2 (.cells #[.int .i64 0] 28) fun g3 w3 =>
  Calls Try.prog 61 #[.slice widthsA widthsn widthsc] w3 (onRet (fun r_ w4 => ∃ x0 : Int, ∃ x1 : Int, r_ = .tuple #[.int .i64 x0, .int .i64 x1] ∧
  SetVC w4 ⟨g3, 0, none⟩ (.int .i64 x1) fun w5 =>
  ∃ x : Int, w5.cell? ⟨g3, 0, none⟩ = some (.int .i64 x) ∧
  Br (decide (x ≠ 0))
    (DrawVC w5 fun S1 w6 =>
    ∃ x2 : Int, (∀ w' : World, S1 w' → w'.cell? ⟨g3, 0, none⟩ = some (.int .i64 x2)) ∧
    SetVC w6 ⟨g1, 0, none⟩ (.slice none 0 0) fun w7 =>
    S1 w7 ∧
    SetVC w7 ⟨g2, 0, none⟩ (.int .i64 0) fun w8 =>
    S1 w8 ∧
    SetVC w8 ⟨g3, 0, none⟩ (.int .i64 x2) fun w9 =>
    ∃ (resA : Option Addr) (resn resc : Nat), w9.cell? ⟨g1, 0, none⟩ = some (.slice resA resn resc) ∧
  ∃ res : Int, w9.cell? ⟨g2, 0, none⟩ = some (.int .i64 res) ∧
  ∃ res1 : Int, w9.cell? ⟨g3, 0, none⟩ = some (.int .i64 res1) ∧
  R (.returned (.tuple #[.slice resA resn resc, .int .i64 res, .int .i64 res1])) w9)
    (Calls Try.prog 63 #[.slice bA bn bc, .int .i64 at_, .int .i64 x0] w5 (onRet (fun r_1 w10 => ∃ (xA : Option Addr) (xn xc : Nat), r_1 = .slice xA xn xc ∧
  LoopVC (S := Int × Int) (fun s w11 K1018 => view_Fields_L1018 R at_ widthsA widthsn g1 g2 g3 x0 xA xn xc s.1 s.2 w11 K1018) (0, 0) w10)
    (fun ch1 w10 => leaveWp Try.prog callF (fun w22 => ∃ (resA3 : Option Addr) (resn3 resc3 : Nat), w22.cell? ⟨g1, 0, none⟩ = some (.slice resA3 resn3 resc3) ∧
    ∃ res6 : Int, w22.cell? ⟨g2, 0, none⟩ = some (.int .i64 res6) ∧
    ∃ res7 : Int, w22.cell? ⟨g3, 0, none⟩ = some (.int .i64 res7) ∧
    R (.returned (.tuple #[.slice resA3 resn3 resc3, .int .i64 res6, .int .i64 res7])) w22)
    R [{ target := .fn (.func 62) #[.pointer (some ⟨g1, 0, none⟩), .pointer (some ⟨g2, 0, none⟩), .pointer (some ⟨g3, 0, none⟩)], args := #[] }] (.panicking ch1) w10))))
    (fun ch w4 => R (.panicked ch) w4))
def view_Fields_H : Hints := [(1018, [(11, .int .i64), (30, .int .i64)]), (1042842, [(11, .int .i64), (14, .int .i64), (35, .int .i64)])]
set_option maxRecDepth 100000 in
theorem view_Fields_of (bA : Option Addr) (bn : Nat) (bc : Nat) (at_ : Int) (widthsA : Option Addr) (widthsn : Nat) (widthsc : Nat) (w : World) (R : Ending → World → Prop) (h : view_Fields_VC bA bn bc at_ widthsA widthsn widthsc w R) :
    Calls Try.prog 28 #[.slice bA bn bc, .int .i64 at_, .slice widthsA widthsn widthsc] w R :=
  calls_of_wpc callOk mixedOk (H := view_Fields_H) (args := [.slice bA bn bc, .int .i64 at_, .slice widthsA widthsn widthsc]) (fn := Try.f28) (c := bodyOf Try.f28) Try.func28 rfl (Nat.le_of_ble_eq_true rfl)
    (Eq.mp (by kernel_rfl : view_Fields_VC bA bn bc at_ widthsA widthsn widthsc w R = wpc Try.prog callF Try.f28.ntmps view_Fields_H 1 (bodyOf Try.f28) (argEnv 0 [.slice bA bn bc, .int .i64 at_, .slice widthsA widthsn widthsc]) [] w (finish Try.prog callF Try.f28.results.toList R)) h)

def view_Window_VC (bA : Option Addr) (bn : Nat) (bc : Nat) (at_ : Int) (n : Int) (w : World) (R : Ending → World → Prop) : Prop :=
  NewVC w (.cells #[.slice none 0 0] 22) fun g1 w1 =>
  NewVC w1 (.cells #[.int .i64 0] 28) fun g2 w2 =>
  Br (decide (n < 0))
    (SetVC w2 ⟨g1, 0, none⟩ (.slice none 0 0) fun w3 =>
    SetVC w3 ⟨g2, 0, none⟩ (.int .i64 1) fun w4 =>
    ∃ (resA : Option Addr) (resn resc : Nat), w4.cell? ⟨g1, 0, none⟩ = some (.slice resA resn resc) ∧
  ∃ res : Int, w4.cell? ⟨g2, 0, none⟩ = some (.int .i64 res) ∧
  R (.returned (.tuple #[.slice resA resn resc, .int .i64 res])) w4)
    (Calls Try.prog 63 #[.slice bA bn bc, .int .i64 at_, .int .i64 n] w2 (onRet (fun r_ w5 => ∃ (xA : Option Addr) (xn xc : Nat), r_ = .slice xA xn xc ∧
  SetVC w5 ⟨g1, 0, none⟩ (.slice xA xn xc) fun w6 =>
  SetVC w6 ⟨g2, 0, none⟩ (.int .i64 0) fun w7 =>
  leaveWp Try.prog callF (fun w8 => ∃ (resA1 : Option Addr) (resn1 resc1 : Nat), w8.cell? ⟨g1, 0, none⟩ = some (.slice resA1 resn1 resc1) ∧
    ∃ res1 : Int, w8.cell? ⟨g2, 0, none⟩ = some (.int .i64 res1) ∧
    R (.returned (.tuple #[.slice resA1 resn1 resc1, .int .i64 res1])) w8)
    R [{ target := .fn (.func 65) #[.pointer (some ⟨g1, 0, none⟩), .pointer (some ⟨g2, 0, none⟩)], args := #[] }] .returning w7)
    (fun ch w5 => leaveWp Try.prog callF (fun w9 => ∃ (resA2 : Option Addr) (resn2 resc2 : Nat), w9.cell? ⟨g1, 0, none⟩ = some (.slice resA2 resn2 resc2) ∧
    ∃ res2 : Int, w9.cell? ⟨g2, 0, none⟩ = some (.int .i64 res2) ∧
    R (.returned (.tuple #[.slice resA2 resn2 resc2, .int .i64 res2])) w9)
    R [{ target := .fn (.func 65) #[.pointer (some ⟨g1, 0, none⟩), .pointer (some ⟨g2, 0, none⟩)], args := #[] }] (.panicking ch) w5)))
def view_Window_H : Hints := []
set_option maxRecDepth 100000 in
theorem view_Window_of (bA : Option Addr) (bn : Nat) (bc : Nat) (at_ : Int) (n : Int) (w : World) (R : Ending → World → Prop) (h : view_Window_VC bA bn bc at_ n w R) :
    Calls Try.prog 29 #[.slice bA bn bc, .int .i64 at_, .int .i64 n] w R :=
  calls_of_wpc callOk mixedOk (H := view_Window_H) (args := [.slice bA bn bc, .int .i64 at_, .int .i64 n]) (fn := Try.f29) (c := bodyOf Try.f29) Try.func29 rfl (Nat.le_of_ble_eq_true rfl)
    (Eq.mp (by kernel_rfl : view_Window_VC bA bn bc at_ n w R = wpc Try.prog callF Try.f29.ntmps view_Window_H 1 (bodyOf Try.f29) (argEnv 0 [.slice bA bn bc, .int .i64 at_, .int .i64 n]) [] w (finish Try.prog callF Try.f29.results.toList R)) h)

def weirlaw1_join_VC (aA : Option Addr) (an : Nat) (ac : Nat) (bA : Option Addr) (bn : Nat) (bc : Nat) (cA : Option Addr) (cn : Nat) (cc : Nat) (w : World) (R : Ending → World → Prop) : Prop :=
  AppVC Try.prog #[22, 22] 22 (.slice none 0 0) (.slice aA an ac) w fun lA ln lc w1 =>
  AppVC Try.prog #[22, 22] 22 (.slice lA ln lc) (.slice bA bn bc) w1 fun lA1 ln1 lc1 w2 =>
  AppVC Try.prog #[22, 22] 22 (.slice lA1 ln1 lc1) (.slice cA cn cc) w2 fun lA2 ln2 lc2 w3 =>
  R (.returned (.slice lA2 ln2 lc2)) w3
def weirlaw1_join_H : Hints := []
set_option maxRecDepth 100000 in
theorem weirlaw1_join_of (aA : Option Addr) (an : Nat) (ac : Nat) (bA : Option Addr) (bn : Nat) (bc : Nat) (cA : Option Addr) (cn : Nat) (cc : Nat) (w : World) (R : Ending → World → Prop) (h : weirlaw1_join_VC aA an ac bA bn bc cA cn cc w R) :
    Calls Try.prog 30 #[.slice aA an ac, .slice bA bn bc, .slice cA cn cc] w R :=
  calls_of_wpc callOk mixedOk (H := weirlaw1_join_H) (args := [.slice aA an ac, .slice bA bn bc, .slice cA cn cc]) (fn := Try.f30) (c := bodyOf Try.f30) Try.func30 rfl (Nat.le_of_ble_eq_true rfl)
    (Eq.mp (by kernel_rfl : weirlaw1_join_VC aA an ac bA bn bc cA cn cc w R = wpc Try.prog callF Try.f30.ntmps weirlaw1_join_H 1 (bodyOf Try.f30) (argEnv 0 [.slice aA an ac, .slice bA bn bc, .slice cA cn cc]) [] w (finish Try.prog callF Try.f30.results.toList R)) h)

def weirlaw1_sameInts_L58 (R : Ending → World → Prop) (aA : Option Addr) (an : Nat) (bA : Option Addr) (bn : Nat) (i : Int) (w1 : World) (K58 : (Int → World → Prop)) : Prop :=
  Br (decide (i < (an : Int)))
    (DrawVC w1 fun S1 w2 =>
  IdxVC aA an 1 i fun a =>
  ∃ x : Int, (∀ w' : World, S1 w' → w'.cell? a = some (.int .i64 x)) ∧
  IdxVC bA bn 1 i fun a1 =>
  ∃ x1 : Int, (∀ w' : World, S1 w' → w'.cell? a1 = some (.int .i64 x1)) ∧
  Br (decide (x ≠ x1))
    (R (.returned (.bool false)) w2)
    (K58 (IntKind.i64.wrap (i + 1)) w2))
    (R (.returned (.bool true)) w1)
def weirlaw1_sameInts_VC (aA : Option Addr) (an : Nat) (_ac : Nat) (bA : Option Addr) (bn : Nat) (_bc : Nat) (w : World) (R : Ending → World → Prop) : Prop :=
  Br (decide ((an : Int) ≠ (bn : Int)))
    (R (.returned (.bool false)) w)
    (LoopVC (S := Int) (fun s w1 K58 => weirlaw1_sameInts_L58 R aA an bA bn s w1 K58) 0 w)
def weirlaw1_sameInts_H : Hints := [(58, [(5, .int .i64)])]
set_option maxRecDepth 100000 in
theorem weirlaw1_sameInts_of (aA : Option Addr) (an : Nat) (ac : Nat) (bA : Option Addr) (bn : Nat) (bc : Nat) (w : World) (R : Ending → World → Prop) (h : weirlaw1_sameInts_VC aA an ac bA bn bc w R) :
    Calls Try.prog 31 #[.slice aA an ac, .slice bA bn bc] w R :=
  calls_of_wpc callOk mixedOk (H := weirlaw1_sameInts_H) (args := [.slice aA an ac, .slice bA bn bc]) (fn := Try.f31) (c := bodyOf Try.f31) Try.func31 rfl (Nat.le_of_ble_eq_true rfl)
    (Eq.mp (by kernel_rfl : weirlaw1_sameInts_VC aA an ac bA bn bc w R = wpc Try.prog callF Try.f31.ntmps weirlaw1_sameInts_H 1 (bodyOf Try.f31) (argEnv 0 [.slice aA an ac, .slice bA bn bc]) [] w (finish Try.prog callF Try.f31.results.toList R)) h)

def weirlaw1_started_VC  (w : World) (R : Ending → World → Prop) : Prop :=
  NewVC w (.cells #[.int .u8 1, .int .u8 2, .int .u8 3] 5) fun g1 w1 =>
  Calls Try.prog 27 #[.slice (some ⟨g1, 0, none⟩) 3 3, .int .i64 1, .int .i64 2] w1 (onRet (fun r_ w2 => ∃ x0 : Int, ∃ x1 : Int, r_ = .tuple #[.int .u64 x0, .int .i64 x1] ∧
  NewVC w2 (.cells #[.int .u8 69, .int .u8 192, .int .u8 255] 5) fun g2 w3 =>
  NewVC w3 (.cells #[.int .i64 4, .int .i64 4, .int .i64 6, .int .i64 2] 3) fun g3 w4 =>
  Calls Try.prog 28 #[.slice (some ⟨g2, 0, none⟩) 3 3, .int .i64 0, .slice (some ⟨g3, 0, none⟩) 4 4] w4 (onRet (fun r_1 w5 => ∃ (x0A : Option Addr) (x0n x0c : Nat), ∃ x11 : Int, ∃ x2 : Int, r_1 = .tuple #[.slice x0A x0n x0c, .int .i64 x11, .int .i64 x2] ∧
  Br (decide (x0 = 515))
    (Calls Try.prog 19 #[.int .i64 x1] w5 (onRet (fun r_2 w6 => ∃ x : Int, r_2 = .int .i64 x ∧
    Br (decide (x = 0))
      (NewVC w6 (.cells #[.int .i64 4, .int .i64 5, .int .i64 48, .int .i64 0] 3) fun g4 w7 =>
      Calls Try.prog 31 #[.slice x0A x0n x0c, .slice (some ⟨g4, 0, none⟩) 4 4] w7 (onRet (fun r_3 w8 => ∃ x3 : Bool, r_3 = .bool x3 ∧
      Br x3
        (Br (decide (x11 = 2))
          (Calls Try.prog 19 #[.int .i64 x2] w8 (onRet (fun r_4 w9 => ∃ x4 : Int, r_4 = .int .i64 x4 ∧
          R (.returned (.bool (decide (x4 = 0)))) w9)
            (fun ch4 w9 => R (.panicked ch4) w9)))
          (R (.returned (.bool false)) w8))
        (R (.returned (.bool false)) w8))
        (fun ch3 w8 => R (.panicked ch3) w8)))
      (R (.returned (.bool false)) w6))
      (fun ch2 w6 => R (.panicked ch2) w6)))
    (R (.returned (.bool false)) w5))
    (fun ch1 w5 => R (.panicked ch1) w5)))
    (fun ch w2 => R (.panicked ch) w2))
def weirlaw1_started_H : Hints := []
set_option maxRecDepth 100000 in
theorem weirlaw1_started_of  (w : World) (R : Ending → World → Prop) (h : weirlaw1_started_VC  w R) :
    Calls Try.prog 32 #[] w R :=
  calls_of_wpc callOk mixedOk (H := weirlaw1_started_H) (args := []) (fn := Try.f32) (c := bodyOf Try.f32) Try.func32 rfl (Nat.le_of_ble_eq_true rfl)
    (Eq.mp (by kernel_rfl : weirlaw1_started_VC  w R = wpc Try.prog callF Try.f32.ntmps weirlaw1_started_H 1 (bodyOf Try.f32) (argEnv 0 []) [] w (finish Try.prog callF Try.f32.results.toList R)) h)

def view_Pack_L1042846 (x0 : Int) (g1 : Nat) (t31_ : Int) (K1018 : (Int × Int → World → Prop)) (x2 : Int) (bit1 : Int) (k : Int) (w4 : World) (K1042846 : (Int × Int → World → Prop)) : Prop :=
  Br (decide ((0 : Int) ≤ k))
    (IdxVC (some ⟨g1, 0, none⟩) x0.toNat 1 (IntKind.i64.wrap (Int.tdiv bit1 8)) fun a2 =>
  ∃ x3 : Int, w4.cell? a2 = some (.int .u8 x3) ∧
  ShVC (IntKind.u64.wrap k) (
  ShVC (IntKind.u64.wrap (7 - IntKind.u64.wrap (Int.tmod bit1 8))) (
  IdxVC (some ⟨g1, 0, none⟩) x0.toNat 1 (IntKind.i64.wrap (Int.tdiv bit1 8)) fun a3 =>
  SetVC w4 a3 (.int .u8 (bitv .or .u8 x3 (IntKind.u8.wrap (IntKind.u8.wrap (bitv .and .i64 (Int.fdiv x2 (2 ^ (min ((IntKind.u64.wrap k).toNat) 64))) 1) * 2 ^ (min ((IntKind.u64.wrap (7 - IntKind.u64.wrap (Int.tmod bit1 8))).toNat) 8))))) fun w5 =>
  K1042846 (IntKind.i64.wrap (bit1 + 1), IntKind.i64.wrap (k - 1)) w5)))
    (K1018 (bit1, IntKind.i64.wrap (t31_ + 1)) w4)
def view_Pack_L1018 (R : Ending → World → Prop) (widthsA : Option Addr) (widthsn : Nat) (valuesA : Option Addr) (valuesn : Nat) (x0 : Int) (g1 : Nat) (bit : Int) (t31_ : Int) (w3 : World) (K1018 : (Int × Int → World → Prop)) : Prop :=
  Br (decide (t31_ < (widthsn : Int)))
    (IdxVC widthsA widthsn 1 t31_ fun a =>
  ∃ x : Int, w3.cell? a = some (.int .i64 x) ∧
  IdxVC valuesA valuesn 1 t31_ fun a1 =>
  ∃ x2 : Int, w3.cell? a1 = some (.int .i64 x2) ∧
  Br (decide (x2 < 0))
    (R (.returned (.tuple #[.slice none 0 0, .int .i64 12])) w3)
    (ShVC (IntKind.u64.wrap x) (
    Br (decide (Int.fdiv x2 (2 ^ (min ((IntKind.u64.wrap x).toNat) 64)) ≠ 0))
    (R (.returned (.tuple #[.slice none 0 0, .int .i64 12])) w3)
    (LoopVC (S := Int × Int) (fun s w4 K1042846 => view_Pack_L1042846 x0 g1 t31_ K1018 x2 s.1 s.2 w4 K1042846) (bit, IntKind.i64.wrap (x - 1)) w3))))
    (R (.returned (.tuple #[.slice (some ⟨g1, 0, none⟩) x0.toNat x0.toNat, .int .i64 0])) w3)
def view_Pack_VC (widthsA : Option Addr) (widthsn : Nat) (widthsc : Nat) (valuesA : Option Addr) (valuesn : Nat) (_valuesc : Nat) (w : World) (R : Ending → World → Prop) : Prop :=
  Calls Try.prog 61 #[.slice widthsA widthsn widthsc] w (onRet (fun r_ w1 => ∃ x0 : Int, ∃ x1 : Int, r_ = .tuple #[.int .i64 x0, .int .i64 x1] ∧
  Br (decide (x1 ≠ 0))
    (R (.returned (.tuple #[.slice none 0 0, .int .i64 x1])) w1)
    (Br (decide ((valuesn : Int) ≠ (widthsn : Int)))
    (R (.returned (.tuple #[.slice none 0 0, .int .i64 1])) w1)
    (MakeVC w1 5 1 [.int .u8 0] x0 x0 fun g1 w2 =>
  LoopVC (S := Int × Int) (fun s w3 K1018 => view_Pack_L1018 R widthsA widthsn valuesA valuesn x0 g1 s.1 s.2 w3 K1018) (0, 0) w2)))
    (fun ch w1 => R (.panicked ch) w1))
def view_Pack_H : Hints := [(1018, [(9, .int .i64), (31, .int .i64)]), (1042846, [(9, .int .i64), (13, .int .i64)])]
set_option maxRecDepth 100000 in
theorem view_Pack_of (widthsA : Option Addr) (widthsn : Nat) (widthsc : Nat) (valuesA : Option Addr) (valuesn : Nat) (valuesc : Nat) (w : World) (R : Ending → World → Prop) (h : view_Pack_VC widthsA widthsn widthsc valuesA valuesn valuesc w R) :
    Calls Try.prog 33 #[.slice widthsA widthsn widthsc, .slice valuesA valuesn valuesc] w R :=
  calls_of_wpc callOk mixedOk (H := view_Pack_H) (args := [.slice widthsA widthsn widthsc, .slice valuesA valuesn valuesc]) (fn := Try.f33) (c := bodyOf Try.f33) Try.func33 rfl (Nat.le_of_ble_eq_true rfl)
    (Eq.mp (by kernel_rfl : view_Pack_VC widthsA widthsn widthsc valuesA valuesn valuesc w R = wpc Try.prog callF Try.f33.ntmps view_Pack_H 1 (bodyOf Try.f33) (argEnv 0 [.slice widthsA widthsn widthsc, .slice valuesA valuesn valuesc]) [] w (finish Try.prog callF Try.f33.results.toList R)) h)

def view_Cursor_Skip_VC (c : Option Addr) (n : Int) (w : World) (R : Ending → World → Prop) : Prop :=
  Calls Try.prog 35 #[.pointer c, .int .i64 n] w (onRet (fun r_ w1 => ∃ (x0A : Option Addr) (x0n x0c : Nat), ∃ x1 : Int, r_ = .tuple #[.slice x0A x0n x0c, .int .i64 x1] ∧
  R (.returned (.int .i64 x1)) w1)
    (fun ch w1 => R (.panicked ch) w1))
def view_Cursor_Skip_H : Hints := []
set_option maxRecDepth 100000 in
theorem view_Cursor_Skip_of (c : Option Addr) (n : Int) (w : World) (R : Ending → World → Prop) (h : view_Cursor_Skip_VC c n w R) :
    Calls Try.prog 34 #[.pointer c, .int .i64 n] w R :=
  calls_of_wpc callOk mixedOk (H := view_Cursor_Skip_H) (args := [.pointer c, .int .i64 n]) (fn := Try.f34) (c := bodyOf Try.f34) Try.func34 rfl (Nat.le_of_ble_eq_true rfl)
    (Eq.mp (by kernel_rfl : view_Cursor_Skip_VC c n w R = wpc Try.prog callF Try.f34.ntmps view_Cursor_Skip_H 1 (bodyOf Try.f34) (argEnv 0 [.pointer c, .int .i64 n]) [] w (finish Try.prog callF Try.f34.results.toList R)) h)

def view_Cursor_Window_VC (c : Option Addr) (n : Int) (w : World) (R : Ending → World → Prop) : Prop :=
  DrawVC w fun S1 w1 =>
  NilVC c fun p =>
  ∃ (xA : Option Addr) (xn xc : Nat), (∀ w' : World, S1 w' → w'.cell? p = some (.slice xA xn xc)) ∧
  NilVC c fun p1 =>
  ∃ x : Int, (∀ w' : World, S1 w' → w'.cell? (p1.add 1) = some (.int .i64 x)) ∧
  Calls Try.prog 29 #[.slice xA xn xc, .int .i64 x, .int .i64 n] w1 (onRet (fun r_ w2 => ∃ (x0A : Option Addr) (x0n x0c : Nat), ∃ x1 : Int, r_ = .tuple #[.slice x0A x0n x0c, .int .i64 x1] ∧
  S1 w2 ∧
  Br (decide (x1 = 0))
    (NilVC c fun p2 =>
    ∃ x2 : Int, w2.cell? (p2.add 1) = some (.int .i64 x2) ∧
    NilVC c fun p3 =>
    SetVC w2 (p3.add 1) (.int .i64 (IntKind.i64.wrap (x2 + n))) fun w3 =>
    R (.returned (.tuple #[.slice x0A x0n x0c, .int .i64 x1])) w3)
    (R (.returned (.tuple #[.slice x0A x0n x0c, .int .i64 x1])) w2))
    (fun _ _ => False))
def view_Cursor_Window_H : Hints := []
set_option maxRecDepth 100000 in
theorem view_Cursor_Window_of (c : Option Addr) (n : Int) (w : World) (R : Ending → World → Prop) (h : view_Cursor_Window_VC c n w R) :
    Calls Try.prog 35 #[.pointer c, .int .i64 n] w R :=
  calls_of_wpc callOk mixedOk (H := view_Cursor_Window_H) (args := [.pointer c, .int .i64 n]) (fn := Try.f35) (c := bodyOf Try.f35) Try.func35 rfl (Nat.le_of_ble_eq_true rfl)
    (Eq.mp (by kernel_rfl : view_Cursor_Window_VC c n w R = wpc Try.prog callF Try.f35.ntmps view_Cursor_Window_H 1 (bodyOf Try.f35) (argEnv 0 [.pointer c, .int .i64 n]) [] w (finish Try.prog callF Try.f35.results.toList R)) h)

def weirlaw1_upTo_J420 (R : Ending → World → Prop) (scriptA : Option Addr) (scriptn : Nat) (i : Int) (K26 : (Int → World → Prop)) (t30_ : Bool) (w2 : World) : Prop :=
  Br t30_
    (IdxVC scriptA scriptn 6 i fun a2 =>
    ∃ x0 : Int, ∃ (x1A : Option Addr) (x1n x1c : Nat), ∃ x2 : Int, ∃ x3 : Int, ∃ (x4A : Option Addr) (x4n x4c : Nat), ∃ (x5A : Option Addr) (x5n x5c : Nat), CellsAt w2 a2 0 [.int .i64 x0, .slice x1A x1n x1c, .int .i64 x2, .int .i64 x3, .slice x4A x4n x4c, .slice x5A x5n x5c] ∧
    Calls Try.prog 66 #[.agg #[.int .i64 x0, .slice x1A x1n x1c, .int .i64 x2, .int .i64 x3, .slice x4A x4n x4c, .slice x5A x5n x5c]] w2 (onRet (fun r_ w3 => ∃ x4 : Bool, r_ = .bool x4 ∧
    Br (!x4)
      (R (.returned (.bool false)) w3)
      (K26 (IntKind.i64.wrap (i + 1)) w3))
      (fun ch w3 => R (.panicked ch) w3)))
    (K26 (IntKind.i64.wrap (i + 1)) w2)
def weirlaw1_upTo_L26 (R : Ending → World → Prop) (scriptA : Option Addr) (scriptn : Nat) (lo : Int) (hi : Int) (i : Int) (w1 : World) (K26 : (Int → World → Prop)) : Prop :=
  Br (decide (i < (scriptn : Int)))
    (JoinVC (S := Bool) (fun J420 =>
      IdxVC scriptA scriptn 6 i fun a =>
      ∃ x : Int, w1.cell? a = some (.int .i64 x) ∧
      Br (decide (lo ≤ x))
        (IdxVC scriptA scriptn 6 i fun a1 =>
        ∃ x1 : Int, w1.cell? a1 = some (.int .i64 x1) ∧
        J420 (decide (x1 ≤ hi)) w1)
        (J420 false w1))
    (fun s w2 => weirlaw1_upTo_J420 R scriptA scriptn i K26 s w2))
    (R (.returned (.bool true)) w1)
def weirlaw1_upTo_VC (scriptA : Option Addr) (scriptn : Nat) (_scriptc : Nat) (lo : Int) (hi : Int) (w : World) (R : Ending → World → Prop) : Prop :=
  LoopVC (S := Int) (fun s w1 K26 => weirlaw1_upTo_L26 R scriptA scriptn lo hi s w1 K26) 0 w
def weirlaw1_upTo_H : Hints := [(26, [(7, .int .i64)]), (420, [(30, .bool)])]
set_option maxRecDepth 100000 in
theorem weirlaw1_upTo_of (scriptA : Option Addr) (scriptn : Nat) (scriptc : Nat) (lo : Int) (hi : Int) (w : World) (R : Ending → World → Prop) (h : weirlaw1_upTo_VC scriptA scriptn scriptc lo hi w R) :
    Calls Try.prog 36 #[.slice scriptA scriptn scriptc, .int .i64 lo, .int .i64 hi] w R :=
  calls_of_wpc callOk mixedOk (H := weirlaw1_upTo_H) (args := [.slice scriptA scriptn scriptc, .int .i64 lo, .int .i64 hi]) (fn := Try.f36) (c := bodyOf Try.f36) Try.func36 rfl (Nat.le_of_ble_eq_true rfl)
    (Eq.mp (by kernel_rfl : weirlaw1_upTo_VC scriptA scriptn scriptc lo hi w R = wpc Try.prog callF Try.f36.ntmps weirlaw1_upTo_H 1 (bodyOf Try.f36) (argEnv 0 [.slice scriptA scriptn scriptc, .int .i64 lo, .int .i64 hi]) [] w (finish Try.prog callF Try.f36.results.toList R)) h)

def weirlaw1_filledBy_L6 (R : Ending → World → Prop) (bufA : Option Addr) (bufn : Nat) (bA : Option Addr) (bn : Nat) (i : Int) (w1 : World) (K6 : (Int → World → Prop)) : Prop :=
  Br (decide (i < (bufn : Int)))
    (IdxVC bufA bufn 1 i fun a =>
  SetVC w1 a (.int .u8 0) fun w2 =>
  Br (decide (i < (bn : Int)))
    (IdxVC bA bn 1 i fun a1 =>
    ∃ x : Int, w2.cell? a1 = some (.int .u8 x) ∧
    IdxVC bufA bufn 1 i fun a2 =>
    SetVC w2 a2 (.int .u8 x) fun w3 =>
    K6 (IntKind.i64.wrap (i + 1)) w3)
    (K6 (IntKind.i64.wrap (i + 1)) w2))
    (R (.returned (.tuple #[])) w1)
def weirlaw1_filledBy_VC (bufA : Option Addr) (bufn : Nat) (_bufc : Nat) (bA : Option Addr) (bn : Nat) (_bc : Nat) (w : World) (R : Ending → World → Prop) : Prop :=
  LoopVC (S := Int) (fun s w1 K6 => weirlaw1_filledBy_L6 R bufA bufn bA bn s w1 K6) 0 w
def weirlaw1_filledBy_H : Hints := [(6, [(4, .int .i64)])]
set_option maxRecDepth 100000 in
theorem weirlaw1_filledBy_of (bufA : Option Addr) (bufn : Nat) (bufc : Nat) (bA : Option Addr) (bn : Nat) (bc : Nat) (w : World) (R : Ending → World → Prop) (h : weirlaw1_filledBy_VC bufA bufn bufc bA bn bc w R) :
    Calls Try.prog 37 #[.slice bufA bufn bufc, .slice bA bn bc] w R :=
  calls_of_wpc callOk mixedOk (H := weirlaw1_filledBy_H) (args := [.slice bufA bufn bufc, .slice bA bn bc]) (fn := Try.f37) (c := bodyOf Try.f37) Try.func37 rfl (Nat.le_of_ble_eq_true rfl)
    (Eq.mp (by kernel_rfl : weirlaw1_filledBy_VC bufA bufn bufc bA bn bc w R = wpc Try.prog callF Try.f37.ntmps weirlaw1_filledBy_H 1 (bodyOf Try.f37) (argEnv 0 [.slice bufA bufn bufc, .slice bA bn bc]) [] w (finish Try.prog callF Try.f37.results.toList R)) h)

def weirlaw1_filledInts_L6 (R : Ending → World → Prop) (bufA : Option Addr) (bufn : Nat) (lA : Option Addr) (ln : Nat) (mark : Int) (i : Int) (w1 : World) (K6 : (Int → World → Prop)) : Prop :=
  Br (decide (i < (bufn : Int)))
    (IdxVC bufA bufn 1 i fun a =>
  SetVC w1 a (.int .i64 mark) fun w2 =>
  Br (decide (i < (ln : Int)))
    (IdxVC lA ln 1 i fun a1 =>
    ∃ x : Int, w2.cell? a1 = some (.int .i64 x) ∧
    IdxVC bufA bufn 1 i fun a2 =>
    SetVC w2 a2 (.int .i64 x) fun w3 =>
    K6 (IntKind.i64.wrap (i + 1)) w3)
    (K6 (IntKind.i64.wrap (i + 1)) w2))
    (R (.returned (.tuple #[])) w1)
def weirlaw1_filledInts_VC (bufA : Option Addr) (bufn : Nat) (_bufc : Nat) (lA : Option Addr) (ln : Nat) (_lc : Nat) (mark : Int) (w : World) (R : Ending → World → Prop) : Prop :=
  LoopVC (S := Int) (fun s w1 K6 => weirlaw1_filledInts_L6 R bufA bufn lA ln mark s w1 K6) 0 w
def weirlaw1_filledInts_H : Hints := [(6, [(6, .int .i64)])]
set_option maxRecDepth 100000 in
theorem weirlaw1_filledInts_of (bufA : Option Addr) (bufn : Nat) (bufc : Nat) (lA : Option Addr) (ln : Nat) (lc : Nat) (mark : Int) (w : World) (R : Ending → World → Prop) (h : weirlaw1_filledInts_VC bufA bufn bufc lA ln lc mark w R) :
    Calls Try.prog 38 #[.slice bufA bufn bufc, .slice lA ln lc, .int .i64 mark] w R :=
  calls_of_wpc callOk mixedOk (H := weirlaw1_filledInts_H) (args := [.slice bufA bufn bufc, .slice lA ln lc, .int .i64 mark]) (fn := Try.f38) (c := bodyOf Try.f38) Try.func38 rfl (Nat.le_of_ble_eq_true rfl)
    (Eq.mp (by kernel_rfl : weirlaw1_filledInts_VC bufA bufn bufc lA ln lc mark w R = wpc Try.prog callF Try.f38.ntmps weirlaw1_filledInts_H 1 (bodyOf Try.f38) (argEnv 0 [.slice bufA bufn bufc, .slice lA ln lc, .int .i64 mark]) [] w (finish Try.prog callF Try.f38.results.toList R)) h)

def weirlaw1_answered_VC (o_Kind : Int) (o_BA : Option Addr) (o_Bn : Nat) (o_Bc : Nat) (o_At : Int) (o_N : Int) (o_WidthsA : Option Addr) (o_Widthsn : Nat) (o_Widthsc : Nat) (o_ValuesA : Option Addr) (o_Valuesn : Nat) (o_Valuesc : Nat) (w : World) (R : Ending → World → Prop) : Prop :=
  NewVC w (.cells #[.int .i64 o_Kind, .slice o_BA o_Bn o_Bc, .int .i64 o_At, .int .i64 o_N, .slice o_WidthsA o_Widthsn o_Widthsc, .slice o_ValuesA o_Valuesn o_Valuesc] 75) fun g1 w1 =>
  ∃ x : Int, w1.cell? ⟨g1, 0, none⟩ = some (.int .i64 x) ∧
  Br (decide (x = 1))
    (∃ (xA : Option Addr) (xn xc : Nat), w1.cell? ⟨g1, 1, none⟩ = some (.slice xA xn xc) ∧
    ∃ x1 : Int, w1.cell? ⟨g1, 2, none⟩ = some (.int .i64 x1) ∧
    ∃ x2 : Int, w1.cell? ⟨g1, 3, none⟩ = some (.int .i64 x2) ∧
    Calls Try.prog 27 #[.slice xA xn xc, .int .i64 x1, .int .i64 x2] w1 (onRet (fun r_ w2 => ∃ x0 : Int, ∃ x11 : Int, r_ = .tuple #[.int .u64 x0, .int .i64 x11] ∧
    ∃ (xA1 : Option Addr) (xn1 xc1 : Nat), w2.cell? ⟨g1, 1, none⟩ = some (.slice xA1 xn1 xc1) ∧
    ∃ x3 : Int, w2.cell? ⟨g1, 2, none⟩ = some (.int .i64 x3) ∧
    ∃ x4 : Int, w2.cell? ⟨g1, 3, none⟩ = some (.int .i64 x4) ∧
    Calls Try.prog 67 #[.slice xA1 xn1 xc1, .int .i64 x3, .int .i64 x4] w2 (onRet (fun r_1 w3 => ∃ x01 : Int, ∃ x12 : Int, r_1 = .tuple #[.int .u64 x01, .int .i64 x12] ∧
    Br (decide (x0 = x01))
      (Calls Try.prog 19 #[.int .i64 x11] w3 (onRet (fun r_2 w4 => ∃ x5 : Int, r_2 = .int .i64 x5 ∧
      R (.returned (.bool (decide (x5 = x12)))) w4)
        (fun ch2 w4 => R (.panicked ch2) w4)))
      (R (.returned (.bool false)) w3))
      (fun ch1 w3 => R (.panicked ch1) w3)))
      (fun ch w2 => R (.panicked ch) w2)))
    (Br (decide (x = 2))
      (∃ (xA2 : Option Addr) (xn2 xc2 : Nat), w1.cell? ⟨g1, 1, none⟩ = some (.slice xA2 xn2 xc2) ∧
      ∃ x6 : Int, w1.cell? ⟨g1, 2, none⟩ = some (.int .i64 x6) ∧
      ∃ (xA3 : Option Addr) (xn3 xc3 : Nat), w1.cell? ⟨g1, 4, none⟩ = some (.slice xA3 xn3 xc3) ∧
      Calls Try.prog 28 #[.slice xA2 xn2 xc2, .int .i64 x6, .slice xA3 xn3 xc3] w1 (onRet (fun r_3 w5 => ∃ (x0A : Option Addr) (x0n x0c : Nat), ∃ x13 : Int, ∃ x21 : Int, r_3 = .tuple #[.slice x0A x0n x0c, .int .i64 x13, .int .i64 x21] ∧
      ∃ (xA4 : Option Addr) (xn4 xc4 : Nat), w5.cell? ⟨g1, 1, none⟩ = some (.slice xA4 xn4 xc4) ∧
      ∃ x7 : Int, w5.cell? ⟨g1, 2, none⟩ = some (.int .i64 x7) ∧
      ∃ (xA5 : Option Addr) (xn5 xc5 : Nat), w5.cell? ⟨g1, 4, none⟩ = some (.slice xA5 xn5 xc5) ∧
      Calls Try.prog 68 #[.slice xA4 xn4 xc4, .int .i64 x7, .slice xA5 xn5 xc5] w5 (onRet (fun r_4 w6 => ∃ (x0A1 : Option Addr) (x0n1 x0c1 : Nat), ∃ x14 : Int, ∃ x22 : Int, r_4 = .tuple #[.slice x0A1 x0n1 x0c1, .int .i64 x14, .int .i64 x22] ∧
      Calls Try.prog 31 #[.slice x0A x0n x0c, .slice x0A1 x0n1 x0c1] w6 (onRet (fun r_5 w7 => ∃ x8 : Bool, r_5 = .bool x8 ∧
      Br x8
        (Br (decide (x13 = x14))
          (Calls Try.prog 19 #[.int .i64 x21] w7 (onRet (fun r_6 w8 => ∃ x9 : Int, r_6 = .int .i64 x9 ∧
          R (.returned (.bool (decide (x9 = x22)))) w8)
            (fun ch6 w8 => R (.panicked ch6) w8)))
          (R (.returned (.bool false)) w7))
        (R (.returned (.bool false)) w7))
        (fun ch5 w7 => R (.panicked ch5) w7)))
        (fun ch4 w6 => R (.panicked ch4) w6)))
        (fun ch3 w5 => R (.panicked ch3) w5)))
      (Br (decide (x = 3))
        (∃ (xA6 : Option Addr) (xn6 xc6 : Nat), w1.cell? ⟨g1, 4, none⟩ = some (.slice xA6 xn6 xc6) ∧
        ∃ (xA7 : Option Addr) (xn7 xc7 : Nat), w1.cell? ⟨g1, 5, none⟩ = some (.slice xA7 xn7 xc7) ∧
        Calls Try.prog 33 #[.slice xA6 xn6 xc6, .slice xA7 xn7 xc7] w1 (onRet (fun r_7 w9 => ∃ (x0A2 : Option Addr) (x0n2 x0c2 : Nat), ∃ x15 : Int, r_7 = .tuple #[.slice x0A2 x0n2 x0c2, .int .i64 x15] ∧
        ∃ (xA8 : Option Addr) (xn8 xc8 : Nat), w9.cell? ⟨g1, 4, none⟩ = some (.slice xA8 xn8 xc8) ∧
        ∃ (xA9 : Option Addr) (xn9 xc9 : Nat), w9.cell? ⟨g1, 5, none⟩ = some (.slice xA9 xn9 xc9) ∧
        Calls Try.prog 69 #[.slice xA8 xn8 xc8, .slice xA9 xn9 xc9] w9 (onRet (fun r_8 w10 => ∃ (x0A3 : Option Addr) (x0n3 x0c3 : Nat), ∃ x16 : Int, r_8 = .tuple #[.slice x0A3 x0n3 x0c3, .int .i64 x16] ∧
        Calls Try.prog 22 #[.slice x0A2 x0n2 x0c2, .slice x0A3 x0n3 x0c3] w10 (onRet (fun r_9 w11 => ∃ x10 : Bool, r_9 = .bool x10 ∧
        Br x10
          (Calls Try.prog 19 #[.int .i64 x15] w11 (onRet (fun r_10 w12 => ∃ x17 : Int, r_10 = .int .i64 x17 ∧
          R (.returned (.bool (decide (x17 = x16)))) w12)
            (fun ch10 w12 => R (.panicked ch10) w12)))
          (R (.returned (.bool false)) w11))
          (fun ch9 w11 => R (.panicked ch9) w11)))
          (fun ch8 w10 => R (.panicked ch8) w10)))
          (fun ch7 w9 => R (.panicked ch7) w9)))
        (Br (decide (x = 4))
          (∃ (xA10 : Option Addr) (xn10 xc10 : Nat), w1.cell? ⟨g1, 1, none⟩ = some (.slice xA10 xn10 xc10) ∧
          ∃ x18 : Int, w1.cell? ⟨g1, 2, none⟩ = some (.int .i64 x18) ∧
          ∃ x19 : Int, w1.cell? ⟨g1, 3, none⟩ = some (.int .i64 x19) ∧
          Calls Try.prog 29 #[.slice xA10 xn10 xc10, .int .i64 x18, .int .i64 x19] w1 (onRet (fun r_11 w13 => ∃ (x0A4 : Option Addr) (x0n4 x0c4 : Nat), ∃ x110 : Int, r_11 = .tuple #[.slice x0A4 x0n4 x0c4, .int .i64 x110] ∧
          ∃ (xA11 : Option Addr) (xn11 xc11 : Nat), w13.cell? ⟨g1, 1, none⟩ = some (.slice xA11 xn11 xc11) ∧
          ∃ x20 : Int, w13.cell? ⟨g1, 2, none⟩ = some (.int .i64 x20) ∧
          ∃ x23 : Int, w13.cell? ⟨g1, 3, none⟩ = some (.int .i64 x23) ∧
          Calls Try.prog 70 #[.slice xA11 xn11 xc11, .int .i64 x20, .int .i64 x23] w13 (onRet (fun r_12 w14 => ∃ (x0A5 : Option Addr) (x0n5 x0c5 : Nat), ∃ x111 : Int, r_12 = .tuple #[.slice x0A5 x0n5 x0c5, .int .i64 x111] ∧
          Calls Try.prog 22 #[.slice x0A4 x0n4 x0c4, .slice x0A5 x0n5 x0c5] w14 (onRet (fun r_13 w15 => ∃ x24 : Bool, r_13 = .bool x24 ∧
          Br x24
            (Calls Try.prog 19 #[.int .i64 x110] w15 (onRet (fun r_14 w16 => ∃ x25 : Int, r_14 = .int .i64 x25 ∧
            R (.returned (.bool (decide (x25 = x111)))) w16)
              (fun ch14 w16 => R (.panicked ch14) w16)))
            (R (.returned (.bool false)) w15))
            (fun ch13 w15 => R (.panicked ch13) w15)))
            (fun ch12 w14 => R (.panicked ch12) w14)))
            (fun ch11 w13 => R (.panicked ch11) w13)))
          (R (.returned (.bool true)) w1))))
def weirlaw1_answered_H : Hints := []
set_option maxRecDepth 100000 in
theorem weirlaw1_answered_of (o_Kind : Int) (o_BA : Option Addr) (o_Bn : Nat) (o_Bc : Nat) (o_At : Int) (o_N : Int) (o_WidthsA : Option Addr) (o_Widthsn : Nat) (o_Widthsc : Nat) (o_ValuesA : Option Addr) (o_Valuesn : Nat) (o_Valuesc : Nat) (w : World) (R : Ending → World → Prop) (h : weirlaw1_answered_VC o_Kind o_BA o_Bn o_Bc o_At o_N o_WidthsA o_Widthsn o_Widthsc o_ValuesA o_Valuesn o_Valuesc w R) :
    Calls Try.prog 39 #[.agg #[.int .i64 o_Kind, .slice o_BA o_Bn o_Bc, .int .i64 o_At, .int .i64 o_N, .slice o_WidthsA o_Widthsn o_Widthsc, .slice o_ValuesA o_Valuesn o_Valuesc]] w R :=
  calls_of_wpc callOk mixedOk (H := weirlaw1_answered_H) (args := [.agg #[.int .i64 o_Kind, .slice o_BA o_Bn o_Bc, .int .i64 o_At, .int .i64 o_N, .slice o_WidthsA o_Widthsn o_Widthsc, .slice o_ValuesA o_Valuesn o_Valuesc]]) (fn := Try.f39) (c := bodyOf Try.f39) Try.func39 rfl (Nat.le_of_ble_eq_true rfl)
    (Eq.mp (by kernel_rfl : weirlaw1_answered_VC o_Kind o_BA o_Bn o_Bc o_At o_N o_WidthsA o_Widthsn o_Widthsc o_ValuesA o_Valuesn o_Valuesc w R = wpc Try.prog callF Try.f39.ntmps weirlaw1_answered_H 1 (bodyOf Try.f39) (argEnv 0 [.agg #[.int .i64 o_Kind, .slice o_BA o_Bn o_Bc, .int .i64 o_At, .int .i64 o_N, .slice o_WidthsA o_Widthsn o_Widthsc, .slice o_ValuesA o_Valuesn o_Valuesc]]) [] w (finish Try.prog callF Try.f39.results.toList R)) h)

def view_Builder_Bytes_L122 (R : Ending → World → Prop) (b : Option Addr) (partsA : Option Addr) (partsn : Nat) (t37_ : Int) (w3 : World) (K122 : (Int → World → Prop)) : Prop :=
  Br (decide (t37_ < (partsn : Int)))
    (IdxVC partsA partsn 1 t37_ fun a1 =>
  ∃ (xA2 : Option Addr) (xn2 xc2 : Nat), w3.cell? a1 = some (.slice xA2 xn2 xc2) ∧
  NilVC b fun p2 =>
  ∃ (xA3 : Option Addr) (xn3 xc3 : Nat), w3.cell? p2 = some (.slice xA3 xn3 xc3) ∧
  AppVC Try.prog #[22, 22] 22 (.slice xA3 xn3 xc3) (.slice xA2 xn2 xc2) w3 fun lA ln lc w4 =>
  NilVC b fun p3 =>
  SetVC w4 p3 (.slice lA ln lc) fun w5 =>
  K122 (IntKind.i64.wrap (t37_ + 1)) w5)
    (R (.returned (.int .i64 0)) w3)
def view_Builder_Bytes_L58 (R : Ending → World → Prop) (b : Option Addr) (partsA : Option Addr) (partsn : Nat) (room : Int) (t22_ : Int) (w2 : World) (K58 : (Int × Int → World → Prop)) : Prop :=
  Br (decide (t22_ < (partsn : Int)))
    (IdxVC partsA partsn 1 t22_ fun a =>
  ∃ (xA1 : Option Addr) (xn1 xc1 : Nat), w2.cell? a = some (.slice xA1 xn1 xc1) ∧
  Br (decide (room < (xn1 : Int)))
    (R (.returned (.int .i64 13)) w2)
    (K58 (IntKind.i64.wrap (room - (xn1 : Int)), IntKind.i64.wrap (t22_ + 1)) w2))
    (LoopVC (S := Int) (fun s w3 K122 => view_Builder_Bytes_L122 R b partsA partsn s w3 K122) 0 w2)
def view_Builder_Bytes_VC (b : Option Addr) (partsA : Option Addr) (partsn : Nat) (_partsc : Nat) (w : World) (R : Ending → World → Prop) : Prop :=
  DrawVC w fun S1 w1 =>
  NilVC b fun p =>
  ∃ x : Int, (∀ w' : World, S1 w' → w'.cell? (p.add 1) = some (.int .i64 x)) ∧
  NilVC b fun p1 =>
  ∃ (xA : Option Addr) (xn xc : Nat), (∀ w' : World, S1 w' → w'.cell? p1 = some (.slice xA xn xc)) ∧
  LoopVC (S := Int × Int) (fun s w2 K58 => view_Builder_Bytes_L58 R b partsA partsn s.1 s.2 w2 K58) (IntKind.i64.wrap (x - (xn : Int)), 0) w1
def view_Builder_Bytes_H : Hints := [(58, [(5, .int .i64), (22, .int .i64)]), (122, [(37, .int .i64)])]
set_option maxRecDepth 100000 in
theorem view_Builder_Bytes_of (b : Option Addr) (partsA : Option Addr) (partsn : Nat) (partsc : Nat) (w : World) (R : Ending → World → Prop) (h : view_Builder_Bytes_VC b partsA partsn partsc w R) :
    Calls Try.prog 40 #[.pointer b, .slice partsA partsn partsc] w R :=
  calls_of_wpc callOk mixedOk (H := view_Builder_Bytes_H) (args := [.pointer b, .slice partsA partsn partsc]) (fn := Try.f40) (c := bodyOf Try.f40) Try.func40 rfl (Nat.le_of_ble_eq_true rfl)
    (Eq.mp (by kernel_rfl : view_Builder_Bytes_VC b partsA partsn partsc w R = wpc Try.prog callF Try.f40.ntmps view_Builder_Bytes_H 1 (bodyOf Try.f40) (argEnv 0 [.pointer b, .slice partsA partsn partsc]) [] w (finish Try.prog callF Try.f40.results.toList R)) h)

def weirlaw1_filled_L1682 (lA : Option Addr) (ln : Nat) (i : Int) (K26 : (Int → World → Prop)) (j : Int) (w2 : World) (K1682 : (Int → World → Prop)) : Prop :=
  IdxVC lA ln 1 i fun a =>
  ∃ (xA : Option Addr) (xn xc : Nat), w2.cell? a = some (.slice xA xn xc) ∧
  Br (decide (j < (xn : Int)))
    (IdxVC lA ln 1 i fun a1 =>
  ∃ (xA1 : Option Addr) (xn1 xc1 : Nat), w2.cell? a1 = some (.slice xA1 xn1 xc1) ∧
  IdxVC xA1 xn1 1 j fun a2 =>
  SetVC w2 a2 (.int .u8 (IntKind.u8.wrap (IntKind.i64.wrap (1 + Int.tmod i 250)))) fun w3 =>
  K1682 (IntKind.i64.wrap (j + 1)) w3)
    (K26 (IntKind.i64.wrap (i + 1)) w2)
def weirlaw1_filled_L125242 (R : Ending → World → Prop) (moreA : Option Addr) (moren : Nat) (morec : Nat) (i1 : Int) (K122 : ((Option Addr × Nat × Nat) × Int → World → Prop)) (lA1 : Option Addr) (ln1 : Nat) (lc1 : Nat) (lA2 : Option Addr) (ln2 : Nat) (lc2 : Nat) (g3A : Option Addr) (g3n : Nat) (g3c : Nat) (k : Int) (w11 : World) (K125242 : ((Option Addr × Nat × Nat) × Int → World → Prop)) : Prop :=
  Br (decide (k < 70))
    (Calls Try.prog 71 #[.int .i64 i1, .int .i64 1] w11 (onRet (fun r_2 w12 => ∃ (xA7 : Option Addr) (xn7 xc7 : Nat), r_2 = .slice xA7 xn7 xc7 ∧
  AppVC Try.prog #[22, 22] 22 (.slice g3A g3n g3c) (.slice xA7 xn7 xc7) w12 fun lA3 ln3 lc3 w13 =>
  K125242 ((lA3, ln3, lc3), IntKind.i64.wrap (k + 1)) w13)
    (fun ch2 w12 => R (.panicked ch2) w12)))
    (NewVC w11 (.cells #[.slice lA1 ln1 lc1, .slice lA2 ln2 lc2, .slice g3A g3n g3c] 22) fun g1 w14 =>
  AppVC Try.prog #[50, 50] 50 (.slice moreA moren morec) (.slice (some ⟨g1, 0, none⟩) 3 3) w14 fun lA4 ln4 lc4 w15 =>
  K122 ((lA4, ln4, lc4), IntKind.i64.wrap (i1 + 1)) w15)
def weirlaw1_filled_L122 (R : Ending → World → Prop) (lA : Option Addr) (ln : Nat) (moreA : Option Addr) (moren : Nat) (morec : Nat) (i1 : Int) (w4 : World) (K122 : ((Option Addr × Nat × Nat) × Int → World → Prop)) : Prop :=
  Br (decide (i1 < (ln : Int)))
    (DrawVC w4 fun S1 w5 =>
  IdxVC lA ln 1 i1 fun a3 =>
  ∃ (xA2 : Option Addr) (xn2 xc2 : Nat), (∀ w' : World, S1 w' → w'.cell? a3 = some (.slice xA2 xn2 xc2)) ∧
  Calls Try.prog 71 #[.int .i64 i1, .int .i64 1] w5 (onRet (fun r_ w6 => ∃ (xA3 : Option Addr) (xn3 xc3 : Nat), r_ = .slice xA3 xn3 xc3 ∧
  S1 w6 ∧
  AppVC Try.prog #[22, 22] 22 (.slice xA2 xn2 xc2) (.slice xA3 xn3 xc3) w6 fun lA1 ln1 lc1 w7 =>
  S1 w7 ∧
  DrawVC w7 fun S2 w8 =>
  IdxVC lA ln 1 i1 fun a4 =>
  ∃ (xA4 : Option Addr) (xn4 xc4 : Nat), (∀ w' : World, S2 w' → w'.cell? a4 = some (.slice xA4 xn4 xc4)) ∧
  Calls Try.prog 71 #[.int .i64 i1, .int .i64 2] w8 (onRet (fun r_1 w9 => ∃ (xA5 : Option Addr) (xn5 xc5 : Nat), r_1 = .slice xA5 xn5 xc5 ∧
  S2 w9 ∧
  AppVC Try.prog #[22, 22] 22 (.slice xA4 xn4 xc4) (.slice xA5 xn5 xc5) w9 fun lA2 ln2 lc2 w10 =>
  S2 w10 ∧
  IdxVC lA ln 1 i1 fun a5 =>
  ∃ (xA6 : Option Addr) (xn6 xc6 : Nat), w10.cell? a5 = some (.slice xA6 xn6 xc6) ∧
  LoopVC (S := (Option Addr × Nat × Nat) × Int) (fun s w11 K125242 => weirlaw1_filled_L125242 R moreA moren morec i1 K122 lA1 ln1 lc1 lA2 ln2 lc2 s.1.1 s.1.2.1 s.1.2.2 s.2 w11 K125242) ((xA6, xn6, xc6), 0) w10)
    (fun _ _ => False)))
    (fun _ _ => False)))
    (R (.returned (.slice moreA moren morec)) w4)
def weirlaw1_filled_L26 (R : Ending → World → Prop) (lA : Option Addr) (ln : Nat) (i : Int) (w1 : World) (K26 : (Int → World → Prop)) : Prop :=
  Br (decide (i < (ln : Int)))
    (LoopVC (S := Int) (fun s w2 K1682 => weirlaw1_filled_L1682 lA ln i K26 s w2 K1682) 0 w1)
    (LoopVC (S := (Option Addr × Nat × Nat) × Int) (fun s w4 K122 => weirlaw1_filled_L122 R lA ln s.1.1 s.1.2.1 s.1.2.2 s.2 w4 K122) ((none, 0, 0), 0) w1)
def weirlaw1_filled_VC (lA : Option Addr) (ln : Nat) (_lc : Nat) (w : World) (R : Ending → World → Prop) : Prop :=
  LoopVC (S := Int) (fun s w1 K26 => weirlaw1_filled_L26 R lA ln s w1 K26) 0 w
def weirlaw1_filled_H : Hints := [(26, [(3, .int .i64)]), (1682, [(4, .int .i64)]), (122, [(5, .slice), (6, .int .i64)]), (125242, [(9, .slice), (10, .int .i64)])]
set_option maxRecDepth 100000 in
theorem weirlaw1_filled_of (lA : Option Addr) (ln : Nat) (lc : Nat) (w : World) (R : Ending → World → Prop) (h : weirlaw1_filled_VC lA ln lc w R) :
    Calls Try.prog 41 #[.slice lA ln lc] w R :=
  calls_of_wpc callOk mixedOk (H := weirlaw1_filled_H) (args := [.slice lA ln lc]) (fn := Try.f41) (c := bodyOf Try.f41) Try.func41 rfl (Nat.le_of_ble_eq_true rfl)
    (Eq.mp (by kernel_rfl : weirlaw1_filled_VC lA ln lc w R = wpc Try.prog callF Try.f41.ntmps weirlaw1_filled_H 1 (bodyOf Try.f41) (argEnv 0 [.slice lA ln lc]) [] w (finish Try.prog callF Try.f41.results.toList R)) h)

def weirlaw1_stand_J13791817 (R : Ending → World → Prop) (lA : Option Addr) (ln : Nat) (moreA : Option Addr) (moren : Nat) (i : Int) (xn : Nat) (k : Int) (j : Int) (K430994 : (Int → World → Prop)) (m : Int) (w4 : World) : Prop :=
  IdxVC moreA moren 1 k fun a5 =>
  ∃ (xA5 : Option Addr) (xn5 xc5 : Nat), w4.cell? a5 = some (.slice xA5 xn5 xc5) ∧
  IdxVC xA5 xn5 1 j fun a6 =>
  ∃ x : Int, w4.cell? a6 = some (.int .u8 x) ∧
  Br (decide (x ≠ m))
    (R (.returned (.bool false)) w4)
    (Br (decide (j < (xn : Int)))
      (IdxVC lA ln 1 i fun a7 =>
      ∃ (xA6 : Option Addr) (xn6 xc6 : Nat), w4.cell? a7 = some (.slice xA6 xn6 xc6) ∧
      IdxVC xA6 xn6 1 j fun a8 =>
      ∃ x1 : Int, w4.cell? a8 = some (.int .u8 x1) ∧
      Br (decide (x1 ≠ m))
    (R (.returned (.bool false)) w4)
    (K430994 (IntKind.i64.wrap (j + 1)) w4))
      (K430994 (IntKind.i64.wrap (j + 1)) w4))
def weirlaw1_stand_L430994 (R : Ending → World → Prop) (lA : Option Addr) (ln : Nat) (moreA : Option Addr) (moren : Nat) (i : Int) (xn : Nat) (k : Int) (K6734 : (Int → World → Prop)) (j : Int) (w3 : World) (K430994 : (Int → World → Prop)) : Prop :=
  IdxVC moreA moren 1 k fun a4 =>
  ∃ (xA4 : Option Addr) (xn4 xc4 : Nat), w3.cell? a4 = some (.slice xA4 xn4 xc4) ∧
  Br (decide (j < (xn4 : Int)))
    (JoinVC (S := Int) (fun J13791817 =>
      Br (decide ((xn : Int) ≤ j))
        (J13791817 (IntKind.u8.wrap (IntKind.i64.wrap (251 + Int.tmod i 5))) w3)
        (J13791817 (IntKind.u8.wrap (IntKind.i64.wrap (1 + Int.tmod i 250))) w3))
    (fun s w4 => weirlaw1_stand_J13791817 R lA ln moreA moren i xn k j K430994 s w4))
    (K6734 (IntKind.i64.wrap (k + 1)) w3)
def weirlaw1_stand_L6734 (R : Ending → World → Prop) (lA : Option Addr) (ln : Nat) (moreA : Option Addr) (moren : Nat) (i : Int) (K26 : (Int → World → Prop)) (xn : Nat) (k : Int) (w2 : World) (K6734 : (Int → World → Prop)) : Prop :=
  Br (decide (k < IntKind.i64.wrap (IntKind.i64.wrap (3 * i) + 3)))
    (LoopVC (S := Int) (fun s w3 K430994 => weirlaw1_stand_L430994 R lA ln moreA moren i xn k K6734 s w3 K430994) 0 w2)
    (K26 (IntKind.i64.wrap (i + 1)) w2)
def weirlaw1_stand_L26 (R : Ending → World → Prop) (lA : Option Addr) (ln : Nat) (moreA : Option Addr) (moren : Nat) (i : Int) (w1 : World) (K26 : (Int → World → Prop)) : Prop :=
  Br (decide (i < (ln : Int)))
    (IdxVC lA ln 1 i fun a =>
  ∃ (xA : Option Addr) (xn xc : Nat), w1.cell? a = some (.slice xA xn xc) ∧
  IdxVC moreA moren 1 (IntKind.i64.wrap (3 * i)) fun a1 =>
  ∃ (xA1 : Option Addr) (xn1 xc1 : Nat), w1.cell? a1 = some (.slice xA1 xn1 xc1) ∧
  Br (decide ((xn1 : Int) ≠ IntKind.i64.wrap ((xn : Int) + 1)))
    (R (.returned (.bool false)) w1)
    (IdxVC moreA moren 1 (IntKind.i64.wrap (IntKind.i64.wrap (3 * i) + 1)) fun a2 =>
    ∃ (xA2 : Option Addr) (xn2 xc2 : Nat), w1.cell? a2 = some (.slice xA2 xn2 xc2) ∧
    Br (decide ((xn2 : Int) ≠ IntKind.i64.wrap ((xn : Int) + 2)))
      (R (.returned (.bool false)) w1)
      (IdxVC moreA moren 1 (IntKind.i64.wrap (IntKind.i64.wrap (3 * i) + 2)) fun a3 =>
      ∃ (xA3 : Option Addr) (xn3 xc3 : Nat), w1.cell? a3 = some (.slice xA3 xn3 xc3) ∧
      Br (decide ((xn3 : Int) ≠ IntKind.i64.wrap ((xn : Int) + 70)))
    (R (.returned (.bool false)) w1)
    (LoopVC (S := Int) (fun s w2 K6734 => weirlaw1_stand_L6734 R lA ln moreA moren i K26 xn s w2 K6734) (IntKind.i64.wrap (3 * i)) w1))))
    (R (.returned (.bool true)) w1)
def weirlaw1_stand_VC (lA : Option Addr) (ln : Nat) (_lc : Nat) (moreA : Option Addr) (moren : Nat) (_morec : Nat) (w : World) (R : Ending → World → Prop) : Prop :=
  LoopVC (S := Int) (fun s w1 K26 => weirlaw1_stand_L26 R lA ln moreA moren s w1 K26) 0 w
def weirlaw1_stand_H : Hints := [(26, [(5, .int .i64)]), (6734, [(7, .int .i64)]), (430994, [(8, .int .i64)]), (13791817, [(9, .int .u8)])]
set_option maxRecDepth 100000 in
theorem weirlaw1_stand_of (lA : Option Addr) (ln : Nat) (lc : Nat) (moreA : Option Addr) (moren : Nat) (morec : Nat) (w : World) (R : Ending → World → Prop) (h : weirlaw1_stand_VC lA ln lc moreA moren morec w R) :
    Calls Try.prog 42 #[.slice lA ln lc, .slice moreA moren morec] w R :=
  calls_of_wpc callOk mixedOk (H := weirlaw1_stand_H) (args := [.slice lA ln lc, .slice moreA moren morec]) (fn := Try.f42) (c := bodyOf Try.f42) Try.func42 rfl (Nat.le_of_ble_eq_true rfl)
    (Eq.mp (by kernel_rfl : weirlaw1_stand_VC lA ln lc moreA moren morec w R = wpc Try.prog callF Try.f42.ntmps weirlaw1_stand_H 1 (bodyOf Try.f42) (argEnv 0 [.slice lA ln lc, .slice moreA moren morec]) [] w (finish Try.prog callF Try.f42.results.toList R)) h)

def weirlaw1_Lent_asked_VC (x : Option Addr) (bA : Option Addr) (bn : Nat) (bc : Nat) (widthsA : Option Addr) (widthsn : Nat) (widthsc : Nat) (valuesA : Option Addr) (valuesn : Nat) (valuesc : Nat) (w : World) (R : Ending → World → Prop) : Prop :=
  Calls Try.prog 28 #[.slice bA bn bc, .int .i64 0, .slice widthsA widthsn widthsc] w (onRet (fun r_ w1 => ∃ (x0A : Option Addr) (x0n x0c : Nat), ∃ x1 : Int, ∃ x2 : Int, r_ = .tuple #[.slice x0A x0n x0c, .int .i64 x1, .int .i64 x2] ∧
  Calls Try.prog 68 #[.slice bA bn bc, .int .i64 0, .slice widthsA widthsn widthsc] w1 (onRet (fun r_1 w2 => ∃ (x0A1 : Option Addr) (x0n1 x0c1 : Nat), ∃ x11 : Int, ∃ x21 : Int, r_1 = .tuple #[.slice x0A1 x0n1 x0c1, .int .i64 x11, .int .i64 x21] ∧
  Calls Try.prog 33 #[.slice widthsA widthsn widthsc, .slice valuesA valuesn valuesc] w2 (onRet (fun r_2 w3 => ∃ (x0A2 : Option Addr) (x0n2 x0c2 : Nat), ∃ x12 : Int, r_2 = .tuple #[.slice x0A2 x0n2 x0c2, .int .i64 x12] ∧
  Calls Try.prog 69 #[.slice widthsA widthsn widthsc, .slice valuesA valuesn valuesc] w3 (onRet (fun r_3 w4 => ∃ (x0A3 : Option Addr) (x0n3 x0c3 : Nat), ∃ x13 : Int, r_3 = .tuple #[.slice x0A3 x0n3 x0c3, .int .i64 x13] ∧
  NilVC x fun p =>
  ∃ (xA : Option Addr) (xn xc : Nat), w4.cell? (p.add 2) = some (.slice xA xn xc) ∧
  NewVC w4 (.cells #[.slice x0A x0n x0c] 55) fun g1 w5 =>
  AppVC Try.prog #[85, 85] 85 (.slice xA xn xc) (.slice (some ⟨g1, 0, none⟩) 1 1) w5 fun lA ln lc w6 =>
  NilVC x fun p1 =>
  SetVC w6 (p1.add 2) (.slice lA ln lc) fun w7 =>
  NilVC x fun p2 =>
  ∃ (xA1 : Option Addr) (xn1 xc1 : Nat), w7.cell? (p2.add 3) = some (.slice xA1 xn1 xc1) ∧
  NewVC w7 (.cells #[.slice x0A1 x0n1 x0c1] 55) fun g2 w8 =>
  AppVC Try.prog #[85, 85] 85 (.slice xA1 xn1 xc1) (.slice (some ⟨g2, 0, none⟩) 1 1) w8 fun lA1 ln1 lc1 w9 =>
  NilVC x fun p3 =>
  SetVC w9 (p3.add 3) (.slice lA1 ln1 lc1) fun w10 =>
  NilVC x fun p4 =>
  ∃ (xA2 : Option Addr) (xn2 xc2 : Nat), w10.cell? p4 = some (.slice xA2 xn2 xc2) ∧
  NewVC w10 (.cells #[.slice x0A2 x0n2 x0c2] 22) fun g3 w11 =>
  AppVC Try.prog #[50, 50] 50 (.slice xA2 xn2 xc2) (.slice (some ⟨g3, 0, none⟩) 1 1) w11 fun lA2 ln2 lc2 w12 =>
  NilVC x fun p5 =>
  SetVC w12 p5 (.slice lA2 ln2 lc2) fun w13 =>
  DrawVC w13 fun S1 w14 =>
  NilVC x fun p6 =>
  ∃ (xA3 : Option Addr) (xn3 xc3 : Nat), (∀ w' : World, S1 w' → w'.cell? (p6.add 1) = some (.slice xA3 xn3 xc3)) ∧
  NewVC w14 (.cells #[] 5) fun g4 w15 =>
  S1 w15 ∧
  AppVC Try.prog #[22, 22] 22 (.slice (some ⟨g4, 0, none⟩) 0 0) (.slice x0A3 x0n3 x0c3) w15 fun lA3 ln3 lc3 w16 =>
  S1 w16 ∧
  NewVC w16 (.cells #[.slice lA3 ln3 lc3] 22) fun g5 w17 =>
  S1 w17 ∧
  AppVC Try.prog #[50, 50] 50 (.slice xA3 xn3 xc3) (.slice (some ⟨g5, 0, none⟩) 1 1) w17 fun lA4 ln4 lc4 w18 =>
  S1 w18 ∧
  NilVC x fun p7 =>
  SetVC w18 (p7.add 1) (.slice lA4 ln4 lc4) fun w19 =>
  Calls Try.prog 19 #[.int .i64 x2] w19 (onRet (fun r_4 w20 => ∃ x3 : Int, r_4 = .int .i64 x3 ∧
  Br (decide (x3 = x21))
    (Calls Try.prog 19 #[.int .i64 x12] w20 (onRet (fun r_5 w21 => ∃ x4 : Int, r_5 = .int .i64 x4 ∧
    R (.returned (.bool (decide (x4 = x13)))) w21)
      (fun ch5 w21 => R (.panicked ch5) w21)))
    (R (.returned (.bool false)) w20))
    (fun ch4 w20 => R (.panicked ch4) w20)))
    (fun ch3 w4 => R (.panicked ch3) w4)))
    (fun ch2 w3 => R (.panicked ch2) w3)))
    (fun ch1 w2 => R (.panicked ch1) w2)))
    (fun ch w1 => R (.panicked ch) w1))
def weirlaw1_Lent_asked_H : Hints := []
set_option maxRecDepth 100000 in
theorem weirlaw1_Lent_asked_of (x : Option Addr) (bA : Option Addr) (bn : Nat) (bc : Nat) (widthsA : Option Addr) (widthsn : Nat) (widthsc : Nat) (valuesA : Option Addr) (valuesn : Nat) (valuesc : Nat) (w : World) (R : Ending → World → Prop) (h : weirlaw1_Lent_asked_VC x bA bn bc widthsA widthsn widthsc valuesA valuesn valuesc w R) :
    Calls Try.prog 43 #[.pointer x, .slice bA bn bc, .slice widthsA widthsn widthsc, .slice valuesA valuesn valuesc] w R :=
  calls_of_wpc callOk mixedOk (H := weirlaw1_Lent_asked_H) (args := [.pointer x, .slice bA bn bc, .slice widthsA widthsn widthsc, .slice valuesA valuesn valuesc]) (fn := Try.f43) (c := bodyOf Try.f43) Try.func43 rfl (Nat.le_of_ble_eq_true rfl)
    (Eq.mp (by kernel_rfl : weirlaw1_Lent_asked_VC x bA bn bc widthsA widthsn widthsc valuesA valuesn valuesc w R = wpc Try.prog callF Try.f43.ntmps weirlaw1_Lent_asked_H 1 (bodyOf Try.f43) (argEnv 0 [.pointer x, .slice bA bn bc, .slice widthsA widthsn widthsc, .slice valuesA valuesn valuesc]) [] w (finish Try.prog callF Try.f43.results.toList R)) h)

def weirlaw1_Lent_as_L58 (R : Ending → World → Prop) (x : Option Addr) (i1 : Int) (w4 : World) (K58 : (Int → World → Prop)) : Prop :=
  NilVC x fun p3 =>
  ∃ (xA5 : Option Addr) (xn5 xc5 : Nat), w4.cell? (p3.add 2) = some (.slice xA5 xn5 xc5) ∧
  Br (decide (i1 < (xn5 : Int)))
    (DrawVC w4 fun S2 w5 =>
  NilVC x fun p4 =>
  ∃ (xA6 : Option Addr) (xn6 xc6 : Nat), (∀ w' : World, S2 w' → w'.cell? (p4.add 2) = some (.slice xA6 xn6 xc6)) ∧
  IdxVC xA6 xn6 1 i1 fun a2 =>
  ∃ (xA7 : Option Addr) (xn7 xc7 : Nat), (∀ w' : World, S2 w' → w'.cell? a2 = some (.slice xA7 xn7 xc7)) ∧
  NilVC x fun p5 =>
  ∃ (xA8 : Option Addr) (xn8 xc8 : Nat), (∀ w' : World, S2 w' → w'.cell? (p5.add 3) = some (.slice xA8 xn8 xc8)) ∧
  IdxVC xA8 xn8 1 i1 fun a3 =>
  ∃ (xA9 : Option Addr) (xn9 xc9 : Nat), (∀ w' : World, S2 w' → w'.cell? a3 = some (.slice xA9 xn9 xc9)) ∧
  Calls Try.prog 31 #[.slice xA7 xn7 xc7, .slice xA9 xn9 xc9] w5 (onRet (fun r_1 w6 => ∃ x2 : Bool, r_1 = .bool x2 ∧
  S2 w6 ∧
  Br (!x2)
    (R (.returned (.bool false)) w6)
    (K58 (IntKind.i64.wrap (i1 + 1)) w6))
    (fun _ _ => False)))
    (R (.returned (.bool true)) w4)
def weirlaw1_Lent_as_L26 (R : Ending → World → Prop) (x : Option Addr) (i : Int) (w1 : World) (K26 : (Int → World → Prop)) : Prop :=
  NilVC x fun p =>
  ∃ (xA : Option Addr) (xn xc : Nat), w1.cell? p = some (.slice xA xn xc) ∧
  Br (decide (i < (xn : Int)))
    (DrawVC w1 fun S1 w2 =>
  NilVC x fun p1 =>
  ∃ (xA1 : Option Addr) (xn1 xc1 : Nat), (∀ w' : World, S1 w' → w'.cell? p1 = some (.slice xA1 xn1 xc1)) ∧
  IdxVC xA1 xn1 1 i fun a =>
  ∃ (xA2 : Option Addr) (xn2 xc2 : Nat), (∀ w' : World, S1 w' → w'.cell? a = some (.slice xA2 xn2 xc2)) ∧
  NilVC x fun p2 =>
  ∃ (xA3 : Option Addr) (xn3 xc3 : Nat), (∀ w' : World, S1 w' → w'.cell? (p2.add 1) = some (.slice xA3 xn3 xc3)) ∧
  IdxVC xA3 xn3 1 i fun a1 =>
  ∃ (xA4 : Option Addr) (xn4 xc4 : Nat), (∀ w' : World, S1 w' → w'.cell? a1 = some (.slice xA4 xn4 xc4)) ∧
  Calls Try.prog 22 #[.slice xA2 xn2 xc2, .slice xA4 xn4 xc4] w2 (onRet (fun r_ w3 => ∃ x1 : Bool, r_ = .bool x1 ∧
  S1 w3 ∧
  Br (!x1)
    (R (.returned (.bool false)) w3)
    (K26 (IntKind.i64.wrap (i + 1)) w3))
    (fun _ _ => False)))
    (LoopVC (S := Int) (fun s w4 K58 => weirlaw1_Lent_as_L58 R x s w4 K58) 0 w1)
def weirlaw1_Lent_as_VC (x : Option Addr) (w : World) (R : Ending → World → Prop) : Prop :=
  LoopVC (S := Int) (fun s w1 K26 => weirlaw1_Lent_as_L26 R x s w1 K26) 0 w
def weirlaw1_Lent_as_H : Hints := [(26, [(3, .int .i64)]), (58, [(4, .int .i64)])]
set_option maxRecDepth 100000 in
theorem weirlaw1_Lent_as_of (x : Option Addr) (w : World) (R : Ending → World → Prop) (h : weirlaw1_Lent_as_VC x w R) :
    Calls Try.prog 44 #[.pointer x] w R :=
  calls_of_wpc callOk mixedOk (H := weirlaw1_Lent_as_H) (args := [.pointer x]) (fn := Try.f44) (c := bodyOf Try.f44) Try.func44 rfl (Nat.le_of_ble_eq_true rfl)
    (Eq.mp (by kernel_rfl : weirlaw1_Lent_as_VC x w R = wpc Try.prog callF Try.f44.ntmps weirlaw1_Lent_as_H 1 (bodyOf Try.f44) (argEnv 0 [.pointer x]) [] w (finish Try.prog callF Try.f44.results.toList R)) h)

def view_Builder_Len_VC (b : Option Addr) (w : World) (R : Ending → World → Prop) : Prop :=
  NilVC b fun p =>
  ∃ (xA : Option Addr) (xn xc : Nat), w.cell? p = some (.slice xA xn xc) ∧
  R (.returned (.int .i64 (xn : Int))) w
def view_Builder_Len_H : Hints := []
set_option maxRecDepth 100000 in
theorem view_Builder_Len_of (b : Option Addr) (w : World) (R : Ending → World → Prop) (h : view_Builder_Len_VC b w R) :
    Calls Try.prog 45 #[.pointer b] w R :=
  calls_of_wpc callOk mixedOk (H := view_Builder_Len_H) (args := [.pointer b]) (fn := Try.f45) (c := bodyOf Try.f45) Try.func45 rfl (Nat.le_of_ble_eq_true rfl)
    (Eq.mp (by kernel_rfl : view_Builder_Len_VC b w R = wpc Try.prog callF Try.f45.ntmps view_Builder_Len_H 1 (bodyOf Try.f45) (argEnv 0 [.pointer b]) [] w (finish Try.prog callF Try.f45.results.toList R)) h)

def view_Cursor_Place_VC (c : Option Addr) (w : World) (R : Ending → World → Prop) : Prop :=
  NilVC c fun p =>
  ∃ x : Int, w.cell? (p.add 1) = some (.int .i64 x) ∧
  R (.returned (.int .i64 x)) w
def view_Cursor_Place_H : Hints := []
set_option maxRecDepth 100000 in
theorem view_Cursor_Place_of (c : Option Addr) (w : World) (R : Ending → World → Prop) (h : view_Cursor_Place_VC c w R) :
    Calls Try.prog 46 #[.pointer c] w R :=
  calls_of_wpc callOk mixedOk (H := view_Cursor_Place_H) (args := [.pointer c]) (fn := Try.f46) (c := bodyOf Try.f46) Try.func46 rfl (Nat.le_of_ble_eq_true rfl)
    (Eq.mp (by kernel_rfl : view_Cursor_Place_VC c w R = wpc Try.prog callF Try.f46.ntmps view_Cursor_Place_H 1 (bodyOf Try.f46) (argEnv 0 [.pointer c]) [] w (finish Try.prog callF Try.f46.results.toList R)) h)

def weirref1_Cursor_Uint_VC (c : Option Addr) (n : Int) (w : World) (R : Ending → World → Prop) : Prop :=
  DrawVC w fun S1 w1 =>
  NilVC c fun p =>
  ∃ (xA : Option Addr) (xn xc : Nat), (∀ w' : World, S1 w' → w'.cell? p = some (.slice xA xn xc)) ∧
  NilVC c fun p1 =>
  ∃ x : Int, (∀ w' : World, S1 w' → w'.cell? (p1.add 1) = some (.int .i64 x)) ∧
  Calls Try.prog 67 #[.slice xA xn xc, .int .i64 x, .int .i64 n] w1 (onRet (fun r_ w2 => ∃ x0 : Int, ∃ x1 : Int, r_ = .tuple #[.int .u64 x0, .int .i64 x1] ∧
  S1 w2 ∧
  Br (decide (x1 = 0))
    (NilVC c fun p2 =>
    ∃ x2 : Int, w2.cell? (p2.add 1) = some (.int .i64 x2) ∧
    NilVC c fun p3 =>
    SetVC w2 (p3.add 1) (.int .i64 (IntKind.i64.wrap (x2 + n))) fun w3 =>
    R (.returned (.tuple #[.int .u64 x0, .int .i64 x1])) w3)
    (R (.returned (.tuple #[.int .u64 x0, .int .i64 x1])) w2))
    (fun _ _ => False))
def weirref1_Cursor_Uint_H : Hints := []
set_option maxRecDepth 100000 in
theorem weirref1_Cursor_Uint_of (c : Option Addr) (n : Int) (w : World) (R : Ending → World → Prop) (h : weirref1_Cursor_Uint_VC c n w R) :
    Calls Try.prog 47 #[.pointer c, .int .i64 n] w R :=
  calls_of_wpc callOk mixedOk (H := weirref1_Cursor_Uint_H) (args := [.pointer c, .int .i64 n]) (fn := Try.f47) (c := bodyOf Try.f47) Try.func47 rfl (Nat.le_of_ble_eq_true rfl)
    (Eq.mp (by kernel_rfl : weirref1_Cursor_Uint_VC c n w R = wpc Try.prog callF Try.f47.ntmps weirref1_Cursor_Uint_H 1 (bodyOf Try.f47) (argEnv 0 [.pointer c, .int .i64 n]) [] w (finish Try.prog callF Try.f47.results.toList R)) h)

def weirref1_Cursor_Window_VC (c : Option Addr) (n : Int) (w : World) (R : Ending → World → Prop) : Prop :=
  DrawVC w fun S1 w1 =>
  NilVC c fun p =>
  ∃ (xA : Option Addr) (xn xc : Nat), (∀ w' : World, S1 w' → w'.cell? p = some (.slice xA xn xc)) ∧
  NilVC c fun p1 =>
  ∃ x : Int, (∀ w' : World, S1 w' → w'.cell? (p1.add 1) = some (.int .i64 x)) ∧
  Calls Try.prog 70 #[.slice xA xn xc, .int .i64 x, .int .i64 n] w1 (onRet (fun r_ w2 => ∃ (x0A : Option Addr) (x0n x0c : Nat), ∃ x1 : Int, r_ = .tuple #[.slice x0A x0n x0c, .int .i64 x1] ∧
  S1 w2 ∧
  Br (decide (x1 = 0))
    (NilVC c fun p2 =>
    ∃ x2 : Int, w2.cell? (p2.add 1) = some (.int .i64 x2) ∧
    NilVC c fun p3 =>
    SetVC w2 (p3.add 1) (.int .i64 (IntKind.i64.wrap (x2 + n))) fun w3 =>
    R (.returned (.tuple #[.slice x0A x0n x0c, .int .i64 x1])) w3)
    (R (.returned (.tuple #[.slice x0A x0n x0c, .int .i64 x1])) w2))
    (fun _ _ => False))
def weirref1_Cursor_Window_H : Hints := []
set_option maxRecDepth 100000 in
theorem weirref1_Cursor_Window_of (c : Option Addr) (n : Int) (w : World) (R : Ending → World → Prop) (h : weirref1_Cursor_Window_VC c n w R) :
    Calls Try.prog 48 #[.pointer c, .int .i64 n] w R :=
  calls_of_wpc callOk mixedOk (H := weirref1_Cursor_Window_H) (args := [.pointer c, .int .i64 n]) (fn := Try.f48) (c := bodyOf Try.f48) Try.func48 rfl (Nat.le_of_ble_eq_true rfl)
    (Eq.mp (by kernel_rfl : weirref1_Cursor_Window_VC c n w R = wpc Try.prog callF Try.f48.ntmps weirref1_Cursor_Window_H 1 (bodyOf Try.f48) (argEnv 0 [.pointer c, .int .i64 n]) [] w (finish Try.prog callF Try.f48.results.toList R)) h)

def weirref1_Cursor_Skip_VC (c : Option Addr) (n : Int) (w : World) (R : Ending → World → Prop) : Prop :=
  Calls Try.prog 48 #[.pointer c, .int .i64 n] w (onRet (fun r_ w1 => ∃ (x0A : Option Addr) (x0n x0c : Nat), ∃ x1 : Int, r_ = .tuple #[.slice x0A x0n x0c, .int .i64 x1] ∧
  R (.returned (.int .i64 x1)) w1)
    (fun ch w1 => R (.panicked ch) w1))
def weirref1_Cursor_Skip_H : Hints := []
set_option maxRecDepth 100000 in
theorem weirref1_Cursor_Skip_of (c : Option Addr) (n : Int) (w : World) (R : Ending → World → Prop) (h : weirref1_Cursor_Skip_VC c n w R) :
    Calls Try.prog 49 #[.pointer c, .int .i64 n] w R :=
  calls_of_wpc callOk mixedOk (H := weirref1_Cursor_Skip_H) (args := [.pointer c, .int .i64 n]) (fn := Try.f49) (c := bodyOf Try.f49) Try.func49 rfl (Nat.le_of_ble_eq_true rfl)
    (Eq.mp (by kernel_rfl : weirref1_Cursor_Skip_VC c n w R = wpc Try.prog callF Try.f49.ntmps weirref1_Cursor_Skip_H 1 (bodyOf Try.f49) (argEnv 0 [.pointer c, .int .i64 n]) [] w (finish Try.prog callF Try.f49.results.toList R)) h)

def view_sized_VC (n : Int) (w : World) (R : Ending → World → Prop) : Prop :=
  Br (decide ((1 : Int) ≤ n))
    (R (.returned (.bool (decide (n ≤ 8)))) w)
    (R (.returned (.bool false)) w)
def view_sized_H : Hints := []
set_option maxRecDepth 100000 in
theorem view_sized_of (n : Int) (w : World) (R : Ending → World → Prop) (h : view_sized_VC n w R) :
    Calls Try.prog 50 #[.int .i64 n] w R :=
  calls_of_wpc callOk mixedOk (H := view_sized_H) (args := [.int .i64 n]) (fn := Try.f50) (c := bodyOf Try.f50) Try.func50 rfl (Nat.le_of_ble_eq_true rfl)
    (Eq.mp (by kernel_rfl : view_sized_VC n w R = wpc Try.prog callF Try.f50.ntmps view_sized_H 1 (bodyOf Try.f50) (argEnv 0 [.int .i64 n]) [] w (finish Try.prog callF Try.f50.results.toList R)) h)

def view_holds_VC (n : Int) (v_ : Int) (w : World) (R : Ending → World → Prop) : Prop :=
  Br (decide (n = 8))
    (R (.returned (.bool true)) w)
    (ShVC (IntKind.u64.wrap (8 * IntKind.u64.wrap n)) (
    R (.returned (.bool (decide (Int.fdiv v_ (2 ^ (min ((IntKind.u64.wrap (8 * IntKind.u64.wrap n)).toNat) 64)) = 0)))) w))
def view_holds_H : Hints := []
set_option maxRecDepth 100000 in
theorem view_holds_of (n : Int) (v_ : Int) (w : World) (R : Ending → World → Prop) (h : view_holds_VC n v_ w R) :
    Calls Try.prog 51 #[.int .i64 n, .int .u64 v_] w R :=
  calls_of_wpc callOk mixedOk (H := view_holds_H) (args := [.int .i64 n, .int .u64 v_]) (fn := Try.f51) (c := bodyOf Try.f51) Try.func51 rfl (Nat.le_of_ble_eq_true rfl)
    (Eq.mp (by kernel_rfl : view_holds_VC n v_ w R = wpc Try.prog callF Try.f51.ntmps view_holds_H 1 (bodyOf Try.f51) (argEnv 0 [.int .i64 n, .int .u64 v_]) [] w (finish Try.prog callF Try.f51.results.toList R)) h)

def view_write_L6 (R : Ending → World → Prop) (wA : Option Addr) (wn : Nat) (v_1 : Int) (i : Int) (w1 : World) (K6 : (Int × Int → World → Prop)) : Prop :=
  Br (decide ((0 : Int) ≤ i))
    (IdxVC wA wn 1 i fun a =>
  SetVC w1 a (.int .u8 (IntKind.u8.wrap v_1)) fun w2 =>
  K6 (Int.fdiv v_1 256, IntKind.i64.wrap (i - 1)) w2)
    (R (.returned (.tuple #[])) w1)
def view_write_VC (wA : Option Addr) (wn : Nat) (_wc : Nat) (v_ : Int) (w : World) (R : Ending → World → Prop) : Prop :=
  LoopVC (S := Int × Int) (fun s w1 K6 => view_write_L6 R wA wn s.1 s.2 w1 K6) (v_, IntKind.i64.wrap ((wn : Int) - 1)) w
def view_write_H : Hints := [(6, [(1, .int .u64), (4, .int .i64)])]
set_option maxRecDepth 100000 in
theorem view_write_of (wA : Option Addr) (wn : Nat) (wc : Nat) (v_ : Int) (w : World) (R : Ending → World → Prop) (h : view_write_VC wA wn wc v_ w R) :
    Calls Try.prog 52 #[.slice wA wn wc, .int .u64 v_] w R :=
  calls_of_wpc callOk mixedOk (H := view_write_H) (args := [.slice wA wn wc, .int .u64 v_]) (fn := Try.f52) (c := bodyOf Try.f52) Try.func52 rfl (Nat.le_of_ble_eq_true rfl)
    (Eq.mp (by kernel_rfl : view_write_VC wA wn wc v_ w R = wpc Try.prog callF Try.f52.ntmps view_write_H 1 (bodyOf Try.f52) (argEnv 0 [.slice wA wn wc, .int .u64 v_]) [] w (finish Try.prog callF Try.f52.results.toList R)) h)

def weirref1_Builder_Put_VC (b : Option Addr) (n : Int) (v_ : Int) (w : World) (R : Ending → World → Prop) : Prop :=
  Calls Try.prog 72 #[.int .i64 n, .int .u64 v_] w (onRet (fun r_ w1 => ∃ (x0A : Option Addr) (x0n x0c : Nat), ∃ x1 : Int, r_ = .tuple #[.slice x0A x0n x0c, .int .i64 x1] ∧
  Br (decide (x1 ≠ 0))
    (R (.returned (.int .i64 x1)) w1)
    (NewVC w1 (.cells #[.slice x0A x0n x0c] 22) fun g1 w2 =>
  Calls Try.prog 56 #[.pointer b, .slice (some ⟨g1, 0, none⟩) 1 1] w2 (onRet (fun r_1 w3 => ∃ x : Int, r_1 = .int .i64 x ∧
  R (.returned (.int .i64 x)) w3)
    (fun ch1 w3 => R (.panicked ch1) w3))))
    (fun ch w1 => R (.panicked ch) w1))
def weirref1_Builder_Put_H : Hints := []
set_option maxRecDepth 100000 in
theorem weirref1_Builder_Put_of (b : Option Addr) (n : Int) (v_ : Int) (w : World) (R : Ending → World → Prop) (h : weirref1_Builder_Put_VC b n v_ w R) :
    Calls Try.prog 53 #[.pointer b, .int .i64 n, .int .u64 v_] w R :=
  calls_of_wpc callOk mixedOk (H := weirref1_Builder_Put_H) (args := [.pointer b, .int .i64 n, .int .u64 v_]) (fn := Try.f53) (c := bodyOf Try.f53) Try.func53 rfl (Nat.le_of_ble_eq_true rfl)
    (Eq.mp (by kernel_rfl : weirref1_Builder_Put_VC b n v_ w R = wpc Try.prog callF Try.f53.ntmps weirref1_Builder_Put_H 1 (bodyOf Try.f53) (argEnv 0 [.pointer b, .int .i64 n, .int .u64 v_]) [] w (finish Try.prog callF Try.f53.results.toList R)) h)

def weirlaw1_few_L58 (R : Ending → World → Prop) (lA : Option Addr) (ln : Nat) (n : Int) (i : Int) (w1 : World) (K58 : (Int × Int → World → Prop)) : Prop :=
  Br (decide (i < (ln : Int)))
    (IdxVC lA ln 1 i fun a =>
  ∃ (xA : Option Addr) (xn xc : Nat), w1.cell? a = some (.slice xA xn xc) ∧
  Br (decide ((4194304 : Int) < IntKind.i64.wrap (IntKind.i64.wrap (n + (xn : Int)) + 1)))
    (R (.returned (.bool false)) w1)
    (K58 (IntKind.i64.wrap (IntKind.i64.wrap (n + (xn : Int)) + 1), IntKind.i64.wrap (i + 1)) w1))
    (R (.returned (.bool true)) w1)
def weirlaw1_few_VC (lA : Option Addr) (ln : Nat) (_lc : Nat) (w : World) (R : Ending → World → Prop) : Prop :=
  LoopVC (S := Int × Int) (fun s w1 K58 => weirlaw1_few_L58 R lA ln s.1 s.2 w1 K58) (0, 0) w
def weirlaw1_few_H : Hints := [(58, [(3, .int .i64), (4, .int .i64)])]
set_option maxRecDepth 100000 in
theorem weirlaw1_few_of (lA : Option Addr) (ln : Nat) (lc : Nat) (w : World) (R : Ending → World → Prop) (h : weirlaw1_few_VC lA ln lc w R) :
    Calls Try.prog 54 #[.slice lA ln lc] w R :=
  calls_of_wpc callOk mixedOk (H := weirlaw1_few_H) (args := [.slice lA ln lc]) (fn := Try.f54) (c := bodyOf Try.f54) Try.func54 rfl (Nat.le_of_ble_eq_true rfl)
    (Eq.mp (by kernel_rfl : weirlaw1_few_VC lA ln lc w R = wpc Try.prog callF Try.f54.ntmps weirlaw1_few_H 1 (bodyOf Try.f54) (argEnv 0 [.slice lA ln lc]) [] w (finish Try.prog callF Try.f54.results.toList R)) h)

def weirlaw1_cuts_L506 (R : Ending → World → Prop) (partsA : Option Addr) (partsn : Nat) (wA : Option Addr) (wn : Nat) (wc : Nat) (lA1 : Option Addr) (ln1 : Nat) (lc1 : Nat) (at_ : Int) (i1 : Int) (w4 : World) (K506 : ((Option Addr × Nat × Nat) × Int × Int → World → Prop)) : Prop :=
  Br (decide (i1 < (partsn : Int)))
    (IdxVC partsA partsn 1 i1 fun a1 =>
  ∃ (xA2 : Option Addr) (xn2 xc2 : Nat), w4.cell? a1 = some (.slice xA2 xn2 xc2) ∧
  SliceVC wA wn wc 1 (some at_) (some (IntKind.i64.wrap (at_ + (xn2 : Int)))) none fun sA sn sc =>
  NewVC w4 (.cells #[.slice sA sn sc] 22) fun g1 w5 =>
  AppVC Try.prog #[50, 50] 50 (.slice lA1 ln1 lc1) (.slice (some ⟨g1, 0, none⟩) 1 1) w5 fun lA2 ln2 lc2 w6 =>
  K506 ((lA2, ln2, lc2), IntKind.i64.wrap (IntKind.i64.wrap (at_ + (xn2 : Int)) + 75), IntKind.i64.wrap (i1 + 1)) w6)
    (R (.returned (.tuple #[.slice lA1 ln1 lc1, .slice wA wn wc])) w4)
def weirlaw1_cuts_L58 (R : Ending → World → Prop) (partsA : Option Addr) (partsn : Nat) (wA : Option Addr) (wn : Nat) (wc : Nat) (i : Int) (w1 : World) (K58 : ((Option Addr × Nat × Nat) × Int → World → Prop)) : Prop :=
  Br (decide (i < (partsn : Int)))
    (IdxVC partsA partsn 1 i fun a =>
  ∃ (xA : Option Addr) (xn xc : Nat), w1.cell? a = some (.slice xA xn xc) ∧
  Calls Try.prog 16 #[.slice xA xn xc] w1 (onRet (fun r_ w2 => ∃ (xA1 : Option Addr) (xn1 xc1 : Nat), r_ = .slice xA1 xn1 xc1 ∧
  AppVC Try.prog #[22, 22] 22 (.slice wA wn wc) (.slice xA1 xn1 xc1) w2 fun lA ln lc w3 =>
  K58 ((lA, ln, lc), IntKind.i64.wrap (i + 1)) w3)
    (fun ch w2 => R (.panicked ch) w2)))
    (LoopVC (S := (Option Addr × Nat × Nat) × Int × Int) (fun s w4 K506 => weirlaw1_cuts_L506 R partsA partsn wA wn wc s.1.1 s.1.2.1 s.1.2.2 s.2.1 s.2.2 w4 K506) ((none, 0, 0), 0, 0) w1)
def weirlaw1_cuts_VC (partsA : Option Addr) (partsn : Nat) (_partsc : Nat) (w : World) (R : Ending → World → Prop) : Prop :=
  LoopVC (S := (Option Addr × Nat × Nat) × Int) (fun s w1 K58 => weirlaw1_cuts_L58 R partsA partsn s.1.1 s.1.2.1 s.1.2.2 s.2 w1 K58) ((none, 0, 0), 0) w
def weirlaw1_cuts_H : Hints := [(58, [(4, .slice), (5, .int .i64)]), (506, [(6, .slice), (7, .int .i64), (8, .int .i64)])]
set_option maxRecDepth 100000 in
theorem weirlaw1_cuts_of (partsA : Option Addr) (partsn : Nat) (partsc : Nat) (w : World) (R : Ending → World → Prop) (h : weirlaw1_cuts_VC partsA partsn partsc w R) :
    Calls Try.prog 55 #[.slice partsA partsn partsc] w R :=
  calls_of_wpc callOk mixedOk (H := weirlaw1_cuts_H) (args := [.slice partsA partsn partsc]) (fn := Try.f55) (c := bodyOf Try.f55) Try.func55 rfl (Nat.le_of_ble_eq_true rfl)
    (Eq.mp (by kernel_rfl : weirlaw1_cuts_VC partsA partsn partsc w R = wpc Try.prog callF Try.f55.ntmps weirlaw1_cuts_H 1 (bodyOf Try.f55) (argEnv 0 [.slice partsA partsn partsc]) [] w (finish Try.prog callF Try.f55.results.toList R)) h)

def weirref1_Builder_Join_L250 (R : Ending → World → Prop) (b : Option Addr) (partsA : Option Addr) (partsn : Nat) (i1 : Int) (w2 : World) (K250 : (Int → World → Prop)) : Prop :=
  Br (decide (i1 < (partsn : Int)))
    (DrawVC w2 fun S1 w3 =>
  NilVC b fun p3 =>
  ∃ (xA2 : Option Addr) (xn2 xc2 : Nat), (∀ w' : World, S1 w' → w'.cell? (p3.add 1) = some (.slice xA2 xn2 xc2)) ∧
  IdxVC partsA partsn 1 i1 fun a1 =>
  ∃ (xA3 : Option Addr) (xn3 xc3 : Nat), (∀ w' : World, S1 w' → w'.cell? a1 = some (.slice xA3 xn3 xc3)) ∧
  AppVC Try.prog #[22, 22] 22 (.slice xA2 xn2 xc2) (.slice xA3 xn3 xc3) w3 fun lA ln lc w4 =>
  S1 w4 ∧
  NilVC b fun p4 =>
  SetVC w4 (p4.add 1) (.slice lA ln lc) fun w5 =>
  K250 (IntKind.i64.wrap (i1 + 1)) w5)
    (R (.returned (.int .i64 0)) w2)
def weirref1_Builder_Join_L58 (R : Ending → World → Prop) (b : Option Addr) (partsA : Option Addr) (partsn : Nat) (n : Int) (i : Int) (w1 : World) (K58 : (Int × Int → World → Prop)) : Prop :=
  Br (decide (i < (partsn : Int)))
    (IdxVC partsA partsn 1 i fun a =>
  ∃ (xA1 : Option Addr) (xn1 xc1 : Nat), w1.cell? a = some (.slice xA1 xn1 xc1) ∧
  NilVC b fun p1 =>
  ∃ x : Int, w1.cell? p1 = some (.int .i64 x) ∧
  Br (decide (x < IntKind.i64.wrap (n + (xn1 : Int))))
    (R (.returned (.int .i64 13)) w1)
    (K58 (IntKind.i64.wrap (n + (xn1 : Int)), IntKind.i64.wrap (i + 1)) w1))
    (NilVC b fun p2 =>
  ∃ x1 : Int, w1.cell? p2 = some (.int .i64 x1) ∧
  Br (decide (x1 < n))
    (R (.returned (.int .i64 13)) w1)
    (LoopVC (S := Int) (fun s w2 K250 => weirref1_Builder_Join_L250 R b partsA partsn s w2 K250) 0 w1))
def weirref1_Builder_Join_VC (b : Option Addr) (partsA : Option Addr) (partsn : Nat) (_partsc : Nat) (w : World) (R : Ending → World → Prop) : Prop :=
  NilVC b fun p =>
  ∃ (xA : Option Addr) (xn xc : Nat), w.cell? (p.add 1) = some (.slice xA xn xc) ∧
  LoopVC (S := Int × Int) (fun s w1 K58 => weirref1_Builder_Join_L58 R b partsA partsn s.1 s.2 w1 K58) ((xn : Int), 0) w
def weirref1_Builder_Join_H : Hints := [(58, [(5, .int .i64), (6, .int .i64)]), (250, [(7, .int .i64)])]
set_option maxRecDepth 100000 in
theorem weirref1_Builder_Join_of (b : Option Addr) (partsA : Option Addr) (partsn : Nat) (partsc : Nat) (w : World) (R : Ending → World → Prop) (h : weirref1_Builder_Join_VC b partsA partsn partsc w R) :
    Calls Try.prog 56 #[.pointer b, .slice partsA partsn partsc] w R :=
  calls_of_wpc callOk mixedOk (H := weirref1_Builder_Join_H) (args := [.pointer b, .slice partsA partsn partsc]) (fn := Try.f56) (c := bodyOf Try.f56) Try.func56 rfl (Nat.le_of_ble_eq_true rfl)
    (Eq.mp (by kernel_rfl : weirref1_Builder_Join_VC b partsA partsn partsc w R = wpc Try.prog callF Try.f56.ntmps weirref1_Builder_Join_H 1 (bodyOf Try.f56) (argEnv 0 [.pointer b, .slice partsA partsn partsc]) [] w (finish Try.prog callF Try.f56.results.toList R)) h)

def view_Builder_Patch_VC (b : Option Addr) (at_ : Int) (n : Int) (v_ : Int) (w : World) (R : Ending → World → Prop) : Prop :=
  NewVC w (.cells #[.int .i64 0] 28) fun g1 w1 =>
  Calls Try.prog 50 #[.int .i64 n] w1 (onRet (fun r_ w2 => ∃ x : Bool, r_ = .bool x ∧
  Br (!x)
    (SetVC w2 ⟨g1, 0, none⟩ (.int .i64 1) fun w3 =>
    ∃ res : Int, w3.cell? ⟨g1, 0, none⟩ = some (.int .i64 res) ∧
  R (.returned (.int .i64 res)) w3)
    (Calls Try.prog 51 #[.int .i64 n, .int .u64 v_] w2 (onRet (fun r_1 w4 => ∃ x1 : Bool, r_1 = .bool x1 ∧
    Br (!x1)
      (SetVC w4 ⟨g1, 0, none⟩ (.int .i64 12) fun w5 =>
      ∃ res1 : Int, w5.cell? ⟨g1, 0, none⟩ = some (.int .i64 res1) ∧
  R (.returned (.int .i64 res1)) w5)
      (NilVC b fun p =>
  ∃ (xA : Option Addr) (xn xc : Nat), w4.cell? p = some (.slice xA xn xc) ∧
  Calls Try.prog 63 #[.slice xA xn xc, .int .i64 at_, .int .i64 n] w4 (onRet (fun r_2 w6 => ∃ (xA1 : Option Addr) (xn1 xc1 : Nat), r_2 = .slice xA1 xn1 xc1 ∧
  Calls Try.prog 52 #[.slice xA1 xn1 xc1, .int .u64 v_] w6 (onRet (fun r_3 w7 => r_3 = .tuple #[] ∧
  SetVC w7 ⟨g1, 0, none⟩ (.int .i64 0) fun w8 =>
  leaveWp Try.prog callF (fun w9 => ∃ res2 : Int, w9.cell? ⟨g1, 0, none⟩ = some (.int .i64 res2) ∧
    R (.returned (.int .i64 res2)) w9)
    R [{ target := .fn (.func 73) #[.pointer (some ⟨g1, 0, none⟩)], args := #[] }] .returning w8)
    (fun ch3 w7 => leaveWp Try.prog callF (fun w10 => ∃ res3 : Int, w10.cell? ⟨g1, 0, none⟩ = some (.int .i64 res3) ∧
    R (.returned (.int .i64 res3)) w10)
    R [{ target := .fn (.func 73) #[.pointer (some ⟨g1, 0, none⟩)], args := #[] }] (.panicking ch3) w7)))
    (fun ch2 w6 => leaveWp Try.prog callF (fun w11 => ∃ res4 : Int, w11.cell? ⟨g1, 0, none⟩ = some (.int .i64 res4) ∧
    R (.returned (.int .i64 res4)) w11)
    R [{ target := .fn (.func 73) #[.pointer (some ⟨g1, 0, none⟩)], args := #[] }] (.panicking ch2) w6))))
      (fun ch1 w4 => R (.panicked ch1) w4))))
    (fun ch w2 => R (.panicked ch) w2))
def view_Builder_Patch_H : Hints := []
set_option maxRecDepth 100000 in
theorem view_Builder_Patch_of (b : Option Addr) (at_ : Int) (n : Int) (v_ : Int) (w : World) (R : Ending → World → Prop) (h : view_Builder_Patch_VC b at_ n v_ w R) :
    Calls Try.prog 57 #[.pointer b, .int .i64 at_, .int .i64 n, .int .u64 v_] w R :=
  calls_of_wpc callOk mixedOk (H := view_Builder_Patch_H) (args := [.pointer b, .int .i64 at_, .int .i64 n, .int .u64 v_]) (fn := Try.f57) (c := bodyOf Try.f57) Try.func57 rfl (Nat.le_of_ble_eq_true rfl)
    (Eq.mp (by kernel_rfl : view_Builder_Patch_VC b at_ n v_ w R = wpc Try.prog callF Try.f57.ntmps view_Builder_Patch_H 1 (bodyOf Try.f57) (argEnv 0 [.pointer b, .int .i64 at_, .int .i64 n, .int .u64 v_]) [] w (finish Try.prog callF Try.f57.results.toList R)) h)

def weirref1_Builder_Patch_L506 (R : Ending → World → Prop) (b : Option Addr) (at_ : Int) (n : Int) (x0A : Option Addr) (x0n : Nat) (i : Int) (w3 : World) (K506 : (Int → World → Prop)) : Prop :=
  Br (decide (i < n))
    (DrawVC w3 fun S1 w4 =>
  NilVC b fun p1 =>
  ∃ (xA1 : Option Addr) (xn1 xc1 : Nat), (∀ w' : World, S1 w' → w'.cell? (p1.add 1) = some (.slice xA1 xn1 xc1)) ∧
  IdxVC x0A x0n 1 i fun a =>
  ∃ x2 : Int, (∀ w' : World, S1 w' → w'.cell? a = some (.int .u8 x2)) ∧
  IdxVC xA1 xn1 1 (IntKind.i64.wrap (at_ + i)) fun a1 =>
  SetVC w4 a1 (.int .u8 x2) fun w5 =>
  K506 (IntKind.i64.wrap (i + 1)) w5)
    (R (.returned (.int .i64 0)) w3)
def weirref1_Builder_Patch_VC (b : Option Addr) (at_ : Int) (n : Int) (v_ : Int) (w : World) (R : Ending → World → Prop) : Prop :=
  Calls Try.prog 72 #[.int .i64 n, .int .u64 v_] w (onRet (fun r_ w1 => ∃ (x0A : Option Addr) (x0n x0c : Nat), ∃ x1 : Int, r_ = .tuple #[.slice x0A x0n x0c, .int .i64 x1] ∧
  Br (decide (x1 ≠ 0))
    (R (.returned (.int .i64 x1)) w1)
    (NilVC b fun p =>
  ∃ (xA : Option Addr) (xn xc : Nat), w1.cell? (p.add 1) = some (.slice xA xn xc) ∧
  Calls Try.prog 74 #[.slice xA xn xc, .int .i64 at_, .int .i64 n] w1 (onRet (fun r_1 w2 => ∃ x : Bool, r_1 = .bool x ∧
  Br (!x)
    (R (.returned (.int .i64 10)) w2)
    (LoopVC (S := Int) (fun s w3 K506 => weirref1_Builder_Patch_L506 R b at_ n x0A x0n s w3 K506) 0 w2))
    (fun ch1 w2 => R (.panicked ch1) w2))))
    (fun ch w1 => R (.panicked ch) w1))
def weirref1_Builder_Patch_H : Hints := [(506, [(12, .int .i64)])]
set_option maxRecDepth 100000 in
theorem weirref1_Builder_Patch_of (b : Option Addr) (at_ : Int) (n : Int) (v_ : Int) (w : World) (R : Ending → World → Prop) (h : weirref1_Builder_Patch_VC b at_ n v_ w R) :
    Calls Try.prog 58 #[.pointer b, .int .i64 at_, .int .i64 n, .int .u64 v_] w R :=
  calls_of_wpc callOk mixedOk (H := weirref1_Builder_Patch_H) (args := [.pointer b, .int .i64 at_, .int .i64 n, .int .u64 v_]) (fn := Try.f58) (c := bodyOf Try.f58) Try.func58 rfl (Nat.le_of_ble_eq_true rfl)
    (Eq.mp (by kernel_rfl : weirref1_Builder_Patch_VC b at_ n v_ w R = wpc Try.prog callF Try.f58.ntmps weirref1_Builder_Patch_H 1 (bodyOf Try.f58) (argEnv 0 [.pointer b, .int .i64 at_, .int .i64 n, .int .u64 v_]) [] w (finish Try.prog callF Try.f58.results.toList R)) h)

def view_number_L122 (R : Ending → World → Prop) (bA : Option Addr) (bn : Nat) (bc : Nat) (at_ : Int) (n : Int) (v_ : Int) (t20_ : Int) (w1 : World) (K122 : (Int × Int → World → Prop)) : Prop :=
  Br (decide (t20_ < n))
    (Calls Try.prog 64 #[.slice bA bn bc, .int .i64 (IntKind.i64.wrap (at_ + t20_))] w1 (onRet (fun r_ w2 => ∃ x : Int, r_ = .int .u8 x ∧
  K122 (bitv .or .u64 (IntKind.u64.wrap (v_ * 256)) (IntKind.u64.wrap x), IntKind.i64.wrap (t20_ + 1)) w2)
    (fun ch w2 => R (.panicked ch) w2)))
    (R (.returned (.int .u64 v_)) w1)
def view_number_VC (bA : Option Addr) (bn : Nat) (bc : Nat) (at_ : Int) (n : Int) (w : World) (R : Ending → World → Prop) : Prop :=
  Br (decide (at_ < 0))
    (R (.panicked [{ v := .iface 127 (.agg #[]), recovered := false }]) w)
    (Br (decide ((bn : Int) < at_))
    (R (.panicked [{ v := .iface 127 (.agg #[]), recovered := false }]) w)
    (LoopVC (S := Int × Int) (fun s w1 K122 => view_number_L122 R bA bn bc at_ n s.1 s.2 w1 K122) (0, 0) w))
def view_number_H : Hints := [(122, [(7, .int .u64), (20, .int .i64)])]
set_option maxRecDepth 100000 in
theorem view_number_of (bA : Option Addr) (bn : Nat) (bc : Nat) (at_ : Int) (n : Int) (w : World) (R : Ending → World → Prop) (h : view_number_VC bA bn bc at_ n w R) :
    Calls Try.prog 60 #[.slice bA bn bc, .int .i64 at_, .int .i64 n] w R :=
  calls_of_wpc callOk mixedOk (H := view_number_H) (args := [.slice bA bn bc, .int .i64 at_, .int .i64 n]) (fn := Try.f60) (c := bodyOf Try.f60) Try.func60 rfl (Nat.le_of_ble_eq_true rfl)
    (Eq.mp (by kernel_rfl : view_number_VC bA bn bc at_ n w R = wpc Try.prog callF Try.f60.ntmps view_number_H 1 (bodyOf Try.f60) (argEnv 0 [.slice bA bn bc, .int .i64 at_, .int .i64 n]) [] w (finish Try.prog callF Try.f60.results.toList R)) h)

def view_bits_L122 (R : Ending → World → Prop) (widthsA : Option Addr) (widthsn : Nat) (all : Int) (t12_ : Int) (w1 : World) (K122 : (Int × Int → World → Prop)) : Prop :=
  Br (decide (t12_ < (widthsn : Int)))
    (IdxVC widthsA widthsn 1 t12_ fun a =>
  ∃ x : Int, w1.cell? a = some (.int .i64 x) ∧
  Br (decide (x < 1))
    (R (.returned (.tuple #[.int .i64 0, .int .i64 11])) w1)
    (Br (decide ((32 : Int) < x))
    (R (.returned (.tuple #[.int .i64 0, .int .i64 11])) w1)
    (K122 (IntKind.i64.wrap (all + x), IntKind.i64.wrap (t12_ + 1)) w1)))
    (Br (decide (Int.tmod all 8 ≠ 0))
    (R (.returned (.tuple #[.int .i64 0, .int .i64 11])) w1)
    (R (.returned (.tuple #[.int .i64 (IntKind.i64.wrap (Int.tdiv all 8)), .int .i64 0])) w1))
def view_bits_VC (widthsA : Option Addr) (widthsn : Nat) (_widthsc : Nat) (w : World) (R : Ending → World → Prop) : Prop :=
  Br (decide ((64 : Int) < (widthsn : Int)))
    (R (.returned (.tuple #[.int .i64 0, .int .i64 11])) w)
    (LoopVC (S := Int × Int) (fun s w1 K122 => view_bits_L122 R widthsA widthsn s.1 s.2 w1 K122) (0, 0) w)
def view_bits_H : Hints := [(122, [(4, .int .i64), (12, .int .i64)])]
set_option maxRecDepth 100000 in
theorem view_bits_of (widthsA : Option Addr) (widthsn : Nat) (widthsc : Nat) (w : World) (R : Ending → World → Prop) (h : view_bits_VC widthsA widthsn widthsc w R) :
    Calls Try.prog 61 #[.slice widthsA widthsn widthsc] w R :=
  calls_of_wpc callOk mixedOk (H := view_bits_H) (args := [.slice widthsA widthsn widthsc]) (fn := Try.f61) (c := bodyOf Try.f61) Try.func61 rfl (Nat.le_of_ble_eq_true rfl)
    (Eq.mp (by kernel_rfl : view_bits_VC widthsA widthsn widthsc w R = wpc Try.prog callF Try.f61.ntmps view_bits_H 1 (bodyOf Try.f61) (argEnv 0 [.slice widthsA widthsn widthsc]) [] w (finish Try.prog callF Try.f61.results.toList R)) h)

def view_part_VC (bA : Option Addr) (bn : Nat) (bc : Nat) (at_ : Int) (n : Int) (w : World) (R : Ending → World → Prop) : Prop :=
  Br (decide (at_ < 0))
    (R (.panicked [{ v := .iface 127 (.agg #[]), recovered := false }]) w)
    (Br (decide ((bn : Int) < at_))
      (R (.panicked [{ v := .iface 127 (.agg #[]), recovered := false }]) w)
      (Br (decide (IntKind.i64.wrap ((bn : Int) - at_) < n))
    (R (.panicked [{ v := .iface 127 (.agg #[]), recovered := false }]) w)
    (SliceVC bA bn bc 1 (some at_) (some (IntKind.i64.wrap (at_ + n))) (some (IntKind.i64.wrap (at_ + n))) fun sA sn sc =>
  R (.returned (.slice sA sn sc)) w)))
def view_part_H : Hints := []
set_option maxRecDepth 100000 in
theorem view_part_of (bA : Option Addr) (bn : Nat) (bc : Nat) (at_ : Int) (n : Int) (w : World) (R : Ending → World → Prop) (h : view_part_VC bA bn bc at_ n w R) :
    Calls Try.prog 63 #[.slice bA bn bc, .int .i64 at_, .int .i64 n] w R :=
  calls_of_wpc callOk mixedOk (H := view_part_H) (args := [.slice bA bn bc, .int .i64 at_, .int .i64 n]) (fn := Try.f63) (c := bodyOf Try.f63) Try.func63 rfl (Nat.le_of_ble_eq_true rfl)
    (Eq.mp (by kernel_rfl : view_part_VC bA bn bc at_ n w R = wpc Try.prog callF Try.f63.ntmps view_part_H 1 (bodyOf Try.f63) (argEnv 0 [.slice bA bn bc, .int .i64 at_, .int .i64 n]) [] w (finish Try.prog callF Try.f63.results.toList R)) h)

def view_look_VC (bA : Option Addr) (bn : Nat) (_bc : Nat) (i : Int) (w : World) (R : Ending → World → Prop) : Prop :=
  Br (decide (i < 0))
    (R (.panicked [{ v := .iface 127 (.agg #[]), recovered := false }]) w)
    (Br (decide ((bn : Int) ≤ i))
    (R (.panicked [{ v := .iface 127 (.agg #[]), recovered := false }]) w)
    (IdxVC bA bn 1 i fun a =>
  ∃ x : Int, w.cell? a = some (.int .u8 x) ∧
  R (.returned (.int .u8 x)) w))
def view_look_H : Hints := []
set_option maxRecDepth 100000 in
theorem view_look_of (bA : Option Addr) (bn : Nat) (bc : Nat) (i : Int) (w : World) (R : Ending → World → Prop) (h : view_look_VC bA bn bc i w R) :
    Calls Try.prog 64 #[.slice bA bn bc, .int .i64 i] w R :=
  calls_of_wpc callOk mixedOk (H := view_look_H) (args := [.slice bA bn bc, .int .i64 i]) (fn := Try.f64) (c := bodyOf Try.f64) Try.func64 rfl (Nat.le_of_ble_eq_true rfl)
    (Eq.mp (by kernel_rfl : view_look_VC bA bn bc i w R = wpc Try.prog callF Try.f64.ntmps view_look_H 1 (bodyOf Try.f64) (argEnv 0 [.slice bA bn bc, .int .i64 i]) [] w (finish Try.prog callF Try.f64.results.toList R)) h)

def weirlaw1_plays_VC (o_Kind : Int) (o_BA : Option Addr) (o_Bn : Nat) (o_Bc : Nat) (o_At : Int) (o_N : Int) (o_WidthsA : Option Addr) (o_Widthsn : Nat) (o_Widthsc : Nat) (o_ValuesA : Option Addr) (o_Valuesn : Nat) (o_Valuesc : Nat) (w : World) (R : Ending → World → Prop) : Prop :=
  NewVC w (.cells #[.int .i64 o_Kind, .slice o_BA o_Bn o_Bc, .int .i64 o_At, .int .i64 o_N, .slice o_WidthsA o_Widthsn o_Widthsc, .slice o_ValuesA o_Valuesn o_Valuesc] 75) fun g1 w1 =>
  ∃ (xA : Option Addr) (xn xc : Nat), w1.cell? ⟨g1, 1, none⟩ = some (.slice xA xn xc) ∧
  Calls Try.prog 16 #[.slice xA xn xc] w1 (onRet (fun r_ w2 => ∃ (xA1 : Option Addr) (xn1 xc1 : Nat), r_ = .slice xA1 xn1 xc1 ∧
  ∃ (xA2 : Option Addr) (xn2 xc2 : Nat), w2.cell? ⟨g1, 4, none⟩ = some (.slice xA2 xn2 xc2) ∧
  Calls Try.prog 75 #[.slice xA2 xn2 xc2] w2 (onRet (fun r_1 w3 => ∃ (xA3 : Option Addr) (xn3 xc3 : Nat), r_1 = .slice xA3 xn3 xc3 ∧
  ∃ (xA4 : Option Addr) (xn4 xc4 : Nat), w3.cell? ⟨g1, 5, none⟩ = some (.slice xA4 xn4 xc4) ∧
  Calls Try.prog 75 #[.slice xA4 xn4 xc4] w3 (onRet (fun r_2 w4 => ∃ (xA5 : Option Addr) (xn5 xc5 : Nat), r_2 = .slice xA5 xn5 xc5 ∧
  ∃ x0 : Int, ∃ (x1A : Option Addr) (x1n x1c : Nat), ∃ x2 : Int, ∃ x3 : Int, ∃ (x4A : Option Addr) (x4n x4c : Nat), ∃ (x5A : Option Addr) (x5n x5c : Nat), CellsAt w4 ⟨g1, 0, none⟩ 0 [.int .i64 x0, .slice x1A x1n x1c, .int .i64 x2, .int .i64 x3, .slice x4A x4n x4c, .slice x5A x5n x5c] ∧
  NewVC w4 (.cells #[.int .i64 0, .slice none 0 0, .int .i64 0, .int .i64 0, .slice none 0 0, .slice none 0 0] 75) fun g2 w5 =>
  SetVC w5 ⟨g2, 0, none⟩ (.int .i64 x0) fun w6 =>
  SetVC w6 ⟨g2, 1, none⟩ (.slice x1A x1n x1c) fun w7 =>
  SetVC w7 ⟨g2, 2, none⟩ (.int .i64 x2) fun w8 =>
  SetVC w8 ⟨g2, 3, none⟩ (.int .i64 x3) fun w9 =>
  SetVC w9 ⟨g2, 4, none⟩ (.slice x4A x4n x4c) fun w10 =>
  SetVC w10 ⟨g2, 5, none⟩ (.slice x5A x5n x5c) fun w11 =>
  ∃ (xA6 : Option Addr) (xn6 xc6 : Nat), w11.cell? ⟨g1, 1, none⟩ = some (.slice xA6 xn6 xc6) ∧
  SliceVC xA1 xn1 xc1 1 none (some (xn6 : Int)) none fun sA sn sc =>
  SetVC w11 ⟨g2, 1, none⟩ (.slice sA sn sc) fun w12 =>
  ∃ (xA7 : Option Addr) (xn7 xc7 : Nat), w12.cell? ⟨g1, 4, none⟩ = some (.slice xA7 xn7 xc7) ∧
  SliceVC xA3 xn3 xc3 1 none (some (xn7 : Int)) none fun sA1 sn1 sc1 =>
  SetVC w12 ⟨g2, 4, none⟩ (.slice sA1 sn1 sc1) fun w13 =>
  ∃ (xA8 : Option Addr) (xn8 xc8 : Nat), w13.cell? ⟨g1, 5, none⟩ = some (.slice xA8 xn8 xc8) ∧
  SliceVC xA5 xn5 xc5 1 none (some (xn8 : Int)) none fun sA2 sn2 sc2 =>
  SetVC w13 ⟨g2, 5, none⟩ (.slice sA2 sn2 sc2) fun w14 =>
  ∃ x01 : Int, ∃ (x1A1 : Option Addr) (x1n1 x1c1 : Nat), ∃ x21 : Int, ∃ x31 : Int, ∃ (x4A1 : Option Addr) (x4n1 x4c1 : Nat), ∃ (x5A1 : Option Addr) (x5n1 x5c1 : Nat), CellsAt w14 ⟨g2, 0, none⟩ 0 [.int .i64 x01, .slice x1A1 x1n1 x1c1, .int .i64 x21, .int .i64 x31, .slice x4A1 x4n1 x4c1, .slice x5A1 x5n1 x5c1] ∧
  Calls Try.prog 39 #[.agg #[.int .i64 x01, .slice x1A1 x1n1 x1c1, .int .i64 x21, .int .i64 x31, .slice x4A1 x4n1 x4c1, .slice x5A1 x5n1 x5c1]] w14 (onRet (fun r_3 w15 => ∃ x : Bool, r_3 = .bool x ∧
  Br x
    (∃ (xA9 : Option Addr) (xn9 xc9 : Nat), w15.cell? ⟨g1, 1, none⟩ = some (.slice xA9 xn9 xc9) ∧
    Calls Try.prog 16 #[.slice xA9 xn9 xc9] w15 (onRet (fun r_4 w16 => ∃ (xA10 : Option Addr) (xn10 xc10 : Nat), r_4 = .slice xA10 xn10 xc10 ∧
    Calls Try.prog 22 #[.slice xA1 xn1 xc1, .slice xA10 xn10 xc10] w16 (onRet (fun r_5 w17 => ∃ x1 : Bool, r_5 = .bool x1 ∧
    Br x1
      (∃ (xA11 : Option Addr) (xn11 xc11 : Nat), w17.cell? ⟨g1, 4, none⟩ = some (.slice xA11 xn11 xc11) ∧
      Calls Try.prog 75 #[.slice xA11 xn11 xc11] w17 (onRet (fun r_6 w18 => ∃ (xA12 : Option Addr) (xn12 xc12 : Nat), r_6 = .slice xA12 xn12 xc12 ∧
      Calls Try.prog 31 #[.slice xA3 xn3 xc3, .slice xA12 xn12 xc12] w18 (onRet (fun r_7 w19 => ∃ x4 : Bool, r_7 = .bool x4 ∧
      Br x4
        (∃ (xA13 : Option Addr) (xn13 xc13 : Nat), w19.cell? ⟨g1, 5, none⟩ = some (.slice xA13 xn13 xc13) ∧
        Calls Try.prog 75 #[.slice xA13 xn13 xc13] w19 (onRet (fun r_8 w20 => ∃ (xA14 : Option Addr) (xn14 xc14 : Nat), r_8 = .slice xA14 xn14 xc14 ∧
        Calls Try.prog 31 #[.slice xA5 xn5 xc5, .slice xA14 xn14 xc14] w20 (onRet (fun r_9 w21 => ∃ x5 : Bool, r_9 = .bool x5 ∧
        R (.returned (.bool x5)) w21)
          (fun ch9 w21 => R (.panicked ch9) w21)))
          (fun ch8 w20 => R (.panicked ch8) w20)))
        (R (.returned (.bool false)) w19))
        (fun ch7 w19 => R (.panicked ch7) w19)))
        (fun ch6 w18 => R (.panicked ch6) w18)))
      (R (.returned (.bool false)) w17))
      (fun ch5 w17 => R (.panicked ch5) w17)))
      (fun ch4 w16 => R (.panicked ch4) w16)))
    (R (.returned (.bool false)) w15))
    (fun ch3 w15 => R (.panicked ch3) w15)))
    (fun ch2 w4 => R (.panicked ch2) w4)))
    (fun ch1 w3 => R (.panicked ch1) w3)))
    (fun ch w2 => R (.panicked ch) w2))
def weirlaw1_plays_H : Hints := []
set_option maxRecDepth 100000 in
theorem weirlaw1_plays_of (o_Kind : Int) (o_BA : Option Addr) (o_Bn : Nat) (o_Bc : Nat) (o_At : Int) (o_N : Int) (o_WidthsA : Option Addr) (o_Widthsn : Nat) (o_Widthsc : Nat) (o_ValuesA : Option Addr) (o_Valuesn : Nat) (o_Valuesc : Nat) (w : World) (R : Ending → World → Prop) (h : weirlaw1_plays_VC o_Kind o_BA o_Bn o_Bc o_At o_N o_WidthsA o_Widthsn o_Widthsc o_ValuesA o_Valuesn o_Valuesc w R) :
    Calls Try.prog 66 #[.agg #[.int .i64 o_Kind, .slice o_BA o_Bn o_Bc, .int .i64 o_At, .int .i64 o_N, .slice o_WidthsA o_Widthsn o_Widthsc, .slice o_ValuesA o_Valuesn o_Valuesc]] w R :=
  calls_of_wpc callOk mixedOk (H := weirlaw1_plays_H) (args := [.agg #[.int .i64 o_Kind, .slice o_BA o_Bn o_Bc, .int .i64 o_At, .int .i64 o_N, .slice o_WidthsA o_Widthsn o_Widthsc, .slice o_ValuesA o_Valuesn o_Valuesc]]) (fn := Try.f66) (c := bodyOf Try.f66) Try.func66 rfl (Nat.le_of_ble_eq_true rfl)
    (Eq.mp (by kernel_rfl : weirlaw1_plays_VC o_Kind o_BA o_Bn o_Bc o_At o_N o_WidthsA o_Widthsn o_Widthsc o_ValuesA o_Valuesn o_Valuesc w R = wpc Try.prog callF Try.f66.ntmps weirlaw1_plays_H 1 (bodyOf Try.f66) (argEnv 0 [.agg #[.int .i64 o_Kind, .slice o_BA o_Bn o_Bc, .int .i64 o_At, .int .i64 o_N, .slice o_WidthsA o_Widthsn o_Widthsc, .slice o_ValuesA o_Valuesn o_Valuesc]]) [] w (finish Try.prog callF Try.f66.results.toList R)) h)

def weirref1_Uint_L506 (R : Ending → World → Prop) (bA : Option Addr) (bn : Nat) (bc : Nat) (at_ : Int) (n : Int) (v_ : Int) (i : Int) (w2 : World) (K506 : (Int × Int → World → Prop)) : Prop :=
  Br (decide (i < IntKind.i64.wrap (8 * IntKind.i64.wrap (at_ + n))))
    (Calls Try.prog 76 #[.slice bA bn bc, .int .i64 i] w2 (onRet (fun r_1 w3 => ∃ x1 : Int, r_1 = .int .i64 x1 ∧
  K506 (IntKind.u64.wrap (IntKind.u64.wrap (2 * v_) + IntKind.u64.wrap x1), IntKind.i64.wrap (i + 1)) w3)
    (fun ch1 w3 => R (.panicked ch1) w3)))
    (R (.returned (.tuple #[.int .u64 v_, .int .i64 0])) w2)
def weirref1_Uint_VC (bA : Option Addr) (bn : Nat) (bc : Nat) (at_ : Int) (n : Int) (w : World) (R : Ending → World → Prop) : Prop :=
  Br (decide (n < 1))
    (R (.returned (.tuple #[.int .u64 0, .int .i64 1])) w)
    (Br (decide ((8 : Int) < n))
    (R (.returned (.tuple #[.int .u64 0, .int .i64 1])) w)
    (Calls Try.prog 74 #[.slice bA bn bc, .int .i64 at_, .int .i64 n] w (onRet (fun r_ w1 => ∃ x : Bool, r_ = .bool x ∧
  Br (!x)
    (R (.returned (.tuple #[.int .u64 0, .int .i64 10])) w1)
    (LoopVC (S := Int × Int) (fun s w2 K506 => weirref1_Uint_L506 R bA bn bc at_ n s.1 s.2 w2 K506) (0, IntKind.i64.wrap (8 * at_)) w1))
    (fun ch w1 => R (.panicked ch) w1))))
def weirref1_Uint_H : Hints := [(506, [(9, .int .u64), (10, .int .i64)])]
set_option maxRecDepth 100000 in
theorem weirref1_Uint_of (bA : Option Addr) (bn : Nat) (bc : Nat) (at_ : Int) (n : Int) (w : World) (R : Ending → World → Prop) (h : weirref1_Uint_VC bA bn bc at_ n w R) :
    Calls Try.prog 67 #[.slice bA bn bc, .int .i64 at_, .int .i64 n] w R :=
  calls_of_wpc callOk mixedOk (H := weirref1_Uint_H) (args := [.slice bA bn bc, .int .i64 at_, .int .i64 n]) (fn := Try.f67) (c := bodyOf Try.f67) Try.func67 rfl (Nat.le_of_ble_eq_true rfl)
    (Eq.mp (by kernel_rfl : weirref1_Uint_VC bA bn bc at_ n w R = wpc Try.prog callF Try.f67.ntmps weirref1_Uint_H 1 (bodyOf Try.f67) (argEnv 0 [.slice bA bn bc, .int .i64 at_, .int .i64 n]) [] w (finish Try.prog callF Try.f67.results.toList R)) h)

def weirref1_Fields_L522826 (R : Ending → World → Prop) (bA : Option Addr) (bn : Nat) (bc : Nat) (widthsA : Option Addr) (widthsn : Nat) (lA : Option Addr) (ln : Nat) (lc : Nat) (i : Int) (K2042 : ((Option Addr × Nat × Nat) × Int × Int → World → Prop)) (p1 : Int) (v_ : Int) (k : Int) (w4 : World) (K522826 : (Int × Int × Int → World → Prop)) : Prop :=
  IdxVC widthsA widthsn 1 i fun a =>
  ∃ x2 : Int, w4.cell? a = some (.int .i64 x2) ∧
  Br (decide (k < x2))
    (Calls Try.prog 76 #[.slice bA bn bc, .int .i64 p1] w4 (onRet (fun r_2 w5 => ∃ x3 : Int, r_2 = .int .i64 x3 ∧
  K522826 (IntKind.i64.wrap (p1 + 1), IntKind.i64.wrap (IntKind.i64.wrap (2 * v_) + x3), IntKind.i64.wrap (k + 1)) w5)
    (fun ch2 w5 => R (.panicked ch2) w5)))
    (NewVC w4 (.cells #[.int .i64 v_] 3) fun g1 w6 =>
  AppVC Try.prog #[55, 55] 55 (.slice lA ln lc) (.slice (some ⟨g1, 0, none⟩) 1 1) w6 fun lA1 ln1 lc1 w7 =>
  K2042 ((lA1, ln1, lc1), p1, IntKind.i64.wrap (i + 1)) w7)
def weirref1_Fields_L2042 (R : Ending → World → Prop) (bA : Option Addr) (bn : Nat) (bc : Nat) (at_ : Int) (widthsA : Option Addr) (widthsn : Nat) (x : Int) (lA : Option Addr) (ln : Nat) (lc : Nat) (p : Int) (i : Int) (w3 : World) (K2042 : ((Option Addr × Nat × Nat) × Int × Int → World → Prop)) : Prop :=
  Br (decide (i < (widthsn : Int)))
    (LoopVC (S := Int × Int × Int) (fun s w4 K522826 => weirref1_Fields_L522826 R bA bn bc widthsA widthsn lA ln lc i K2042 s.1 s.2.1 s.2.2 w4 K522826) (p, 0, 0) w3)
    (R (.returned (.tuple #[.slice lA ln lc, .int .i64 (IntKind.i64.wrap (at_ + IntKind.i64.wrap (Int.tdiv x 8))), .int .i64 0])) w3)
def weirref1_Fields_VC (bA : Option Addr) (bn : Nat) (bc : Nat) (at_ : Int) (widthsA : Option Addr) (widthsn : Nat) (widthsc : Nat) (w : World) (R : Ending → World → Prop) : Prop :=
  Calls Try.prog 77 #[.slice widthsA widthsn widthsc] w (onRet (fun r_ w1 => ∃ x : Int, r_ = .int .i64 x ∧
  Br (decide (x < 0))
    (R (.returned (.tuple #[.slice none 0 0, .int .i64 0, .int .i64 11])) w1)
    (Calls Try.prog 74 #[.slice bA bn bc, .int .i64 at_, .int .i64 (IntKind.i64.wrap (Int.tdiv x 8))] w1 (onRet (fun r_1 w2 => ∃ x1 : Bool, r_1 = .bool x1 ∧
  Br (!x1)
    (R (.returned (.tuple #[.slice none 0 0, .int .i64 0, .int .i64 10])) w2)
    (LoopVC (S := (Option Addr × Nat × Nat) × Int × Int) (fun s w3 K2042 => weirref1_Fields_L2042 R bA bn bc at_ widthsA widthsn x s.1.1 s.1.2.1 s.1.2.2 s.2.1 s.2.2 w3 K2042) ((none, 0, 0), IntKind.i64.wrap (8 * at_), 0) w2))
    (fun ch1 w2 => R (.panicked ch1) w2))))
    (fun ch w1 => R (.panicked ch) w1))
def weirref1_Fields_H : Hints := [(2042, [(11, .slice), (12, .int .i64), (13, .int .i64)]), (522826, [(12, .int .i64), (14, .int .i64), (15, .int .i64)])]
set_option maxRecDepth 100000 in
theorem weirref1_Fields_of (bA : Option Addr) (bn : Nat) (bc : Nat) (at_ : Int) (widthsA : Option Addr) (widthsn : Nat) (widthsc : Nat) (w : World) (R : Ending → World → Prop) (h : weirref1_Fields_VC bA bn bc at_ widthsA widthsn widthsc w R) :
    Calls Try.prog 68 #[.slice bA bn bc, .int .i64 at_, .slice widthsA widthsn widthsc] w R :=
  calls_of_wpc callOk mixedOk (H := weirref1_Fields_H) (args := [.slice bA bn bc, .int .i64 at_, .slice widthsA widthsn widthsc]) (fn := Try.f68) (c := bodyOf Try.f68) Try.func68 rfl (Nat.le_of_ble_eq_true rfl)
    (Eq.mp (by kernel_rfl : weirref1_Fields_VC bA bn bc at_ widthsA widthsn widthsc w R = wpc Try.prog callF Try.f68.ntmps weirref1_Fields_H 1 (bodyOf Try.f68) (argEnv 0 [.slice bA bn bc, .int .i64 at_, .slice widthsA widthsn widthsc]) [] w (finish Try.prog callF Try.f68.results.toList R)) h)

def weirref1_Pack_L64806 (valuesA : Option Addr) (valuesn : Nat) (i : Int) (K506 : ((Option Addr × Nat × Nat) × Int → World → Prop)) (rowA1 : Option Addr) (rown1 : Nat) (rowc1 : Nat) (k : Int) (w5 : World) (K64806 : ((Option Addr × Nat × Nat) × Int → World → Prop)) : Prop :=
  Br (decide ((0 : Int) ≤ k))
    (DrawVC w5 fun S2 w6 =>
  IdxVC valuesA valuesn 1 i fun a4 =>
  ∃ x6 : Int, (∀ w' : World, S2 w' → w'.cell? a4 = some (.int .i64 x6)) ∧
  Calls Try.prog 78 #[.int .i64 k] w6 (onRet (fun r_2 w7 => ∃ x7 : Int, r_2 = .int .i64 x7 ∧
  S2 w7 ∧
  DivVC x7 (
  NewVC w7 (.cells #[.int .i64 (Int.tmod (IntKind.i64.wrap (Int.tdiv x6 x7)) 2)] 3) fun g1 w8 =>
  S2 w8 ∧
  AppVC Try.prog #[55, 55] 55 (.slice rowA1 rown1 rowc1) (.slice (some ⟨g1, 0, none⟩) 1 1) w8 fun lA ln lc w9 =>
  S2 w9 ∧
  K64806 ((lA, ln, lc), IntKind.i64.wrap (k - 1)) w9))
    (fun _ _ => False)))
    (K506 ((rowA1, rown1, rowc1), IntKind.i64.wrap (i + 1)) w5)
def weirref1_Pack_L522826 (rowA : Option Addr) (rown : Nat) (lA1 : Option Addr) (ln1 : Nat) (lc1 : Nat) (i1 : Int) (K2042 : ((Option Addr × Nat × Nat) × Int → World → Prop)) (c : Int) (k1 : Int) (w11 : World) (K522826 : (Int × Int → World → Prop)) : Prop :=
  Br (decide (k1 < IntKind.i64.wrap (i1 + 8)))
    (IdxVC rowA rown 1 k1 fun a5 =>
  ∃ x8 : Int, w11.cell? a5 = some (.int .i64 x8) ∧
  K522826 (IntKind.i64.wrap (IntKind.i64.wrap (2 * c) + x8), IntKind.i64.wrap (k1 + 1)) w11)
    (NewVC w11 (.cells #[.int .u8 (IntKind.u8.wrap c)] 5) fun g2 w12 =>
  AppVC Try.prog #[22, 22] 22 (.slice lA1 ln1 lc1) (.slice (some ⟨g2, 0, none⟩) 1 1) w12 fun lA2 ln2 lc2 w13 =>
  K2042 ((lA2, ln2, lc2), IntKind.i64.wrap (i1 + 8)) w13)
def weirref1_Pack_L2042 (R : Ending → World → Prop) (x : Int) (rowA : Option Addr) (rown : Nat) (lA1 : Option Addr) (ln1 : Nat) (lc1 : Nat) (i1 : Int) (w10 : World) (K2042 : ((Option Addr × Nat × Nat) × Int → World → Prop)) : Prop :=
  Br (decide (i1 < x))
    (LoopVC (S := Int × Int) (fun s w11 K522826 => weirref1_Pack_L522826 rowA rown lA1 ln1 lc1 i1 K2042 s.1 s.2 w11 K522826) (0, i1) w10)
    (R (.returned (.tuple #[.slice lA1 ln1 lc1, .int .i64 0])) w10)
def weirref1_Pack_L506 (R : Ending → World → Prop) (widthsA : Option Addr) (widthsn : Nat) (valuesA : Option Addr) (valuesn : Nat) (x : Int) (rowA : Option Addr) (rown : Nat) (rowc : Nat) (i : Int) (w2 : World) (K506 : ((Option Addr × Nat × Nat) × Int → World → Prop)) : Prop :=
  Br (decide (i < (widthsn : Int)))
    (DrawVC w2 fun S1 w3 =>
  IdxVC valuesA valuesn 1 i fun a =>
  ∃ x1 : Int, (∀ w' : World, S1 w' → w'.cell? a = some (.int .i64 x1)) ∧
  Br (decide (x1 < 0))
    (R (.returned (.tuple #[.slice none 0 0, .int .i64 12])) w3)
    (IdxVC valuesA valuesn 1 i fun a1 =>
    ∃ x2 : Int, (∀ w' : World, S1 w' → w'.cell? a1 = some (.int .i64 x2)) ∧
    IdxVC widthsA widthsn 1 i fun a2 =>
    ∃ x3 : Int, (∀ w' : World, S1 w' → w'.cell? a2 = some (.int .i64 x3)) ∧
    Calls Try.prog 78 #[.int .i64 x3] w3 (onRet (fun r_1 w4 => ∃ x4 : Int, r_1 = .int .i64 x4 ∧
    S1 w4 ∧
    Br (decide (x4 ≤ x2))
    (R (.returned (.tuple #[.slice none 0 0, .int .i64 12])) w4)
    (IdxVC widthsA widthsn 1 i fun a3 =>
  ∃ x5 : Int, w4.cell? a3 = some (.int .i64 x5) ∧
  LoopVC (S := (Option Addr × Nat × Nat) × Int) (fun s w5 K64806 => weirref1_Pack_L64806 valuesA valuesn i K506 s.1.1 s.1.2.1 s.1.2.2 s.2 w5 K64806) ((rowA, rown, rowc), IntKind.i64.wrap (x5 - 1)) w4))
      (fun _ _ => False))))
    (LoopVC (S := (Option Addr × Nat × Nat) × Int) (fun s w10 K2042 => weirref1_Pack_L2042 R x rowA rown s.1.1 s.1.2.1 s.1.2.2 s.2 w10 K2042) ((none, 0, 0), 0) w2)
def weirref1_Pack_VC (widthsA : Option Addr) (widthsn : Nat) (widthsc : Nat) (valuesA : Option Addr) (valuesn : Nat) (_valuesc : Nat) (w : World) (R : Ending → World → Prop) : Prop :=
  Calls Try.prog 77 #[.slice widthsA widthsn widthsc] w (onRet (fun r_ w1 => ∃ x : Int, r_ = .int .i64 x ∧
  Br (decide (x < 0))
    (R (.returned (.tuple #[.slice none 0 0, .int .i64 11])) w1)
    (Br (decide ((widthsn : Int) ≠ (valuesn : Int)))
    (R (.returned (.tuple #[.slice none 0 0, .int .i64 1])) w1)
    (LoopVC (S := (Option Addr × Nat × Nat) × Int) (fun s w2 K506 => weirref1_Pack_L506 R widthsA widthsn valuesA valuesn x s.1.1 s.1.2.1 s.1.2.2 s.2 w2 K506) ((none, 0, 0), 0) w1)))
    (fun ch w1 => R (.panicked ch) w1))
def weirref1_Pack_H : Hints := [(506, [(7, .slice), (8, .int .i64)]), (64806, [(7, .slice), (9, .int .i64)]), (2042, [(10, .slice), (11, .int .i64)]), (522826, [(12, .int .i64), (13, .int .i64)])]
set_option maxRecDepth 100000 in
theorem weirref1_Pack_of (widthsA : Option Addr) (widthsn : Nat) (widthsc : Nat) (valuesA : Option Addr) (valuesn : Nat) (valuesc : Nat) (w : World) (R : Ending → World → Prop) (h : weirref1_Pack_VC widthsA widthsn widthsc valuesA valuesn valuesc w R) :
    Calls Try.prog 69 #[.slice widthsA widthsn widthsc, .slice valuesA valuesn valuesc] w R :=
  calls_of_wpc callOk mixedOk (H := weirref1_Pack_H) (args := [.slice widthsA widthsn widthsc, .slice valuesA valuesn valuesc]) (fn := Try.f69) (c := bodyOf Try.f69) Try.func69 rfl (Nat.le_of_ble_eq_true rfl)
    (Eq.mp (by kernel_rfl : weirref1_Pack_VC widthsA widthsn widthsc valuesA valuesn valuesc w R = wpc Try.prog callF Try.f69.ntmps weirref1_Pack_H 1 (bodyOf Try.f69) (argEnv 0 [.slice widthsA widthsn widthsc, .slice valuesA valuesn valuesc]) [] w (finish Try.prog callF Try.f69.results.toList R)) h)

def weirref1_Window_VC (bA : Option Addr) (bn : Nat) (bc : Nat) (at_ : Int) (n : Int) (w : World) (R : Ending → World → Prop) : Prop :=
  Br (decide (n < 0))
    (R (.returned (.tuple #[.slice none 0 0, .int .i64 1])) w)
    (Calls Try.prog 74 #[.slice bA bn bc, .int .i64 at_, .int .i64 n] w (onRet (fun r_ w1 => ∃ x : Bool, r_ = .bool x ∧
  Br (!x)
    (R (.returned (.tuple #[.slice none 0 0, .int .i64 10])) w1)
    (Calls Try.prog 79 #[.slice bA bn bc, .int .i64 at_, .int .i64 (IntKind.i64.wrap (at_ + n))] w1 (onRet (fun r_1 w2 => ∃ (xA : Option Addr) (xn xc : Nat), r_1 = .slice xA xn xc ∧
  R (.returned (.tuple #[.slice xA xn xc, .int .i64 0])) w2)
    (fun ch1 w2 => R (.panicked ch1) w2))))
    (fun ch w1 => R (.panicked ch) w1)))
def weirref1_Window_H : Hints := []
set_option maxRecDepth 100000 in
theorem weirref1_Window_of (bA : Option Addr) (bn : Nat) (bc : Nat) (at_ : Int) (n : Int) (w : World) (R : Ending → World → Prop) (h : weirref1_Window_VC bA bn bc at_ n w R) :
    Calls Try.prog 70 #[.slice bA bn bc, .int .i64 at_, .int .i64 n] w R :=
  calls_of_wpc callOk mixedOk (H := weirref1_Window_H) (args := [.slice bA bn bc, .int .i64 at_, .int .i64 n]) (fn := Try.f70) (c := bodyOf Try.f70) Try.func70 rfl (Nat.le_of_ble_eq_true rfl)
    (Eq.mp (by kernel_rfl : weirref1_Window_VC bA bn bc at_ n w R = wpc Try.prog callF Try.f70.ntmps weirref1_Window_H 1 (bodyOf Try.f70) (argEnv 0 [.slice bA bn bc, .int .i64 at_, .int .i64 n]) [] w (finish Try.prog callF Try.f70.results.toList R)) h)

def weirlaw1_tail_L28 (R : Ending → World → Prop) (i : Int) (n : Int) (lA : Option Addr) (ln : Nat) (lc : Nat) (w1 : World) (K28 : ((Option Addr × Nat × Nat) → World → Prop)) : Prop :=
  Br (decide ((ln : Int) < n))
    (NewVC w1 (.cells #[.int .u8 (IntKind.u8.wrap (IntKind.i64.wrap (251 + Int.tmod i 5)))] 5) fun g1 w2 =>
  AppVC Try.prog #[22, 22] 22 (.slice lA ln lc) (.slice (some ⟨g1, 0, none⟩) 1 1) w2 fun lA1 ln1 lc1 w3 =>
  K28 (lA1, ln1, lc1) w3)
    (R (.returned (.slice lA ln lc)) w1)
def weirlaw1_tail_VC (i : Int) (n : Int) (w : World) (R : Ending → World → Prop) : Prop :=
  LoopVC (S := (Option Addr × Nat × Nat)) (fun s w1 K28 => weirlaw1_tail_L28 R i n s.1 s.2.1 s.2.2 w1 K28) (none, 0, 0) w
def weirlaw1_tail_H : Hints := [(28, [(5, .slice)])]
set_option maxRecDepth 100000 in
theorem weirlaw1_tail_of (i : Int) (n : Int) (w : World) (R : Ending → World → Prop) (h : weirlaw1_tail_VC i n w R) :
    Calls Try.prog 71 #[.int .i64 i, .int .i64 n] w R :=
  calls_of_wpc callOk mixedOk (H := weirlaw1_tail_H) (args := [.int .i64 i, .int .i64 n]) (fn := Try.f71) (c := bodyOf Try.f71) Try.func71 rfl (Nat.le_of_ble_eq_true rfl)
    (Eq.mp (by kernel_rfl : weirlaw1_tail_VC i n w R = wpc Try.prog callF Try.f71.ntmps weirlaw1_tail_H 1 (bodyOf Try.f71) (argEnv 0 [.int .i64 i, .int .i64 n]) [] w (finish Try.prog callF Try.f71.results.toList R)) h)

def weirref1_Bytes_L250 (R : Ending → World → Prop) (n : Int) (lA : Option Addr) (ln : Nat) (lc : Nat) (i1 : Int) (w4 : World) (K250 : (Int → World → Prop)) : Prop :=
  Br (decide (i1 < IntKind.i64.wrap (8 - n)))
    (IdxVC lA ln 1 i1 fun a =>
  ∃ x : Int, w4.cell? a = some (.int .u8 x) ∧
  Br (decide (x ≠ 0))
    (R (.returned (.tuple #[.slice none 0 0, .int .i64 12])) w4)
    (K250 (IntKind.i64.wrap (i1 + 1)) w4))
    (SliceVC lA ln lc 1 (some (IntKind.i64.wrap (8 - n))) none none fun sA sn sc =>
  R (.returned (.tuple #[.slice sA sn sc, .int .i64 0])) w4)
def weirref1_Bytes_L122 (R : Ending → World → Prop) (n : Int) (v_1 : Int) (lA : Option Addr) (ln : Nat) (lc : Nat) (i : Int) (w1 : World) (K122 : (Int × (Option Addr × Nat × Nat) × Int → World → Prop)) : Prop :=
  Br (decide (i < 8))
    (NewVC w1 (.cells #[.int .u8 (IntKind.u8.wrap (IntKind.u64.wrap (Int.tdiv (IntKind.u64.wrap (Int.tdiv (IntKind.u64.wrap (Int.tdiv (IntKind.u64.wrap (Int.tdiv (IntKind.u64.wrap (Int.tdiv (IntKind.u64.wrap (Int.tdiv (IntKind.u64.wrap (Int.tdiv v_1 256)) 256)) 256)) 256)) 256)) 256)) 256)))] 5) fun g1 w2 =>
  AppVC Try.prog #[22, 22] 22 (.slice lA ln lc) (.slice (some ⟨g1, 0, none⟩) 1 1) w2 fun lA1 ln1 lc1 w3 =>
  K122 (IntKind.u64.wrap (v_1 * 256), (lA1, ln1, lc1), IntKind.i64.wrap (i + 1)) w3)
    (LoopVC (S := Int) (fun s w4 K250 => weirref1_Bytes_L250 R n lA ln lc s w4 K250) 0 w1)
def weirref1_Bytes_VC (n : Int) (v_ : Int) (w : World) (R : Ending → World → Prop) : Prop :=
  Br (decide (n < 1))
    (R (.returned (.tuple #[.slice none 0 0, .int .i64 1])) w)
    (Br (decide ((8 : Int) < n))
    (R (.returned (.tuple #[.slice none 0 0, .int .i64 1])) w)
    (LoopVC (S := Int × (Option Addr × Nat × Nat) × Int) (fun s w1 K122 => weirref1_Bytes_L122 R n s.1 s.2.1.1 s.2.1.2.1 s.2.1.2.2 s.2.2 w1 K122) (v_, (none, 0, 0), 0) w))
def weirref1_Bytes_H : Hints := [(122, [(1, .int .u64), (6, .slice), (7, .int .i64)]), (250, [(8, .int .i64)])]
set_option maxRecDepth 100000 in
theorem weirref1_Bytes_of (n : Int) (v_ : Int) (w : World) (R : Ending → World → Prop) (h : weirref1_Bytes_VC n v_ w R) :
    Calls Try.prog 72 #[.int .i64 n, .int .u64 v_] w R :=
  calls_of_wpc callOk mixedOk (H := weirref1_Bytes_H) (args := [.int .i64 n, .int .u64 v_]) (fn := Try.f72) (c := bodyOf Try.f72) Try.func72 rfl (Nat.le_of_ble_eq_true rfl)
    (Eq.mp (by kernel_rfl : weirref1_Bytes_VC n v_ w R = wpc Try.prog callF Try.f72.ntmps weirref1_Bytes_H 1 (bodyOf Try.f72) (argEnv 0 [.int .i64 n, .int .u64 v_]) [] w (finish Try.prog callF Try.f72.results.toList R)) h)

def weirref1_There_VC (_bA : Option Addr) (bn : Nat) (_bc : Nat) (at_ : Int) (n : Int) (w : World) (R : Ending → World → Prop) : Prop :=
  Br (decide ((0 : Int) ≤ at_))
    (Br (decide (at_ ≤ (bn : Int)))
      (R (.returned (.bool (decide (n ≤ IntKind.i64.wrap ((bn : Int) - at_))))) w)
      (R (.returned (.bool false)) w))
    (R (.returned (.bool false)) w)
def weirref1_There_H : Hints := []
set_option maxRecDepth 100000 in
theorem weirref1_There_of (bA : Option Addr) (bn : Nat) (bc : Nat) (at_ : Int) (n : Int) (w : World) (R : Ending → World → Prop) (h : weirref1_There_VC bA bn bc at_ n w R) :
    Calls Try.prog 74 #[.slice bA bn bc, .int .i64 at_, .int .i64 n] w R :=
  calls_of_wpc callOk mixedOk (H := weirref1_There_H) (args := [.slice bA bn bc, .int .i64 at_, .int .i64 n]) (fn := Try.f74) (c := bodyOf Try.f74) Try.func74 rfl (Nat.le_of_ble_eq_true rfl)
    (Eq.mp (by kernel_rfl : weirref1_There_VC bA bn bc at_ n w R = wpc Try.prog callF Try.f74.ntmps weirref1_There_H 1 (bodyOf Try.f74) (argEnv 0 [.slice bA bn bc, .int .i64 at_, .int .i64 n]) [] w (finish Try.prog callF Try.f74.results.toList R)) h)

def weirlaw1_roomyInts_L122 (R : Ending → World → Prop)  (wA : Option Addr) (wn : Nat) (wc : Nat) (i : Int) (w2 : World) (K122 : ((Option Addr × Nat × Nat) × Int → World → Prop)) : Prop :=
  Br (decide (i < 70))
    (NewVC w2 (.cells #[.int .i64 (IntKind.i64.wrap ((-201) - i))] 3) fun g1 w3 =>
  AppVC Try.prog #[55, 55] 55 (.slice wA wn wc) (.slice (some ⟨g1, 0, none⟩) 1 1) w3 fun lA2 ln2 lc2 w4 =>
  K122 ((lA2, ln2, lc2), IntKind.i64.wrap (i + 1)) w4)
    (R (.returned (.slice wA wn wc)) w2)
def weirlaw1_roomyInts_VC (lA : Option Addr) (ln : Nat) (lc : Nat) (w : World) (R : Ending → World → Prop) : Prop :=
  AppVC Try.prog #[55, 55] 55 (.slice none 0 0) (.slice lA ln lc) w fun lA1 ln1 lc1 w1 =>
  LoopVC (S := (Option Addr × Nat × Nat) × Int) (fun s w2 K122 => weirlaw1_roomyInts_L122 R s.1.1 s.1.2.1 s.1.2.2 s.2 w2 K122) ((lA1, ln1, lc1), 0) w1
def weirlaw1_roomyInts_H : Hints := [(122, [(3, .slice), (4, .int .i64)])]
set_option maxRecDepth 100000 in
theorem weirlaw1_roomyInts_of (lA : Option Addr) (ln : Nat) (lc : Nat) (w : World) (R : Ending → World → Prop) (h : weirlaw1_roomyInts_VC lA ln lc w R) :
    Calls Try.prog 75 #[.slice lA ln lc] w R :=
  calls_of_wpc callOk mixedOk (H := weirlaw1_roomyInts_H) (args := [.slice lA ln lc]) (fn := Try.f75) (c := bodyOf Try.f75) Try.func75 rfl (Nat.le_of_ble_eq_true rfl)
    (Eq.mp (by kernel_rfl : weirlaw1_roomyInts_VC lA ln lc w R = wpc Try.prog callF Try.f75.ntmps weirlaw1_roomyInts_H 1 (bodyOf Try.f75) (argEnv 0 [.slice lA ln lc]) [] w (finish Try.prog callF Try.f75.results.toList R)) h)

def weirref1_bit_L58 (R : Ending → World → Prop)  (c : Int) (k : Int) (w1 : World) (K58 : (Int × Int → World → Prop)) : Prop :=
  Br (decide (k < 7))
    (K58 (IntKind.i64.wrap (Int.tdiv c 2), IntKind.i64.wrap (k + 1)) w1)
    (R (.returned (.int .i64 (Int.tmod c 2))) w1)
def weirref1_bit_VC (bA : Option Addr) (bn : Nat) (_bc : Nat) (i : Int) (w : World) (R : Ending → World → Prop) : Prop :=
  IdxVC bA bn 1 (IntKind.i64.wrap (Int.tdiv i 8)) fun a =>
  ∃ x : Int, w.cell? a = some (.int .u8 x) ∧
  LoopVC (S := Int × Int) (fun s w1 K58 => weirref1_bit_L58 R s.1 s.2 w1 K58) (IntKind.i64.wrap x, Int.tmod i 8) w
def weirref1_bit_H : Hints := [(58, [(5, .int .i64), (6, .int .i64)])]
set_option maxRecDepth 100000 in
theorem weirref1_bit_of (bA : Option Addr) (bn : Nat) (bc : Nat) (i : Int) (w : World) (R : Ending → World → Prop) (h : weirref1_bit_VC bA bn bc i w R) :
    Calls Try.prog 76 #[.slice bA bn bc, .int .i64 i] w R :=
  calls_of_wpc callOk mixedOk (H := weirref1_bit_H) (args := [.slice bA bn bc, .int .i64 i]) (fn := Try.f76) (c := bodyOf Try.f76) Try.func76 rfl (Nat.le_of_ble_eq_true rfl)
    (Eq.mp (by kernel_rfl : weirref1_bit_VC bA bn bc i w R = wpc Try.prog callF Try.f76.ntmps weirref1_bit_H 1 (bodyOf Try.f76) (argEnv 0 [.slice bA bn bc, .int .i64 i]) [] w (finish Try.prog callF Try.f76.results.toList R)) h)

def weirref1_bits_L122 (R : Ending → World → Prop) (widthsA : Option Addr) (widthsn : Nat) (n : Int) (i : Int) (w1 : World) (K122 : (Int × Int → World → Prop)) : Prop :=
  Br (decide (i < (widthsn : Int)))
    (IdxVC widthsA widthsn 1 i fun a =>
  ∃ x : Int, w1.cell? a = some (.int .i64 x) ∧
  Br (decide (x < 1))
    (R (.returned (.int .i64 (-1))) w1)
    (IdxVC widthsA widthsn 1 i fun a1 =>
    ∃ x1 : Int, w1.cell? a1 = some (.int .i64 x1) ∧
    Br (decide ((32 : Int) < x1))
    (R (.returned (.int .i64 (-1))) w1)
    (IdxVC widthsA widthsn 1 i fun a2 =>
  ∃ x2 : Int, w1.cell? a2 = some (.int .i64 x2) ∧
  K122 (IntKind.i64.wrap (n + x2), IntKind.i64.wrap (i + 1)) w1)))
    (Br (decide (Int.tmod n 8 ≠ 0))
    (R (.returned (.int .i64 (-1))) w1)
    (R (.returned (.int .i64 n)) w1))
def weirref1_bits_VC (widthsA : Option Addr) (widthsn : Nat) (_widthsc : Nat) (w : World) (R : Ending → World → Prop) : Prop :=
  Br (decide ((64 : Int) < (widthsn : Int)))
    (R (.returned (.int .i64 (-1))) w)
    (LoopVC (S := Int × Int) (fun s w1 K122 => weirref1_bits_L122 R widthsA widthsn s.1 s.2 w1 K122) (0, 0) w)
def weirref1_bits_H : Hints := [(122, [(3, .int .i64), (4, .int .i64)])]
set_option maxRecDepth 100000 in
theorem weirref1_bits_of (widthsA : Option Addr) (widthsn : Nat) (widthsc : Nat) (w : World) (R : Ending → World → Prop) (h : weirref1_bits_VC widthsA widthsn widthsc w R) :
    Calls Try.prog 77 #[.slice widthsA widthsn widthsc] w R :=
  calls_of_wpc callOk mixedOk (H := weirref1_bits_H) (args := [.slice widthsA widthsn widthsc]) (fn := Try.f77) (c := bodyOf Try.f77) Try.func77 rfl (Nat.le_of_ble_eq_true rfl)
    (Eq.mp (by kernel_rfl : weirref1_bits_VC widthsA widthsn widthsc w R = wpc Try.prog callF Try.f77.ntmps weirref1_bits_H 1 (bodyOf Try.f77) (argEnv 0 [.slice widthsA widthsn widthsc]) [] w (finish Try.prog callF Try.f77.results.toList R)) h)

def weirref1_power_L58 (R : Ending → World → Prop) (n : Int) (p : Int) (i : Int) (w1 : World) (K58 : (Int × Int → World → Prop)) : Prop :=
  Br (decide (i < n))
    (K58 (IntKind.i64.wrap (2 * p), IntKind.i64.wrap (i + 1)) w1)
    (R (.returned (.int .i64 p)) w1)
def weirref1_power_VC (n : Int) (w : World) (R : Ending → World → Prop) : Prop :=
  LoopVC (S := Int × Int) (fun s w1 K58 => weirref1_power_L58 R n s.1 s.2 w1 K58) (1, 0) w
def weirref1_power_H : Hints := [(58, [(3, .int .i64), (4, .int .i64)])]
set_option maxRecDepth 100000 in
theorem weirref1_power_of (n : Int) (w : World) (R : Ending → World → Prop) (h : weirref1_power_VC n w R) :
    Calls Try.prog 78 #[.int .i64 n] w R :=
  calls_of_wpc callOk mixedOk (H := weirref1_power_H) (args := [.int .i64 n]) (fn := Try.f78) (c := bodyOf Try.f78) Try.func78 rfl (Nat.le_of_ble_eq_true rfl)
    (Eq.mp (by kernel_rfl : weirref1_power_VC n w R = wpc Try.prog callF Try.f78.ntmps weirref1_power_H 1 (bodyOf Try.f78) (argEnv 0 [.int .i64 n]) [] w (finish Try.prog callF Try.f78.results.toList R)) h)

def weirref1_Part_L58 (R : Ending → World → Prop) (bA : Option Addr) (bn : Nat) (hi : Int) (lA : Option Addr) (ln : Nat) (lc : Nat) (i : Int) (w1 : World) (K58 : ((Option Addr × Nat × Nat) × Int → World → Prop)) : Prop :=
  Br (decide (i < hi))
    (IdxVC bA bn 1 i fun a =>
  ∃ x : Int, w1.cell? a = some (.int .u8 x) ∧
  NewVC w1 (.cells #[.int .u8 x] 5) fun g1 w2 =>
  AppVC Try.prog #[22, 22] 22 (.slice lA ln lc) (.slice (some ⟨g1, 0, none⟩) 1 1) w2 fun lA1 ln1 lc1 w3 =>
  K58 ((lA1, ln1, lc1), IntKind.i64.wrap (i + 1)) w3)
    (R (.returned (.slice lA ln lc)) w1)
def weirref1_Part_VC (bA : Option Addr) (bn : Nat) (_bc : Nat) (lo : Int) (hi : Int) (w : World) (R : Ending → World → Prop) : Prop :=
  LoopVC (S := (Option Addr × Nat × Nat) × Int) (fun s w1 K58 => weirref1_Part_L58 R bA bn hi s.1.1 s.1.2.1 s.1.2.2 s.2 w1 K58) ((none, 0, 0), lo) w
def weirref1_Part_H : Hints := [(58, [(7, .slice), (8, .int .i64)])]
set_option maxRecDepth 100000 in
theorem weirref1_Part_of (bA : Option Addr) (bn : Nat) (bc : Nat) (lo : Int) (hi : Int) (w : World) (R : Ending → World → Prop) (h : weirref1_Part_VC bA bn bc lo hi w R) :
    Calls Try.prog 79 #[.slice bA bn bc, .int .i64 lo, .int .i64 hi] w R :=
  calls_of_wpc callOk mixedOk (H := weirref1_Part_H) (args := [.slice bA bn bc, .int .i64 lo, .int .i64 hi]) (fn := Try.f79) (c := bodyOf Try.f79) Try.func79 rfl (Nat.le_of_ble_eq_true rfl)
    (Eq.mp (by kernel_rfl : weirref1_Part_VC bA bn bc lo hi w R = wpc Try.prog callF Try.f79.ntmps weirref1_Part_H 1 (bodyOf Try.f79) (argEnv 0 [.slice bA bn bc, .int .i64 lo, .int .i64 hi]) [] w (finish Try.prog callF Try.f79.results.toList R)) h)
end Go.Proofs.Ytdchpilghgnnoaa
