/- WRITTEN BY a program of this session (vc.py): for each Go function the condition that is enough for its contract, and the theorem that it is. -/
import Derived.Test.YtkiogaglmjeplaaDoorProg
import Derived.Test.YtkiogaglmjeplaaDoorBq
import Derived.Test.YtkiogaglmjeplaaDoorBt
import Derived.Test.YtkiogaglmjeplaaDoorBe
import Derived.Test.YtkiogaglmjeplaaDoorDk
import Derived.Test.YtkiogaglmjeplaaDoorBi
import Derived.Test.YtkiogaglmjeplaaDoorBu
import Derived.Test.YtkiogaglmjeplaaDoorBv
import Derived.Test.YtkiogaglmjeplaaDoorBp
namespace Go.Proofs.YtkiogaglmjeplaaDoor
open Go.Eng
namespace N6

set_option maxRecDepth 100000 in
def weirlaw7_gathered_L3730 (lA : Option Addr) (ln : Nat) (i : Int) (K58 : ((Option Addr × Nat × Nat) × Int → World → Prop)) (outA1 : Option Addr) (outn1 : Nat) (outc1 : Nat) (k : Int) (w2 : World) (K3730 : ((Option Addr × Nat × Nat) × Int → World → Prop)) : Prop :=
  IdxVC lA ln 3 i fun a =>
  ∃ (xA : Option Addr) (xn xc : Nat), w2.cell? (a.add 1) = some (.slice xA xn xc) ∧
  Br (decide (k < (xn : Int)))
    (IdxVC lA ln 3 i fun a1 =>
  ∃ (xA1 : Option Addr) (xn1 xc1 : Nat), w2.cell? (a1.add 1) = some (.slice xA1 xn1 xc1) ∧
  IdxVC xA1 xn1 2 k fun a2 =>
  ∃ x : Int, w2.cell? a2 = some (.int .i64 x) ∧
  Br (decide (x = 0))
    (IdxVC lA ln 3 i fun a3 =>
    ∃ (xA2 : Option Addr) (xn2 xc2 : Nat), w2.cell? (a3.add 1) = some (.slice xA2 xn2 xc2) ∧
    IdxVC xA2 xn2 2 k fun a4 =>
    ∃ (xA3 : Option Addr) (xn3 xc3 : Nat), w2.cell? (a4.add 1) = some (.slice xA3 xn3 xc3) ∧
    NewVC w2 (.cells #[.slice xA3 xn3 xc3] 22) fun g1 w3 =>
    AppVC Tryd.prog #[60, 60] 60 (.slice outA1 outn1 outc1) (.slice (some ⟨g1, 0, none⟩) 1 1) w3 fun lA1 ln1 lc1 w4 =>
    K3730 ((lA1, ln1, lc1), IntKind.i64.wrap (k + 1)) w4)
    (K3730 ((outA1, outn1, outc1), IntKind.i64.wrap (k + 1)) w2))
    (K58 ((outA1, outn1, outc1), IntKind.i64.wrap (i + 1)) w2)
set_option maxRecDepth 100000 in
def weirlaw7_gathered_L58 (R : Ending → World → Prop) (lA : Option Addr) (ln : Nat) (outA : Option Addr) (outn : Nat) (outc : Nat) (i : Int) (w1 : World) (K58 : ((Option Addr × Nat × Nat) × Int → World → Prop)) : Prop :=
  Br (decide (i < (ln : Int)))
    (LoopVC (S := (Option Addr × Nat × Nat) × Int) (fun s_ w2 K3730 => weirlaw7_gathered_L3730 lA ln i K58 s_.1.1 s_.1.2.1 s_.1.2.2 s_.2 w2 K3730) ((outA, outn, outc), 0) w1)
    (R (.returned (.slice outA outn outc)) w1)
set_option maxRecDepth 100000 in
def weirlaw7_gathered_VC (lA : Option Addr) (ln : Nat) (_lc : Nat) (w : World) (R : Ending → World → Prop) : Prop :=
  LoopVC (S := (Option Addr × Nat × Nat) × Int) (fun s_ w1 K58 => weirlaw7_gathered_L58 R lA ln s_.1.1 s_.1.2.1 s_.1.2.2 s_.2 w1 K58) ((none, 0, 0), 0) w
def weirlaw7_gathered_H : Hints := [(58, [(3, .slice), (4, .int .i64)]), (3730, [(3, .slice), (5, .int .i64)])]
set_option maxRecDepth 100000 in
theorem weirlaw7_gathered_of (lA : Option Addr) (ln : Nat) (lc : Nat) (w : World) (R : Ending → World → Prop) (hvc_ : weirlaw7_gathered_VC lA ln lc w R) :
    Calls Tryd.prog 29 #[.slice lA ln lc] w R :=
  calls_of_wpc callOk mixedOk (H := weirlaw7_gathered_H) (args := [.slice lA ln lc]) (fn := Tryd.f29) (c := bodyOf Tryd.f29) Tryd.func29 rfl (Nat.le_of_ble_eq_true rfl)
    (Eq.mp (by kernel_rfl : weirlaw7_gathered_VC lA ln lc w R = wpc Tryd.prog callF Tryd.f29.ntmps weirlaw7_gathered_H 1 (bodyOf Tryd.f29) (argEnv 0 [.slice lA ln lc]) [] w (finish Tryd.prog callF Tryd.f29.results.toList R)) hvc_)

set_option maxRecDepth 100000 in
def weirlaw7_tail_L28 (R : Ending → World → Prop) (i : Int) (n : Int) (lA : Option Addr) (ln : Nat) (lc : Nat) (w1 : World) (K28 : ((Option Addr × Nat × Nat) → World → Prop)) : Prop :=
  Br (decide ((ln : Int) < n))
    (NewVC w1 (.cells #[.int .u8 (IntKind.u8.wrap (IntKind.i64.wrap (251 + Int.tmod i 5)))] 5) fun g1 w2 =>
  AppVC Tryd.prog #[22, 22] 22 (.slice lA ln lc) (.slice (some ⟨g1, 0, none⟩) 1 1) w2 fun lA1 ln1 lc1 w3 =>
  K28 (lA1, ln1, lc1) w3)
    (R (.returned (.slice lA ln lc)) w1)
set_option maxRecDepth 100000 in
def weirlaw7_tail_VC (i : Int) (n : Int) (w : World) (R : Ending → World → Prop) : Prop :=
  LoopVC (S := (Option Addr × Nat × Nat)) (fun s_ w1 K28 => weirlaw7_tail_L28 R i n s_.1 s_.2.1 s_.2.2 w1 K28) (none, 0, 0) w
def weirlaw7_tail_H : Hints := [(28, [(5, .slice)])]
set_option maxRecDepth 100000 in
theorem weirlaw7_tail_of (i : Int) (n : Int) (w : World) (R : Ending → World → Prop) (hvc_ : weirlaw7_tail_VC i n w R) :
    Calls Tryd.prog 58 #[.int .i64 i, .int .i64 n] w R :=
  calls_of_wpc callOk mixedOk (H := weirlaw7_tail_H) (args := [.int .i64 i, .int .i64 n]) (fn := Tryd.f58) (c := bodyOf Tryd.f58) Tryd.func58 rfl (Nat.le_of_ble_eq_true rfl)
    (Eq.mp (by kernel_rfl : weirlaw7_tail_VC i n w R = wpc Tryd.prog callF Tryd.f58.ntmps weirlaw7_tail_H 1 (bodyOf Tryd.f58) (argEnv 0 [.int .i64 i, .int .i64 n]) [] w (finish Tryd.prog callF Tryd.f58.results.toList R)) hvc_)

set_option maxRecDepth 100000 in
def weirlaw7_filled_L1682 (lA : Option Addr) (ln : Nat) (i : Int) (K26 : (Int → World → Prop)) (j : Int) (w2 : World) (K1682 : (Int → World → Prop)) : Prop :=
  IdxVC lA ln 1 i fun a =>
  ∃ (xA : Option Addr) (xn xc : Nat), w2.cell? a = some (.slice xA xn xc) ∧
  Br (decide (j < (xn : Int)))
    (IdxVC lA ln 1 i fun a1 =>
  ∃ (xA1 : Option Addr) (xn1 xc1 : Nat), w2.cell? a1 = some (.slice xA1 xn1 xc1) ∧
  IdxVC xA1 xn1 1 j fun a2 =>
  SetVC w2 a2 (.int .u8 (IntKind.u8.wrap (IntKind.i64.wrap (1 + Int.tmod i 250)))) fun w3 =>
  K1682 (IntKind.i64.wrap (j + 1)) w3)
    (K26 (IntKind.i64.wrap (i + 1)) w2)
set_option maxRecDepth 100000 in
def weirlaw7_filled_L125242 (R : Ending → World → Prop) (moreA : Option Addr) (moren : Nat) (morec : Nat) (i1 : Int) (K122 : ((Option Addr × Nat × Nat) × Int → World → Prop)) (lA1 : Option Addr) (ln1 : Nat) (lc1 : Nat) (lA2 : Option Addr) (ln2 : Nat) (lc2 : Nat) (g3A : Option Addr) (g3n : Nat) (g3c : Nat) (k : Int) (w11 : World) (K125242 : ((Option Addr × Nat × Nat) × Int → World → Prop)) : Prop :=
  Br (decide (k < 70))
    (Calls Tryd.prog 58 #[.int .i64 i1, .int .i64 1] w11 (onRet (fun r_2 w12 => ∃ (xA7 : Option Addr) (xn7 xc7 : Nat), r_2 = .slice xA7 xn7 xc7 ∧
  AppVC Tryd.prog #[22, 22] 22 (.slice g3A g3n g3c) (.slice xA7 xn7 xc7) w12 fun lA3 ln3 lc3 w13 =>
  K125242 ((lA3, ln3, lc3), IntKind.i64.wrap (k + 1)) w13)
    (fun ch2 w12 => R (.panicked ch2) w12)))
    (NewVC w11 (.cells #[.slice lA1 ln1 lc1, .slice lA2 ln2 lc2, .slice g3A g3n g3c] 22) fun g1 w14 =>
  AppVC Tryd.prog #[60, 60] 60 (.slice moreA moren morec) (.slice (some ⟨g1, 0, none⟩) 3 3) w14 fun lA4 ln4 lc4 w15 =>
  K122 ((lA4, ln4, lc4), IntKind.i64.wrap (i1 + 1)) w15)
set_option maxRecDepth 100000 in
def weirlaw7_filled_L122 (R : Ending → World → Prop) (lA : Option Addr) (ln : Nat) (moreA : Option Addr) (moren : Nat) (morec : Nat) (i1 : Int) (w4 : World) (K122 : ((Option Addr × Nat × Nat) × Int → World → Prop)) : Prop :=
  Br (decide (i1 < (ln : Int)))
    (DrawVC w4 fun S1 w5 =>
  IdxVC lA ln 1 i1 fun a3 =>
  ∃ (xA2 : Option Addr) (xn2 xc2 : Nat), (∀ w' : World, S1 w' → w'.cell? a3 = some (.slice xA2 xn2 xc2)) ∧
  Calls Tryd.prog 58 #[.int .i64 i1, .int .i64 1] w5 (onRet (fun r_ w6 => ∃ (xA3 : Option Addr) (xn3 xc3 : Nat), r_ = .slice xA3 xn3 xc3 ∧
  S1 w6 ∧
  AppVC Tryd.prog #[22, 22] 22 (.slice xA2 xn2 xc2) (.slice xA3 xn3 xc3) w6 fun lA1 ln1 lc1 w7 =>
  S1 w7 ∧
  DrawVC w7 fun S2 w8 =>
  IdxVC lA ln 1 i1 fun a4 =>
  ∃ (xA4 : Option Addr) (xn4 xc4 : Nat), (∀ w' : World, S2 w' → w'.cell? a4 = some (.slice xA4 xn4 xc4)) ∧
  Calls Tryd.prog 58 #[.int .i64 i1, .int .i64 2] w8 (onRet (fun r_1 w9 => ∃ (xA5 : Option Addr) (xn5 xc5 : Nat), r_1 = .slice xA5 xn5 xc5 ∧
  S2 w9 ∧
  AppVC Tryd.prog #[22, 22] 22 (.slice xA4 xn4 xc4) (.slice xA5 xn5 xc5) w9 fun lA2 ln2 lc2 w10 =>
  S2 w10 ∧
  IdxVC lA ln 1 i1 fun a5 =>
  ∃ (xA6 : Option Addr) (xn6 xc6 : Nat), w10.cell? a5 = some (.slice xA6 xn6 xc6) ∧
  LoopVC (S := (Option Addr × Nat × Nat) × Int) (fun s_ w11 K125242 => weirlaw7_filled_L125242 R moreA moren morec i1 K122 lA1 ln1 lc1 lA2 ln2 lc2 s_.1.1 s_.1.2.1 s_.1.2.2 s_.2 w11 K125242) ((xA6, xn6, xc6), 0) w10)
    (fun _ _ => False)))
    (fun _ _ => False)))
    (R (.returned (.slice moreA moren morec)) w4)
set_option maxRecDepth 100000 in
def weirlaw7_filled_L26 (R : Ending → World → Prop) (lA : Option Addr) (ln : Nat) (i : Int) (w1 : World) (K26 : (Int → World → Prop)) : Prop :=
  Br (decide (i < (ln : Int)))
    (LoopVC (S := Int) (fun s_ w2 K1682 => weirlaw7_filled_L1682 lA ln i K26 s_ w2 K1682) 0 w1)
    (LoopVC (S := (Option Addr × Nat × Nat) × Int) (fun s_ w4 K122 => weirlaw7_filled_L122 R lA ln s_.1.1 s_.1.2.1 s_.1.2.2 s_.2 w4 K122) ((none, 0, 0), 0) w1)
set_option maxRecDepth 100000 in
def weirlaw7_filled_VC (lA : Option Addr) (ln : Nat) (_lc : Nat) (w : World) (R : Ending → World → Prop) : Prop :=
  LoopVC (S := Int) (fun s_ w1 K26 => weirlaw7_filled_L26 R lA ln s_ w1 K26) 0 w
def weirlaw7_filled_H : Hints := [(26, [(3, .int .i64)]), (1682, [(4, .int .i64)]), (122, [(5, .slice), (6, .int .i64)]), (125242, [(9, .slice), (10, .int .i64)])]
set_option maxRecDepth 100000 in
theorem weirlaw7_filled_of (lA : Option Addr) (ln : Nat) (lc : Nat) (w : World) (R : Ending → World → Prop) (hvc_ : weirlaw7_filled_VC lA ln lc w R) :
    Calls Tryd.prog 30 #[.slice lA ln lc] w R :=
  calls_of_wpc callOk mixedOk (H := weirlaw7_filled_H) (args := [.slice lA ln lc]) (fn := Tryd.f30) (c := bodyOf Tryd.f30) Tryd.func30 rfl (Nat.le_of_ble_eq_true rfl)
    (Eq.mp (by kernel_rfl : weirlaw7_filled_VC lA ln lc w R = wpc Tryd.prog callF Tryd.f30.ntmps weirlaw7_filled_H 1 (bodyOf Tryd.f30) (argEnv 0 [.slice lA ln lc]) [] w (finish Tryd.prog callF Tryd.f30.results.toList R)) hvc_)

set_option maxRecDepth 100000 in
def weirlaw7_stand_J13791817 (R : Ending → World → Prop) (lA : Option Addr) (ln : Nat) (moreA : Option Addr) (moren : Nat) (i : Int) (xn : Nat) (k : Int) (j : Int) (K430994 : (Int → World → Prop)) (m : Int) (w4 : World) : Prop :=
  IdxVC moreA moren 1 k fun a5 =>
  ∃ (xA5 : Option Addr) (xn5 xc5 : Nat), w4.cell? a5 = some (.slice xA5 xn5 xc5) ∧
  IdxVC xA5 xn5 1 j fun a6 =>
  ∃ x : Int, w4.cell? a6 = some (.int .u8 x) ∧
  Br (decide (x ≠ m))
    (R (.returned (.bool false)) w4)
    (Br (decide (j < (xn : Int)))
      (IdxVC lA ln 1 i fun a7 =>
      ∃ (xA6 : Option Addr) (xn6 xc6 : Nat), w4.cell? a7 = some (.slice xA6 xn6 xc6) ∧
      IdxVC xA6 xn6 1 j fun a8 =>
      ∃ x1 : Int, w4.cell? a8 = some (.int .u8 x1) ∧
      Br (decide (x1 ≠ m))
    (R (.returned (.bool false)) w4)
    (K430994 (IntKind.i64.wrap (j + 1)) w4))
      (K430994 (IntKind.i64.wrap (j + 1)) w4))
set_option maxRecDepth 100000 in
def weirlaw7_stand_L430994 (R : Ending → World → Prop) (lA : Option Addr) (ln : Nat) (moreA : Option Addr) (moren : Nat) (i : Int) (xn : Nat) (k : Int) (K6734 : (Int → World → Prop)) (j : Int) (w3 : World) (K430994 : (Int → World → Prop)) : Prop :=
  IdxVC moreA moren 1 k fun a4 =>
  ∃ (xA4 : Option Addr) (xn4 xc4 : Nat), w3.cell? a4 = some (.slice xA4 xn4 xc4) ∧
  Br (decide (j < (xn4 : Int)))
    (JoinVC (S := Int) (fun J13791817 =>
      Br (decide ((xn : Int) ≤ j))
        (J13791817 (IntKind.u8.wrap (IntKind.i64.wrap (251 + Int.tmod i 5))) w3)
        (J13791817 (IntKind.u8.wrap (IntKind.i64.wrap (1 + Int.tmod i 250))) w3))
    (fun s_ w4 => weirlaw7_stand_J13791817 R lA ln moreA moren i xn k j K430994 s_ w4))
    (K6734 (IntKind.i64.wrap (k + 1)) w3)
set_option maxRecDepth 100000 in
def weirlaw7_stand_L6734 (R : Ending → World → Prop) (lA : Option Addr) (ln : Nat) (moreA : Option Addr) (moren : Nat) (i : Int) (K26 : (Int → World → Prop)) (xn : Nat) (k : Int) (w2 : World) (K6734 : (Int → World → Prop)) : Prop :=
  Br (decide (k < IntKind.i64.wrap (IntKind.i64.wrap (3 * i) + 3)))
    (LoopVC (S := Int) (fun s_ w3 K430994 => weirlaw7_stand_L430994 R lA ln moreA moren i xn k K6734 s_ w3 K430994) 0 w2)
    (K26 (IntKind.i64.wrap (i + 1)) w2)
set_option maxRecDepth 100000 in
def weirlaw7_stand_L26 (R : Ending → World → Prop) (lA : Option Addr) (ln : Nat) (moreA : Option Addr) (moren : Nat) (i : Int) (w1 : World) (K26 : (Int → World → Prop)) : Prop :=
  Br (decide (i < (ln : Int)))
    (IdxVC lA ln 1 i fun a =>
  ∃ (xA : Option Addr) (xn xc : Nat), w1.cell? a = some (.slice xA xn xc) ∧
  IdxVC moreA moren 1 (IntKind.i64.wrap (3 * i)) fun a1 =>
  ∃ (xA1 : Option Addr) (xn1 xc1 : Nat), w1.cell? a1 = some (.slice xA1 xn1 xc1) ∧
  Br (decide ((xn1 : Int) ≠ IntKind.i64.wrap ((xn : Int) + 1)))
    (R (.returned (.bool false)) w1)
    (IdxVC moreA moren 1 (IntKind.i64.wrap (IntKind.i64.wrap (3 * i) + 1)) fun a2 =>
    ∃ (xA2 : Option Addr) (xn2 xc2 : Nat), w1.cell? a2 = some (.slice xA2 xn2 xc2) ∧
    Br (decide ((xn2 : Int) ≠ IntKind.i64.wrap ((xn : Int) + 2)))
      (R (.returned (.bool false)) w1)
      (IdxVC moreA moren 1 (IntKind.i64.wrap (IntKind.i64.wrap (3 * i) + 2)) fun a3 =>
      ∃ (xA3 : Option Addr) (xn3 xc3 : Nat), w1.cell? a3 = some (.slice xA3 xn3 xc3) ∧
      Br (decide ((xn3 : Int) ≠ IntKind.i64.wrap ((xn : Int) + 70)))
    (R (.returned (.bool false)) w1)
    (LoopVC (S := Int) (fun s_ w2 K6734 => weirlaw7_stand_L6734 R lA ln moreA moren i K26 xn s_ w2 K6734) (IntKind.i64.wrap (3 * i)) w1))))
    (R (.returned (.bool true)) w1)
set_option maxRecDepth 100000 in
def weirlaw7_stand_VC (lA : Option Addr) (ln : Nat) (_lc : Nat) (moreA : Option Addr) (moren : Nat) (_morec : Nat) (w : World) (R : Ending → World → Prop) : Prop :=
  LoopVC (S := Int) (fun s_ w1 K26 => weirlaw7_stand_L26 R lA ln moreA moren s_ w1 K26) 0 w
def weirlaw7_stand_H : Hints := [(26, [(5, .int .i64)]), (6734, [(7, .int .i64)]), (430994, [(8, .int .i64)]), (13791817, [(9, .int .u8)])]
set_option maxRecDepth 100000 in
theorem weirlaw7_stand_of (lA : Option Addr) (ln : Nat) (lc : Nat) (moreA : Option Addr) (moren : Nat) (morec : Nat) (w : World) (R : Ending → World → Prop) (hvc_ : weirlaw7_stand_VC lA ln lc moreA moren morec w R) :
    Calls Tryd.prog 31 #[.slice lA ln lc, .slice moreA moren morec] w R :=
  calls_of_wpc callOk mixedOk (H := weirlaw7_stand_H) (args := [.slice lA ln lc, .slice moreA moren morec]) (fn := Tryd.f31) (c := bodyOf Tryd.f31) Tryd.func31 rfl (Nat.le_of_ble_eq_true rfl)
    (Eq.mp (by kernel_rfl : weirlaw7_stand_VC lA ln lc moreA moren morec w R = wpc Tryd.prog callF Tryd.f31.ntmps weirlaw7_stand_H 1 (bodyOf Tryd.f31) (argEnv 0 [.slice lA ln lc, .slice moreA moren morec]) [] w (finish Tryd.prog callF Tryd.f31.results.toList R)) hvc_)

set_option maxRecDepth 100000 in
def weirlaw7_Ip6Own_L67108130 (g4 : Nat) (i : Int) (K524282 : (Int → World → Prop)) (k : Int) (w32 : World) (K67108130 : (Int → World → Prop)) : Prop :=
  ∃ (xA5 : Option Addr) (xn5 xc5 : Nat), w32.cell? ⟨g4, 37, none⟩ = some (.slice xA5 xn5 xc5) ∧
  IdxVC xA5 xn5 3 i fun a =>
  ∃ (xA6 : Option Addr) (xn6 xc6 : Nat), w32.cell? (a.add 1) = some (.slice xA6 xn6 xc6) ∧
  Br (decide (k < (xn6 : Int)))
    (∃ (xA7 : Option Addr) (xn7 xc7 : Nat), w32.cell? ⟨g4, 37, none⟩ = some (.slice xA7 xn7 xc7) ∧
  IdxVC xA7 xn7 3 i fun a1 =>
  ∃ (xA8 : Option Addr) (xn8 xc8 : Nat), w32.cell? (a1.add 1) = some (.slice xA8 xn8 xc8) ∧
  IdxVC xA8 xn8 2 k fun a2 =>
  Stores a2 0 [.int .i64 (-1), .slice none 0 0] w32 fun w33 =>
  K67108130 (IntKind.i64.wrap (k + 1)) w33)
    (∃ (xA9 : Option Addr) (xn9 xc9 : Nat), w32.cell? ⟨g4, 37, none⟩ = some (.slice xA9 xn9 xc9) ∧
  IdxVC xA9 xn9 3 i fun a3 =>
  SetVC w32 a3 (.int .i64 (-2)) fun w34 =>
  K524282 (IntKind.i64.wrap (i + 1)) w34)
set_option maxRecDepth 100000 in
def weirlaw7_Ip6Own_L524282 (R : Ending → World → Prop) (bA : Option Addr) (bn : Nat) (bc : Nat) (g1 : Nat) (g2 : Nat) (lA : Option Addr) (ln : Nat) (lc : Nat) (g4 : Nat) (g5 : Nat) (lA1 : Option Addr) (ln1 : Nat) (lc1 : Nat) (lA2 : Option Addr) (ln2 : Nat) (lc2 : Nat) (g8 : Nat) (lA3 : Option Addr) (ln3 : Nat) (lc3 : Nat) (xA3 : Option Addr) (xn3 : Nat) (xc3 : Nat) (i : Int) (w31 : World) (K524282 : (Int → World → Prop)) : Prop :=
  ∃ (xA4 : Option Addr) (xn4 xc4 : Nat), w31.cell? ⟨g4, 37, none⟩ = some (.slice xA4 xn4 xc4) ∧
  Br (decide (i < (xn4 : Int)))
    (LoopVC (S := Int) (fun s_ w32 K67108130 => weirlaw7_Ip6Own_L67108130 g4 i K524282 s_ w32 K67108130) 0 w31)
    (∃ (xA10 : Option Addr) (xn10 xc10 : Nat), w31.cell? ⟨g4, 37, none⟩ = some (.slice xA10 xn10 xc10) ∧
  NewVC w31 (.cells #[.int .i64 (-3), .slice none 0 0, .slice none 0 0] 54) fun g10 w35 =>
  AppVC Tryd.prog #[26, 26] 26 (.slice xA10 xn10 xc10) (.slice (some ⟨g10, 0, none⟩) 1 1) w35 fun lA4 ln4 _lc4 w36 =>
  Ip6V.ex fun h13 => CellsAt w36 ⟨g1, 0, none⟩ 0 h13.cells ∧
  Calls Tryd.prog 19 #[h13.val] w36 (onRet (fun r_13 w37 => ∃ (x0A3 : Option Addr) (x0n3 x0c3 : Nat), ∃ x15 : Int, r_13 = .tuple #[.slice x0A3 x0n3 x0c3, .int .i64 x15] ∧
  ∃ (xA11 : Option Addr) (xn11 xc11 : Nat), w37.cell? ⟨g1, 37, none⟩ = some (.slice xA11 xn11 xc11) ∧
  Calls Tryd.prog 25 #[.slice xA11 xn11 xc11, .int .i64 59] w37 (onRet (fun r_14 w38 => ∃ (x0A4 : Option Addr) (x0n4 x0c4 : Nat), ∃ x16 : Int, r_14 = .tuple #[.slice x0A4 x0n4 x0c4, .int .i64 x16] ∧
  Calls Tryd.prog 13 #[.slice bA bn bc] w38 (onRet (fun r_15 w39 => Ip6V.ex fun h14 => ∃ x17 : Int, r_15 = .tuple #[h14.val, .int .i64 x17] ∧
  NewVC w39 (.cells (Ip6V.z : Ip6V).cells.toArray 30) fun g11 w40 =>
  Stores ⟨g11, 0, none⟩ 0 h14.cells w40 fun w41 =>
  Calls Tryd.prog 20 #[.slice x0A3 x0n3 x0c3, .slice lA1 ln1 lc1] w41 (onRet (fun r_16 w42 => ∃ x5 : Bool, r_16 = .bool x5 ∧
  Br (!x5)
    (R (.returned (.bool false)) w42)
    (Calls Tryd.prog 20 #[.slice x0A4 x0n4 x0c4, .slice lA2 ln2 lc2] w42 (onRet (fun r_17 w43 => ∃ x6 : Bool, r_17 = .bool x6 ∧
    Br (!x6)
      (R (.returned (.bool false)) w43)
      (Ip6V.ex fun h15 => CellsAt w43 ⟨g11, 0, none⟩ 0 h15.cells ∧
      Ip6V.ex fun h16 => CellsAt w43 ⟨g8, 0, none⟩ 0 h16.cells ∧
      Calls Tryd.prog 18 #[h15.val, h16.val] w43 (onRet (fun r_18 w44 => ∃ x7 : Bool, r_18 = .bool x7 ∧
      Br (!x7)
        (R (.returned (.bool false)) w44)
        (Ip6V.ex fun h17 => CellsAt w44 ⟨g5, 0, none⟩ 0 h17.cells ∧
        Ip6V.ex fun h18 => CellsAt w44 ⟨g8, 0, none⟩ 0 h18.cells ∧
        Calls Tryd.prog 18 #[h17.val, h18.val] w44 (onRet (fun r_19 w45 => ∃ x8 : Bool, r_19 = .bool x8 ∧
        Br (!x8)
    (R (.returned (.bool false)) w45)
    (Calls Tryd.prog 16 #[] w45 (onRet (fun r_20 w46 => ∃ x9 : Bool, r_20 = .bool x9 ∧
  Br x9
    (Calls Tryd.prog 31 #[.slice lA3 ln3 lc3, .slice xA3 xn3 xc3] w46 (onRet (fun r_21 w47 => ∃ x10 : Bool, r_21 = .bool x10 ∧
    Br x10
      (∃ (xA12 : Option Addr) (xn12 xc12 : Nat), w47.cell? ⟨g8, 37, none⟩ = some (.slice xA12 xn12 xc12) ∧
      Br (decide ((ln4 : Int) = IntKind.i64.wrap ((xn12 : Int) + 1)))
        (∃ (xA13 : Option Addr) (xn13 xc13 : Nat), w47.cell? ⟨g8, 37, none⟩ = some (.slice xA13 xn13 xc13) ∧
        IdxVC lA4 ln4 3 (xn13 : Int) fun a4 =>
        ∃ x18 : Int, w47.cell? a4 = some (.int .i64 x18) ∧
        Br (decide (x18 = (-3)))
          (Calls Tryd.prog 20 #[.slice bA bn bc, .slice lA ln lc] w47 (onRet (fun r_22 w48 => ∃ x19 : Bool, r_22 = .bool x19 ∧
          Br x19
            (Ip6V.ex fun h19 => CellsAt w48 ⟨g1, 0, none⟩ 0 h19.cells ∧
            Ip6V.ex fun h20 => CellsAt w48 ⟨g2, 0, none⟩ 0 h20.cells ∧
            Calls Tryd.prog 18 #[h19.val, h20.val] w48 (onRet (fun r_23 w49 => ∃ x20 : Bool, r_23 = .bool x20 ∧
            R (.returned (.bool x20)) w49)
              (fun ch23 w49 => R (.panicked ch23) w49)))
            (R (.returned (.bool false)) w48))
            (fun ch22 w48 => R (.panicked ch22) w48)))
          (R (.returned (.bool false)) w47))
        (R (.returned (.bool false)) w47))
      (R (.returned (.bool false)) w47))
      (fun ch21 w47 => R (.panicked ch21) w47)))
    (R (.returned (.bool false)) w46))
    (fun ch20 w46 => R (.panicked ch20) w46))))
          (fun ch19 w45 => R (.panicked ch19) w45))))
        (fun ch18 w44 => R (.panicked ch18) w44))))
      (fun ch17 w43 => R (.panicked ch17) w43))))
    (fun ch16 w42 => R (.panicked ch16) w42)))
    (fun ch15 w39 => R (.panicked ch15) w39)))
    (fun ch14 w38 => R (.panicked ch14) w38)))
    (fun ch13 w37 => R (.panicked ch13) w37)))
set_option maxRecDepth 100000 in
def weirlaw7_Ip6Own_VC (h : Ip6V) (bA : Option Addr) (bn : Nat) (bc : Nat) (w : World) (R : Ending → World → Prop) : Prop :=
  NewVC w (.cells h.cells.toArray 30) fun g1 w1 =>
  Ip6V.ex fun h1 => CellsAt w1 ⟨g1, 0, none⟩ 0 h1.cells ∧
  Calls Tryd.prog 28 #[h1.val] w1 (onRet (fun r_ w2 => Ip6V.ex fun h2 => r_ = h2.val ∧
  NewVC w2 (.cells (Ip6V.z : Ip6V).cells.toArray 30) fun g2 w3 =>
  Stores ⟨g2, 0, none⟩ 0 h2.cells w3 fun w4 =>
  NewVC w4 (.cells #[] 5) fun g3 w5 =>
  AppVC Tryd.prog #[22, 22] 22 (.slice (some ⟨g3, 0, none⟩) 0 0) (.slice bA bn bc) w5 fun lA ln lc w6 =>
  Ip6V.ex fun h3 => CellsAt w6 ⟨g1, 0, none⟩ 0 h3.cells ∧
  Calls Tryd.prog 19 #[h3.val] w6 (onRet (fun r_1 w7 => ∃ (x0A : Option Addr) (x0n x0c : Nat), ∃ x1 : Int, r_1 = .tuple #[.slice x0A x0n x0c, .int .i64 x1] ∧
  Ip6V.ex fun h4 => CellsAt w7 ⟨g1, 0, none⟩ 0 h4.cells ∧
  Calls Tryd.prog 19 #[h4.val] w7 (onRet (fun r_2 w8 => ∃ (x0A1 : Option Addr) (x0n1 x0c1 : Nat), ∃ x11 : Int, r_2 = .tuple #[.slice x0A1 x0n1 x0c1, .int .i64 x11] ∧
  ∃ (xA : Option Addr) (xn xc : Nat), w8.cell? ⟨g1, 37, none⟩ = some (.slice xA xn xc) ∧
  Calls Tryd.prog 25 #[.slice xA xn xc, .int .i64 59] w8 (onRet (fun r_3 w9 => ∃ (x0A2 : Option Addr) (x0n2 x0c2 : Nat), ∃ x12 : Int, r_3 = .tuple #[.slice x0A2 x0n2 x0c2, .int .i64 x12] ∧
  Calls Tryd.prog 13 #[.slice bA bn bc] w9 (onRet (fun r_4 w10 => Ip6V.ex fun h5 => ∃ x13 : Int, r_4 = .tuple #[h5.val, .int .i64 x13] ∧
  NewVC w10 (.cells (Ip6V.z : Ip6V).cells.toArray 30) fun g4 w11 =>
  Stores ⟨g4, 0, none⟩ 0 h5.cells w11 fun w12 =>
  Calls Tryd.prog 13 #[.slice bA bn bc] w12 (onRet (fun r_5 w13 => Ip6V.ex fun h6 => ∃ x14 : Int, r_5 = .tuple #[h6.val, .int .i64 x14] ∧
  NewVC w13 (.cells (Ip6V.z : Ip6V).cells.toArray 30) fun g5 w14 =>
  Stores ⟨g5, 0, none⟩ 0 h6.cells w14 fun w15 =>
  NewVC w15 (.cells #[] 5) fun g6 w16 =>
  AppVC Tryd.prog #[22, 22] 22 (.slice (some ⟨g6, 0, none⟩) 0 0) (.slice x0A x0n x0c) w16 fun lA1 ln1 lc1 w17 =>
  NewVC w17 (.cells #[] 5) fun g7 w18 =>
  AppVC Tryd.prog #[22, 22] 22 (.slice (some ⟨g7, 0, none⟩) 0 0) (.slice x0A2 x0n2 x0c2) w18 fun lA2 ln2 lc2 w19 =>
  Ip6V.ex fun h7 => CellsAt w19 ⟨g4, 0, none⟩ 0 h7.cells ∧
  Calls Tryd.prog 28 #[h7.val] w19 (onRet (fun r_6 w20 => Ip6V.ex fun h8 => r_6 = h8.val ∧
  NewVC w20 (.cells (Ip6V.z : Ip6V).cells.toArray 30) fun g8 w21 =>
  Stores ⟨g8, 0, none⟩ 0 h8.cells w21 fun w22 =>
  NewVC w22 (.cells #[.slice x0A x0n x0c, .slice x0A1 x0n1 x0c1, .slice x0A2 x0n2 x0c2] 22) fun g9 w23 =>
  ∃ (xA1 : Option Addr) (xn1 xc1 : Nat), w23.cell? ⟨g4, 37, none⟩ = some (.slice xA1 xn1 xc1) ∧
  Calls Tryd.prog 29 #[.slice xA1 xn1 xc1] w23 (onRet (fun r_7 w24 => ∃ (xA2 : Option Addr) (xn2 xc2 : Nat), r_7 = .slice xA2 xn2 xc2 ∧
  AppVC Tryd.prog #[60, 60] 60 (.slice (some ⟨g9, 0, none⟩) 3 3) (.slice xA2 xn2 xc2) w24 fun lA3 ln3 lc3 w25 =>
  Calls Tryd.prog 30 #[.slice lA3 ln3 lc3] w25 (onRet (fun r_8 w26 => ∃ (xA3 : Option Addr) (xn3 xc3 : Nat), r_8 = .slice xA3 xn3 xc3 ∧
  Calls Tryd.prog 31 #[.slice lA3 ln3 lc3, .slice xA3 xn3 xc3] w26 (onRet (fun r_9 w27 => ∃ x : Bool, r_9 = .bool x ∧
  Br (!x)
    (R (.returned (.bool false)) w27)
    (Ip6V.ex fun h9 => CellsAt w27 ⟨g5, 0, none⟩ 0 h9.cells ∧
    Ip6V.ex fun h10 => CellsAt w27 ⟨g8, 0, none⟩ 0 h10.cells ∧
    Calls Tryd.prog 18 #[h9.val, h10.val] w27 (onRet (fun r_10 w28 => ∃ x2 : Bool, r_10 = .bool x2 ∧
    Br (!x2)
      (R (.returned (.bool false)) w28)
      (Calls Tryd.prog 20 #[.slice bA bn bc, .slice lA ln lc] w28 (onRet (fun r_11 w29 => ∃ x3 : Bool, r_11 = .bool x3 ∧
      Br (!x3)
        (R (.returned (.bool false)) w29)
        (Ip6V.ex fun h11 => CellsAt w29 ⟨g1, 0, none⟩ 0 h11.cells ∧
        Ip6V.ex fun h12 => CellsAt w29 ⟨g2, 0, none⟩ 0 h12.cells ∧
        Calls Tryd.prog 18 #[h11.val, h12.val] w29 (onRet (fun r_12 w30 => ∃ x4 : Bool, r_12 = .bool x4 ∧
        Br (!x4)
    (R (.returned (.bool false)) w30)
    (LoopVC (S := Int) (fun s_ w31 K524282 => weirlaw7_Ip6Own_L524282 R bA bn bc g1 g2 lA ln lc g4 g5 lA1 ln1 lc1 lA2 ln2 lc2 g8 lA3 ln3 lc3 xA3 xn3 xc3 s_ w31 K524282) 0 w30))
          (fun ch12 w30 => R (.panicked ch12) w30))))
        (fun ch11 w29 => R (.panicked ch11) w29))))
      (fun ch10 w28 => R (.panicked ch10) w28))))
    (fun ch9 w27 => R (.panicked ch9) w27)))
    (fun ch8 w26 => R (.panicked ch8) w26)))
    (fun ch7 w24 => R (.panicked ch7) w24)))
    (fun ch6 w20 => R (.panicked ch6) w20)))
    (fun ch5 w13 => R (.panicked ch5) w13)))
    (fun ch4 w10 => R (.panicked ch4) w10)))
    (fun ch3 w9 => R (.panicked ch3) w9)))
    (fun ch2 w8 => R (.panicked ch2) w8)))
    (fun ch1 w7 => R (.panicked ch1) w7)))
    (fun ch w2 => R (.panicked ch) w2))
def weirlaw7_Ip6Own_H : Hints := [(524282, [(22, .int .i64)]), (67108130, [(23, .int .i64)])]
set_option maxRecDepth 100000 in
theorem weirlaw7_Ip6Own_of (h : Ip6V) (bA : Option Addr) (bn : Nat) (bc : Nat) (w : World) (R : Ending → World → Prop) (hvc_ : weirlaw7_Ip6Own_VC h bA bn bc w R) :
    Calls Tryd.prog 7 #[h.val, .slice bA bn bc] w R :=
  calls_of_wpc callOk mixedOk (H := weirlaw7_Ip6Own_H) (args := [h.val, .slice bA bn bc]) (fn := Tryd.f7) (c := bodyOf Tryd.f7) Tryd.func7 rfl (Nat.le_of_ble_eq_true rfl)
    (Eq.mp (by kernel_rfl : weirlaw7_Ip6Own_VC h bA bn bc w R = wpc Tryd.prog callF Tryd.f7.ntmps weirlaw7_Ip6Own_H 1 (bodyOf Tryd.f7) (argEnv 0 [h.val, .slice bA bn bc]) [] w (finish Tryd.prog callF Tryd.f7.results.toList R)) hvc_)
end N6
end Go.Proofs.YtkiogaglmjeplaaDoor
/- Lists of bytes that were handed out: written full, each with a mark of its own, lengthened by one, two and seventy; that they stand. -/
namespace Go.Eng
open Go Go.RowKit
def mkI (i : Nat) : Int := ((1 + i % 250 : Nat) : Int)
def tlI (i : Nat) : Int := ((251 + i % 5 : Nat) : Int)
def mkB (i : Nat) : List Value := [.int .u8 (mkI i)]
def tlB (i : Nat) : List Value := [.int .u8 (tlI i)]
def tC : Nat → Nat | 0 => 1 | 1 => 2 | _ => 70
/-- What the lists read, once they are lengthened. -/
def ReadsB (w : World) (rows gs : List GR) : Prop :=
  ∀ (j : Nat) (r : GR), rows[j]? = some r → Cells w r.A (reps r.n (mkB j)) ∧ ∀ d, d < 3 → ∃ g : GR, gs[3 * j + d]? = some g ∧ g.n = r.n + tC d ∧ Cells w g.A (reps r.n (mkB j) ++ reps (tC d) (tlB j))
def StoodB (rows gs : List GR) (D : List Fct) (n : Nat) : Prop := ∀ w2, (∀ f ∈ D, f.φ w2) → ∀ (j : Nat) (r : GR), j < n → rows[j]? = some r → Cells w2 r.A (reps r.n (mkB j)) ∧ ∀ d, d < 3 → ∃ g : GR, gs[3 * j + d]? = some g ∧ g.n = r.n + tC d ∧ Cells w2 g.A (reps r.n (mkB j) ++ reps (tC d) (tlB j))
theorem mk_val {i : Nat} (h : i ≤ 4000000000000) : IntKind.u8.wrap (IntKind.i64.wrap (1 + Int.tmod (i : Int) 250)) = mkI i := by
  have e : Int.tmod (i : Int) 250 = ((i % 250 : Nat) : Int) := by rw [Int.tmod_eq_emod_of_nonneg (by omega)]; omega
  unfold mkI
  rw [e, w64 (by omega) (by omega), wu8 (by omega) (by omega)]; omega
theorem tl_val {i : Nat} (h : i ≤ 4000000000000) : IntKind.u8.wrap (IntKind.i64.wrap (251 + Int.tmod (i : Int) 5)) = tlI i := by
  have e : Int.tmod (i : Int) 5 = ((i % 5 : Nat) : Int) := by rw [Int.tmod_eq_emod_of_nonneg (by omega)]; omega
  unfold tlI
  rw [e, w64 (by omega) (by omega), wu8 (by omega) (by omega)]; omega
end Go.Eng
namespace Go.Proofs.YtkiogaglmjeplaaDoor
namespace N6
open Go.Eng Go.RowKit
theorem tSl : TypeIs Tryd.prog 22 (.slice none 0 0) 1 24 := .of (by kernel_rfl)
section
variable {w w0 : World} {Γ0 : List Fct} {b ln lc : Nat} {lA : Option Addr} {rows : List GR}
theorem tail_spec {i n : Nat} (hi : i ≤ 4000000000000) (hn : n ≤ 70) : Calls Tryd.prog 58 #[.int .i64 (i : Int), .int .i64 (n : Int)] w fun e w' => ∃ A c, e = .returned (.slice A n c) ∧ Sep [Fct.rest w None, Fct.own w.heap.size 5 1 (.slice A n c) n (reps n (tlB i))] w' := by
  refine weirlaw7_tail_of (i : Int) (n : Int) w _ ?_
  unfold weirlaw7_tail_VC
  refine LoopVC.of (fun st w' => st.2.1 ≤ n ∧ Sep [Fct.rest w None, Fct.own w.heap.size 5 1 (.slice st.1 st.2.1 st.2.2) st.2.1 (reps st.2.1 (tlB i))] w') (fun st _ => n - st.2.1) ⟨Nat.zero_le _, (Sep.start0 w).nil _ _ _⟩ ?_
  rintro ⟨A1, n1, c1⟩ w1 ⟨h1, H⟩
  simp only at h1
  show weirlaw7_tail_L28 _ (i : Int) (n : Int) A1 n1 c1 w1 _
  unfold weirlaw7_tail_L28
  rw [tl_val hi]
  refine Br.dec (fun hlt => ?_) fun hge => ?_
  · refine NewVC.sep H fun g1 w2 H => ?_
    have hz := (H.restOf 0 rfl).size
    refine AppVC.sep H 1 Tryd.underlying22 tB rfl (by decide) rfl (Cells.blk0 (H.blk 2 rfl)) rfl (fun v hv => by simp at hv; subst hv; rfl) (show (n1 + 1) * 1 ≤ 140737488355328 by omega) (by decide) hz fun A2 c2 w3 H _ => ?_
    refine ⟨⟨by show n1 + 1 ≤ n; omega, ?_⟩, by show n - (n1 + 1) < n - n1; omega⟩
    have H := H.take 2
    show Sep [_, Fct.own _ _ 1 (.slice A2 (n1 + 1) c2) (n1 + 1) (reps (n1 + 1) (tlB i))] w3
    rw [reps_add, reps_one]
    exact H
  · have : n1 = n := by omega
    subst this
    exact ⟨A1, c1, rfl, H⟩
set_option maxHeartbeats 8000000 in
theorem filled_spec (H : Sep (Γ0 ++ rows.map (rawR b 5 1)) w) (h0 : Γ0[0]? = some (Fct.rest w0 None)) (hb : b ≤ w0.heap.size) (hl : ∀ w', (∀ f ∈ Γ0, f.φ w') → Cells w' lA (rows.map GR.val)) (hlen : rows.length = ln) (hsm : ln ≤ 1900000000000) (hn : ∀ r ∈ rows, r.n ≤ 4000000) :
    Calls Tryd.prog 30 #[.slice lA ln lc] w fun e w' => ∃ (MA : Option Addr) (mc : Nat) (gs : List GR) (D : List Fct), e = .returned (.slice MA (3 * ln) mc) ∧ gs.length = 3 * ln ∧ StoodB rows gs D ln ∧ Sep (Fct.own b 22 1 (.slice MA (3 * ln) mc) (3 * ln) (gs.map GR.val) :: (Γ0 ++ D)) w' := by
  refine weirlaw7_filled_of lA ln lc w _ ?_
  unfold weirlaw7_filled_VC
  have hin : ∀ {i : Nat} {r : GR}, rows[i]? = some r → r.n ≤ 4000000 := fun h => hn _ (List.mem_of_getElem? h)
  have hget : ∀ i, i < ln → ∃ r, rows[i]? = some r := fun i hi => ⟨_, List.getElem?_eq_getElem (by omega)⟩
  have hrest : ∀ {Y : List Fct} {w' : World}, Sep (Γ0 ++ Y) w' → w0.heap.size ≤ w'.heap.size := fun H => (H.restOf 0 (by
    rw [List.getElem?_append_left (List.getElem?_eq_some_iff.1 h0).1]; exact h0)).size
  refine LoopVC.of (fun st w' => ∃ i : Nat, st = (i : Int) ∧ i ≤ ln ∧ Sep (Γ0 ++ (mapI (fullR b 5 1 mkB) 0 (rows.take i) ++ (rows.drop i).map (rawR b 5 1))) w') (fun st _ => ((ln : Int) - st).toNat)
    ⟨0, rfl, Nat.zero_le _, H⟩ ?_
  rintro _ w1 ⟨i, rfl, hi, H⟩
  show weirlaw7_filled_L26 _ lA ln (i : Int) w1 _
  unfold weirlaw7_filled_L26
  refine Br.dec (fun hlt => ?_) fun hge => ?_
  · obtain ⟨r, hr⟩ := hget i (by omega)
    have hrn := hin hr
    have hmk := mk_val (i := i) (by omega)
    have e1 : IntKind.i64.wrap ((i : Int) + 1) = ((i + 1 : Nat) : Int) := by rw [w64 (by omega) (by omega)]; omega
    rw [drop_consA hr, List.map_cons] at H
    obtain ⟨D, hD⟩ : ∃ D, D = mapI (fullR b 5 1 mkB) 0 (rows.take i) := ⟨_, rfl⟩
    obtain ⟨T, hT⟩ : ∃ T, T = (rows.drop (i + 1)).map (rawR b 5 1) := ⟨_, rfl⟩
    rw [← hD, ← hT] at H
    have H := H.focus
    refine LoopVC.of (fun st w' => ∃ (k : Nat) (ys : List Value), st = (k : Int) ∧ k ≤ r.n ∧ ys.length = r.n ∧ (∀ j, j < k → ys[j]? = some (.int .u8 (mkI i))) ∧ Sep (Fct.row b 5 1 r.A r.c r.n ys :: (Γ0 ++ (D ++ T))) w') (fun st _ => ((r.n : Int) - st).toNat)
      ⟨0, r.xs, rfl, Nat.zero_le _, by have := (H.row 0 rfl).1; omega, fun j hj => absurd hj (by omega), H⟩ ?_
    rintro _ w2 ⟨k, ys, rfl, hk, hyl, hy, H⟩
    show weirlaw7_filled_L1682 lA ln (i : Int) _ (k : Int) w2 _
    unfold weirlaw7_filled_L1682
    have hl2 := hl w2 fun f hf => H.mem (List.mem_cons_of_mem _ (List.mem_append_left _ hf))
    refine idx_rows hl2 hr hlen fun a ha => ⟨_, _, _, ha, Br.dec (fun hk1 => ?_) fun hk1 => ?_⟩
    · refine idx_rows hl2 hr hlen fun a ha => ⟨_, _, _, ha, ?_⟩
      rw [hmk]
      have e2 : IntKind.i64.wrap ((k : Int) + 1) = ((k + 1 : Nat) : Int) := by rw [w64 (by omega) (by omega)]; omega
      refine IdxVC.rowSet H 0 rfl (by omega) (by omega) fun a ha => ha _ _ rfl fun w3 H3 => ?_
      refine ⟨⟨k + 1, _, e2, by omega, by simpa using hyl, fun j hj => ?_, H3⟩, by rw [e2]; omega⟩
      by_cases e : j = k
      · subst e; rw [List.getElem?_set_self (by omega)]
      · rw [List.getElem?_set_ne (Ne.symm e)]; exact hy j (by omega)
    · have hkn : k = r.n := by omega
      have hys := full_cells hyl fun j hj => hy j (by omega)
      subst hys
      refine ⟨⟨i + 1, e1, by omega, ?_⟩, by rw [e1]; omega⟩
      rw [take_snocA hr, mapI_snoc, ← hD, ← hT]
      have hli : 0 + (rows.take i).length = i := by rw [List.length_take]; omega
      rw [hli]
      exact H.perm (perm_unfocus (Z := []))
  have hin' : i = ln := by omega
  subst hin'
  rw [List.take_of_length_le (by omega), List.drop_of_length_le (by omega), List.map_nil, List.append_nil] at H
  refine LoopVC.of (fun st w' => ∃ (j : Nat) (D : List Fct) (gs : List GR), st.2 = (j : Int) ∧ j ≤ i ∧ gs.length = 3 * j ∧ st.1.2.1 = 3 * j ∧ StoodB rows gs D j ∧
      Sep (Fct.own b 22 1 (.slice st.1.1 st.1.2.1 st.1.2.2) st.1.2.1 (gs.map GR.val) :: (Γ0 ++ (D ++ mapI (fullR b 5 1 mkB) j (rows.drop j)))) w') (fun st _ => ((i : Int) - st.2).toNat)
    ⟨0, [], [], rfl, Nat.zero_le _, rfl, rfl, (fun w2 _ j r hj => absurd hj (by omega)), (H.nil b 22 1).front⟩ ?_
  rintro ⟨⟨LA, Ln, Lc⟩, _⟩ w4 ⟨j, D, gs, rfl, hj, hgl, hLn, hst, H⟩
  simp only at hLn
  subst hLn
  have H : Sep (Fct.own b 22 1 (.slice LA (3 * j) Lc) (3 * j) (gs.map GR.val) :: (Γ0 ++ (D ++ mapI (fullR b 5 1 mkB) j (rows.drop j)))) w4 := H
  show weirlaw7_filled_L122 _ lA i LA (3 * j) Lc (j : Int) w4 _
  unfold weirlaw7_filled_L122
  refine Br.dec (fun hlt => ?_) fun hge => ?_
  rotate_left
  · have hjn : j = i := by omega
    subst hjn
    rw [List.drop_of_length_le (by omega)] at H
    exact ⟨LA, Lc, gs, D, rfl, hgl, hst, by simpa [mapI] using H⟩
  obtain ⟨r, hr⟩ := hget j (by omega)
  have hrn := hin hr
  have e1 : IntKind.i64.wrap ((j : Int) + 1) = ((j + 1 : Nat) : Int) := by rw [w64 (by omega) (by omega)]; omega
  rw [drop_consA hr] at H
  obtain ⟨R, hR⟩ : ∃ R, R = mapI (fullR b 5 1 mkB) (j + 1) (rows.drop (j + 1)) := ⟨_, rfl⟩
  have H : Sep ((Fct.own b 22 1 (.slice LA (3 * j) Lc) (3 * j) (gs.map GR.val) :: Γ0) ++ (D ++ fullR b 5 1 mkB j r :: R)) w4 := by rw [hR]; exact H
  have H := H.focus
  obtain ⟨Γ1, hΓ1⟩ : ∃ Γ1, Γ1 = Fct.own b 22 1 (.slice LA (3 * j) Lc) (3 * j) (gs.map GR.val) :: (Γ0 ++ (D ++ R)) := ⟨_, rfl⟩
  obtain ⟨bs, hbs⟩ : ∃ bs : Nat → Fct, bs = fun k => baseR b 5 1 r.A r.c r.n (reps r.n (mkB j)) (tlB j) k := ⟨_, rfl⟩
  have H : Sep (bs 0 :: Γ1) w4 := by
    rw [hΓ1, hbs]
    have e : baseR b 5 1 r.A r.c r.n (reps r.n (mkB j)) (tlB j) 0 = fullR b 5 1 mkB j r := by unfold baseR fullR; rw [reps_zero, List.append_nil]; rfl
    simp only
    rw [e]; exact H
  have inΓ : ∀ {Y : List Fct} {w' : World}, Sep (Y ++ Γ1) w' → w0.heap.size ≤ w'.heap.size ∧ Cells w' lA (rows.map GR.val) := fun {Y w'} H => by
    rw [hΓ1] at H
    have H := H.perm (List.perm_append_comm)
    have H : Sep (_ :: (Γ0 ++ (D ++ R)) ++ Y) w' := H
    rw [List.cons_append, List.append_assoc] at H
    exact ⟨hrest H.tail, hl w' fun f hf => H.mem (List.mem_cons_of_mem _ (List.mem_append_left _ hf))⟩
  /- one append of m tails, behind the a of a list -/
  have step : ∀ (k a m : Nat) (Ag : Option Addr) (cg : Nat) (X Y : List Fct) (w2 w3 : World) (A' : Option Addr) (c' b2 : Nat) (F : Option Addr → Nat → Nat → World → Prop), 0 < m → m ≤ 70 → a ≤ 70 → Grown b 5 1 r.A r.c r.n (reps r.n (mkB j)) (tlB j) k a Ag cg X → Sep (bs k :: (X ++ (Y ++ Γ1))) w2 → w2.heap.size ≤ b2 →
      Sep [Fct.rest w2 None, Fct.own b2 5 1 (.slice A' m c') m (reps m (tlB j))] w3 →
      (∀ (k' : Nat) (A2 : Option Addr) (c2 : Nat) (X' : List Fct) (w' : World), k ≤ k' → Grown b 5 1 r.A r.c r.n (reps r.n (mkB j)) (tlB j) k' (a + m) A2 c2 X' → Sep (bs k' :: (X' ++ (Y ++ Γ1))) w' → F A2 (r.n + (a + m)) c2 w') →
      AppVC Tryd.prog #[22, 22] 22 (.slice Ag (r.n + a) cg) (.slice A' m c') w3 F := by
    intro k a m Ag cg X Y w2 w3 A' c' b2 F hm hm70 ha hG H _ Ht hF
    have H3 := H.mades Ht
    have hz3 : b ≤ w3.heap.size := by
      have h1 := inΓ (Y := bs k :: (X ++ Y)) (w' := w2) (by rw [List.cons_append, List.append_assoc]; exact H)
      have h2 := (Ht.restOf 0 rfl).size
      omega
    have H3 : Sep (bs k :: (X ++ ((Y ++ Γ1) ++ [Fct.own b2 5 1 (.slice A' m c') m (reps m (tlB j))]))) w3 := by
      rw [List.cons_append, List.append_assoc] at H3
      exact H3
    rw [hbs] at H3
    refine AppVC.grown hG H3 Tryd.underlying22 tB rfl (by decide) (by rw [reps_len]; rfl) rfl (fun v hv => by simp [tlB] at hv; subst hv; rfl) (own_cells (Ht.own 1 rfl)) hm (by omega) (by decide) hz3 fun k' A2 c2 X' w7 hk' hG' H7 => ?_
    refine hF k' A2 c2 X' w7 hk' hG' ?_
    have H7 : Sep ((bs k' :: (X' ++ (Y ++ Γ1))) ++ [Fct.own b2 5 1 (.slice A' m c') m (reps m (tlB j))]) w7 := by
      rw [List.cons_append, List.append_assoc, hbs]; exact H7
    exact H7.dropEnd
  have hjj : j ≤ 4000000000000 := by omega
  refine DrawVC.sep H (fun w' => Cells w' lA (rows.map GR.val)) fun w5 H => ?_
  have hS := (inΓ (Y := [bs 0]) H).2
  refine ⟨hS, idx_rowsD (S := fun w' => Cells w' lA (rows.map GR.val)) hS (fun w' h => h) hr hlen fun a ha => ⟨_, _, _, ha, ?_⟩⟩
  refine (tail_spec (n := 1) hjj (by decide)).mono ?_
  rintro _ w6 ⟨T1, t1, rfl, Ht1⟩
  refine ⟨_, _, _, rfl, (inΓ (Y := [bs 0]) (H.ext (Ht1.restOf 0 rfl))).2, ?_⟩
  refine step 0 0 1 r.A r.c [] [] w5 w6 T1 t1 _ _ (by decide) (by decide) (by decide) (.base (Nat.le_refl _)) H (Nat.le_refl _) Ht1 fun k1 A1 c1 X1 w7 _ hG1 H => ?_
  have H : Sep (bs k1 :: (X1 ++ Γ1)) w7 := H
  refine ⟨(inΓ (Y := bs k1 :: X1) H).2, DrawVC.sep H (fun w' => Cells w' lA (rows.map GR.val)) fun w8 H => ?_⟩
  have hS := (inΓ (Y := bs k1 :: X1) H).2
  refine ⟨hS, idx_rowsD (S := fun w' => Cells w' lA (rows.map GR.val)) hS (fun w' h => h) hr hlen fun a ha => ⟨_, _, _, ha, ?_⟩⟩
  refine (tail_spec (n := 2) hjj (by decide)).mono ?_
  rintro _ w9 ⟨T2, t2, rfl, Ht2⟩
  refine ⟨_, _, _, rfl, (inΓ (Y := bs k1 :: X1) (H.ext (Ht2.restOf 0 rfl))).2, ?_⟩
  refine step k1 0 2 r.A r.c [] X1 w8 w9 T2 t2 _ _ (by decide) (by decide) (by decide) (.base (Nat.zero_le _)) H (Nat.le_refl _) Ht2 fun k2 A2 c2 X2 w10 hk2 hG2 H => ?_
  have H : Sep (bs k2 :: ([] ++ ((X2 ++ X1) ++ Γ1))) w10 := by rw [List.append_assoc]; exact H
  have hS := (inΓ (Y := bs k2 :: (X2 ++ X1)) H).2
  refine ⟨hS, idx_rows hS hr hlen fun a ha => ⟨_, _, _, ha, ?_⟩⟩
  refine LoopVC.of (fun st w' => ∃ (a k : Nat) (X : List Fct), st.2 = (a : Int) ∧ a ≤ 70 ∧ k2 ≤ k ∧ st.1.2.1 = r.n + a ∧ Grown b 5 1 r.A r.c r.n (reps r.n (mkB j)) (tlB j) k a st.1.1 st.1.2.2 X ∧ Sep (bs k :: (X ++ ((X2 ++ X1) ++ Γ1))) w') (fun st _ => ((70 : Int) - st.2).toNat)
    ⟨0, k2, [], rfl, by decide, Nat.le_refl _, rfl, .base (Nat.zero_le _), H⟩ ?_
  rintro ⟨⟨gA, gn, gc⟩, _⟩ w11 ⟨a, k, X, rfl, haT, hk, hgn, hG, H⟩
  simp only at hgn hG
  subst hgn
  show weirlaw7_filled_L125242 _ LA (3 * j) Lc (j : Int) _ A1 (r.n + (0 + 1)) c1 A2 (r.n + (0 + 2)) c2 gA (r.n + a) gc (a : Int) w11 _
  unfold weirlaw7_filled_L125242
  refine Br.dec (fun ha1 => ?_) fun ha1 => ?_
  · have e2 : IntKind.i64.wrap ((a : Int) + 1) = ((a + 1 : Nat) : Int) := by rw [w64 (by omega) (by omega)]; omega
    refine (tail_spec (n := 1) hjj (by decide)).mono ?_
    rintro _ w12 ⟨T3, t3, rfl, Ht3⟩
    refine ⟨_, _, _, rfl, ?_⟩
    rw [e2]
    refine step k a 1 gA gc X (X2 ++ X1) w11 w12 T3 t3 _ _ (by decide) (by decide) haT hG H (Nat.le_refl _) Ht3 fun k' A3 c3 X' w13 hk' hG' H => ?_
    exact ⟨⟨a + 1, k', X', rfl, by omega, by omega, rfl, hG', H⟩, by simp only; omega⟩
  · have haT' : a = 70 := by omega
    subst haT'
    refine NewVC.sep H fun g1 w14 H => ?_
    obtain ⟨news, hnews⟩ : ∃ news : List GR, news = [⟨A1, r.n + 1, c1, []⟩, ⟨A2, r.n + 2, c2, []⟩, ⟨gA, r.n + 70, gc, []⟩] := ⟨_, rfl⟩
    have hz14 : w0.heap.size ≤ w14.heap.size := (inΓ (Y := bs k :: (X ++ (X2 ++ X1))) (w' := w14) (by
      have := H.dropEnd
      rw [List.cons_append, List.append_assoc]; exact this)).1
    have H : Sep ((bs k :: (X ++ (X2 ++ X1))) ++ Fct.own b 22 1 (.slice LA (3 * j) Lc) (3 * j) (gs.map GR.val) :: ((Γ0 ++ (D ++ R)) ++ [Fct.blk g1 22 (news.map GR.val)])) w14 := by
      have e : (bs k :: (X ++ (X2 ++ X1))) ++ Fct.own b 22 1 (.slice LA (3 * j) Lc) (3 * j) (gs.map GR.val) :: ((Γ0 ++ (D ++ R)) ++ [Fct.blk g1 22 (news.map GR.val)]) = (bs k :: (X ++ ((X2 ++ X1) ++ Γ1))) ++ [Fct.blk g1 22 (news.map GR.val)] := by
        rw [hΓ1]; simp
      rw [e, hnews]; exact H
    have H := H.mid
    have hsrc : Cells w14 (some ⟨g1, 0, none⟩) (news.map GR.val) := Cells.blk0 (H.mem (f := Fct.blk g1 22 (news.map GR.val)) (by simp))
    have hone : ∀ v ∈ news.map GR.val, v.oneCell' = true := fun v hv => by obtain ⟨g, _, rfl⟩ := List.mem_map.1 hv; rfl
    refine AppVC.sep (m := 3) H 0 Tryd.underlying60 tSl rfl (by decide) rfl hsrc (by rw [hnews]; rfl) hone (by omega) (by decide) (by omega) fun A4 c4 w15 H9 _ => ?_
    have H9 : Sep (Fct.own b 22 1 (.slice A4 (3 * j + 3) c4) (3 * j + 3) (gs.map GR.val ++ news.map GR.val) :: ((bs k :: (X ++ (X2 ++ X1))) ++ ((Γ0 ++ (D ++ R)) ++ [Fct.blk g1 22 (news.map GR.val)]))) w15 := H9
    rw [← List.append_assoc, ← List.cons_append] at H9
    have H9 := H9.dropEnd
    refine ⟨⟨j + 1, D ++ (bs k :: (X ++ (X2 ++ X1))), gs ++ news, e1, by omega, by rw [hnews]; simp [hgl]; omega, rfl, ?_, ?_⟩, by simp only [e1]; omega⟩
    · intro w2 hf q r' hq hr'
      rcases Nat.lt_or_ge q j with hqj | hqj
      · obtain ⟨h1, h2⟩ := hst w2 (fun f hf' => hf f (List.mem_append_left _ hf')) q r' hqj hr'
        refine ⟨h1, fun d hd => ?_⟩
        obtain ⟨g, hg, r2⟩ := h2 d hd
        exact ⟨g, by rw [List.getElem?_append_left (by omega)]; exact hg, r2⟩
      · have hqj : q = j := by omega
        subst hqj
        rw [hr] at hr'; injection hr' with hr'; subst hr'
        have hbase : (baseR b 5 1 r.A r.c r.n (reps r.n (mkB q)) (tlB q) k).φ w2 := by
          have := hf _ (List.mem_append_right D (List.mem_cons_self (a := bs k) (l := X ++ (X2 ++ X1))))
          rw [hbs] at this; exact this
        have hX : ∀ f ∈ X ++ (X2 ++ X1), f.φ w2 := fun f hfX => hf f (List.mem_append_right _ (List.mem_cons_of_mem _ hfX))
        refine ⟨?_, fun d hd => ?_⟩
        · have := base_cells (m := 0) hbase (Nat.zero_le _)
          rwa [reps_zero, List.append_nil] at this
        · have hgd : (gs ++ news)[3 * q + d]? = news[d]? := by rw [List.getElem?_append_right (by omega), hgl]; congr 1; omega
          rw [hgd, hnews]
          match d, hd with
          | 0, _ => exact ⟨_, rfl, rfl, (hG1.more (by omega)).cells hbase fun f hf => hX f (List.mem_append_right _ (List.mem_append_right _ hf))⟩
          | 1, _ => exact ⟨_, rfl, rfl, (hG2.more (by omega)).cells hbase fun f hf => hX f (List.mem_append_right _ (List.mem_append_left _ hf))⟩
          | 2, _ => exact ⟨_, rfl, rfl, hG.cells hbase fun f hf => hX f (List.mem_append_left _ hf)⟩
    · rw [List.map_append]
      refine H9.perm (.cons _ ?_)
      rw [← hR]
      exact perm_unfocus
/-- What lies at a place of a list that was lengthened. -/
theorem reads_at {A : Option Addr} {n t i j m : Nat} (h : Cells w A (reps n (mkB i) ++ reps t (tlB i))) (hm : n + t = m) (hj : j < m) {F : Addr → Prop} (hF : ∀ a, w.cell? a = some (.int .u8 (if n ≤ j then tlI i else mkI i)) → F a) : IdxVC A m 1 (j : Int) F := by
  have e : reps n (mkB i) ++ reps t (tlB i) = (List.replicate n (mkI i) ++ List.replicate t (tlI i)).map (Value.int .u8) := by
    rw [List.map_append]; unfold mkB tlB; rw [reps_map, reps_map]
  rw [e] at h
  refine IdxVC.int h (by omega) (by omega) (by simp [hm]) fun a ha => hF a ?_
  rw [ha, Int.toNat_natCast, List.getD_eq_getElem?_getD]
  by_cases hjn : n ≤ j
  · rw [if_pos hjn, List.getElem?_append_right (by simpa using hjn), List.getElem?_replicate, if_pos (by simp; omega)]; rfl
  · rw [if_neg hjn, List.getElem?_append_left (by simp; omega), List.getElem?_replicate, if_pos (by omega)]; rfl
set_option maxHeartbeats 4000000 in
theorem stand_spec {MA : Option Addr} {mn mc : Nat} {gs : List GR} (hl : Cells w lA (rows.map GR.val)) (hm : Cells w MA (gs.map GR.val)) (hlen : rows.length = ln) (hml : gs.length = mn) (hsm : ln ≤ 1900000000000) (hn : ∀ r ∈ rows, r.n ≤ 4000000) (hS : ReadsB w rows gs) :
    Calls Tryd.prog 31 #[.slice lA ln lc, .slice MA mn mc] w fun e w' => w' = w ∧ e = .returned (.bool true) := by
  refine weirlaw7_stand_of lA ln lc MA mn mc w _ ?_
  unfold weirlaw7_stand_VC
  refine LoopVC.of (fun st w' => w' = w ∧ ∃ i : Nat, st = (i : Int) ∧ i ≤ ln) (fun st _ => ((ln : Int) - st).toNat) ⟨rfl, 0, rfl, Nat.zero_le _⟩ ?_
  rintro _ w1 ⟨hw, i, rfl, hi⟩
  subst w1
  show weirlaw7_stand_L26 _ lA ln MA mn (i : Int) w _
  unfold weirlaw7_stand_L26
  refine Br.dec (fun hlt => ?_) fun hge => ⟨rfl, rfl⟩
  obtain ⟨r, hr⟩ : ∃ r, rows[i]? = some r := ⟨_, List.getElem?_eq_getElem (by omega)⟩
  have hrn := hn _ (List.mem_of_getElem? hr)
  obtain ⟨hb, hd⟩ := hS i r hr
  obtain ⟨q0, hq0, n0, c0⟩ := hd 0 (by decide)
  obtain ⟨q1, hq1, n1, c1⟩ := hd 1 (by decide)
  obtain ⟨q2, hq2, n2, c2⟩ := hd 2 (by decide)
  have e3 : IntKind.i64.wrap (3 * (i : Int)) = ((3 * i + 0 : Nat) : Int) := by rw [w64 (by omega) (by omega)]; omega
  have e31 : IntKind.i64.wrap (((3 * i + 0 : Nat) : Int) + 1) = ((3 * i + 1 : Nat) : Int) := by rw [w64 (by omega) (by omega)]; omega
  have e32 : IntKind.i64.wrap (((3 * i + 0 : Nat) : Int) + 2) = ((3 * i + 2 : Nat) : Int) := by rw [w64 (by omega) (by omega)]; omega
  have e33 : IntKind.i64.wrap (((3 * i + 0 : Nat) : Int) + 3) = ((3 * i + 3 : Nat) : Int) := by rw [w64 (by omega) (by omega)]; omega
  have er : ∀ d : Nat, d ≤ 70 → IntKind.i64.wrap ((r.n : Int) + (d : Int)) = ((r.n + d : Nat) : Int) := fun d hd => by rw [w64 (by omega) (by omega)]; omega
  have e1 : IntKind.i64.wrap ((i : Int) + 1) = ((i + 1 : Nat) : Int) := by rw [w64 (by omega) (by omega)]; omega
  rw [e3, e31, e32]
  refine idx_rows hl hr hlen fun a ha => ⟨_, _, _, ha, ?_⟩
  refine idx_rows hm hq0 hml fun a ha => ⟨_, _, _, ha, Br.no (fun x => x (by rw [n0]; exact (er 1 (by decide)).symm)) ?_⟩
  refine idx_rows hm hq1 hml fun a ha => ⟨_, _, _, ha, Br.no (fun x => x (by rw [n1]; exact (er 2 (by decide)).symm)) ?_⟩
  refine idx_rows hm hq2 hml fun a ha => ⟨_, _, _, ha, Br.no (fun x => x (by rw [n2]; exact (er 70 (by decide)).symm)) ?_⟩
  refine LoopVC.of (fun st w' => w' = w ∧ ∃ d : Nat, st = ((3 * i + d : Nat) : Int) ∧ d ≤ 3) (fun st _ => ((3 * i + 3 : Nat) - st : Int).toNat) ⟨rfl, 0, rfl, by decide⟩ ?_
  rintro _ w2 ⟨hw, d, rfl, hd3⟩
  subst w2
  show weirlaw7_stand_L6734 _ lA ln MA mn (i : Int) _ r.n ((3 * i + d : Nat) : Int) w _
  unfold weirlaw7_stand_L6734
  rw [e3, e33]
  refine Br.dec (fun hk => ?_) fun hk => ?_
  rotate_left
  · rw [e1]
    exact ⟨⟨rfl, i + 1, rfl, by omega⟩, by omega⟩
  obtain ⟨g, hg, hgn, hgc⟩ := hd d (by omega)
  have htc : tC d ≤ 70 := by unfold tC; split <;> decide
  have ek : IntKind.i64.wrap (((3 * i + d : Nat) : Int) + 1) = ((3 * i + (d + 1) : Nat) : Int) := by rw [w64 (by omega) (by omega)]; omega
  refine LoopVC.of (fun st w' => w' = w ∧ ∃ j : Nat, st = (j : Int) ∧ j ≤ g.n) (fun st _ => ((g.n : Int) - st).toNat) ⟨rfl, 0, rfl, Nat.zero_le _⟩ ?_
  rintro _ w3 ⟨hw, j, rfl, hj⟩
  subst w3
  show weirlaw7_stand_L430994 _ lA ln MA mn (i : Int) r.n ((3 * i + d : Nat) : Int) _ (j : Int) w _
  unfold weirlaw7_stand_L430994
  rw [tl_val (i := i) (by omega), mk_val (i := i) (by omega)]
  refine idx_rows hm hg hml fun a ha => ⟨_, _, _, ha, Br.dec (fun hjn => ?_) fun hjn => ?_⟩
  rotate_left
  · rw [ek]
    exact ⟨⟨rfl, d + 1, rfl, by omega⟩, by omega⟩
  have ej : IntKind.i64.wrap ((j : Int) + 1) = ((j + 1 : Nat) : Int) := by rw [w64 (by omega) (by omega)]; omega
  refine JoinVC.of (fun m w' => w' = w ∧ m = if r.n ≤ j then tlI i else mkI i) ?_ ?_
  · exact Br.dec (fun h => ⟨rfl, by rw [if_pos (by omega)]⟩) fun h => ⟨rfl, by rw [if_neg (by omega)]⟩
  rintro m w4 ⟨hw, hmv⟩
  subst w4
  unfold weirlaw7_stand_J13791817
  refine idx_rows hm hg hml fun a ha => ⟨_, _, _, ha, ?_⟩
  refine reads_at hgc hgn.symm (by omega) fun a ha => ⟨_, ha, Br.no (fun x => x hmv.symm) ?_⟩
  rw [ej]
  refine Br.dec (fun hjr => ?_) fun hjr => ⟨⟨rfl, j + 1, rfl, by omega⟩, by omega⟩
  refine idx_rows hl hr hlen fun a ha => ⟨_, _, _, ha, ?_⟩
  refine reads_at (t := 0) (by rw [reps_zero, List.append_nil]; exact hb) (Nat.add_zero _) (by omega) fun a ha => ⟨_, ha, Br.no (fun x => x ?_) ⟨⟨rfl, j + 1, rfl, by omega⟩, by omega⟩⟩
  exact hmv.symm
end
end N6
end Go.Proofs.YtkiogaglmjeplaaDoor
/- Layer 7: what Parse hands out, its memory in parts; the runs of padding. -/
namespace Go.Eng
open Go Go.RowKit
def grB (s : Sl) (l : List Int) : GR := ⟨s.A, s.n, s.k, l.map (.int .u8)⟩
def padO (l : List OptR) : List GR := (l.filter fun o => decide (o.v.kind = 0)).map fun o => grB o.v.data o.data
def padG (xs : List ExtR) : List GR := xs.flatMap fun x => padO x.opts
theorem padO_snoc (l : List OptR) (o : OptR) : padO (l ++ [o]) = padO l ++ (if o.v.kind = 0 then [grB o.v.data o.data] else []) := by
  unfold padO
  rw [List.filter_append, List.map_append]
  by_cases h : o.v.kind = 0
  · rw [if_pos h]; simp [h]
  · rw [if_neg h]; simp [h]
theorem padO_len (l : List OptR) : (padO l).length ≤ l.length := by
  unfold padO; rw [List.length_map]; exact List.length_filter_le _ _
theorem padG_len {B : Nat} : ∀ (xs : List ExtR), (∀ x ∈ xs, x.opts.length ≤ B) → (padG xs).length ≤ xs.length * B
  | [], _ => by simp [padG]
  | x :: xs, h => by
    have h1 := padG_len xs fun y hy => h y (by simp [hy])
    have h2 := h x (by simp)
    have h3 := padO_len x.opts
    have e : padG (x :: xs) = padO x.opts ++ padG xs := rfl
    rw [e, List.length_append, List.length_cons, Nat.add_mul, Nat.one_mul]
    omega
theorem padG_mem {xs : List ExtR} {r : GR} (h : r ∈ padG xs) : ∃ x ∈ xs, ∃ o ∈ x.opts, r = grB o.v.data o.data := by
  obtain ⟨x, hx, h⟩ := List.mem_flatMap.1 h
  obtain ⟨o, ho, rfl⟩ := List.mem_map.1 h
  exact ⟨x, hx, o, (List.mem_filter.1 ho).1, rfl⟩
end Go.Eng
namespace Go.Proofs.YtkiogaglmjeplaaDoor
namespace N6
open Go.Eng Go.RowKit
section
variable {w : World} {Γ : List Fct} {b : Nat} {s : Sl} {l : List Int}
theorem bytes_raw (s : Sl) (l : List Int) : (∀ w, (rowB b s l).φ w → (rawR b 5 1 (grB s l)).φ w) ∧ ∀ k, (rawR b 5 1 (grB s l)).R k → (rowB b s l).R k := own_le_row (A := s.A) (n := s.n) (c := s.k) (Nat.le_refl b)
theorem opts_raw (s : Sl) (rs : List OptR) : (∀ w, (rowO b s rs).φ w → (rawR b 65 2 ⟨s.A, s.n, s.k, (rs.map fun r => r.v.cells).flatten⟩).φ w) ∧ ∀ k, (rawR b 65 2 ⟨s.A, s.n, s.k, (rs.map fun r => r.v.cells).flatten⟩).R k → (rowO b s rs).R k := own_le_row (A := s.A) (n := s.n) (c := s.k) (Nat.le_refl b)
theorem pads_one : ∀ (l : List OptR) {Γ : List Fct}, Sep (Γ ++ l.map (padF b)) w → Sep (Γ ++ (padO l).map (rawR b 5 1)) w
  | [], _, H => H
  | o :: l, Γ, H => by
    have H : Sep (Γ ++ (padF b o :: l.map (padF b))) w := H
    have H := pads_one l (Γ := Γ ++ [padF b o]) (by rw [List.append_assoc]; exact H)
    by_cases hk : o.v.kind = 0
    · have e : padO (o :: l) = grB o.v.data o.data :: padO l := by unfold padO; simp [hk]
      have e2 : padF b o = rowB b o.v.data o.data := by unfold padF; rw [if_pos hk]
      rw [e, List.map_cons]
      rw [e2] at H
      have H := (((AllLe.refl Γ).append (.cons (bytes_raw o.v.data o.data).1 (bytes_raw o.v.data o.data).2 .nil)).append (AllLe.refl _)).sep H
      rw [List.append_assoc] at H
      exact H
    · have e : padO (o :: l) = padO l := by unfold padO; simp [hk]
      rw [e]
      exact H.sub ((List.sublist_append_left Γ _).append (List.Sublist.refl _))
def famO7 (b : Nat) (xs : List ExtR) : List Fct := xs.map fun x => rawR b 65 2 ⟨x.v.opts.A, x.v.opts.n, x.v.opts.k, (x.opts.map fun r => r.v.cells).flatten⟩
theorem read_pads : ∀ (xs : List ExtR) {Γ : List Fct}, Sep (Γ ++ xs.flatMap (readX1 b)) w → Sep (Γ ++ (famO7 b xs ++ (padG xs).map (rawR b 5 1))) w
  | [], _, H => H
  | x :: xs, Γ, H => by
    have H : Sep (Γ ++ (rowO b x.v.opts x.opts :: x.opts.map (padF b) ++ xs.flatMap (readX1 b))) w := H
    obtain ⟨F, hF⟩ : ∃ F, F = xs.flatMap (readX1 b) := ⟨_, rfl⟩
    rw [← hF] at H
    have H := pads_one (b := b) x.opts (Γ := Γ ++ (F ++ [rowO b x.v.opts x.opts])) (H.perm (perm_cnt fun c o h1 h2 h3 => by simp only [h1, h2, h3]; omega))
    have H := ((((AllLe.refl Γ).append ((AllLe.refl F).append (.cons (opts_raw x.v.opts x.opts).1 (opts_raw x.v.opts x.opts).2 .nil)))).append (AllLe.refl _)).sep H
    obtain ⟨O, hO⟩ : ∃ O, O = rawR b 65 2 ⟨x.v.opts.A, x.v.opts.n, x.v.opts.k, (x.opts.map fun r => r.v.cells).flatten⟩ := ⟨_, rfl⟩
    obtain ⟨Y, hY⟩ : ∃ Y, Y = (padO x.opts).map (rawR b 5 1) := ⟨_, rfl⟩
    rw [← hO, ← hY] at H
    have H := read_pads xs (Γ := Γ ++ (O :: Y)) (by
      rw [← hF]
      exact H.perm (perm_cnt fun c o h1 h2 h3 => by simp only [h1, h2, h3]; omega))
    have e1 : famO7 b (x :: xs) = O :: famO7 b xs := by rw [hO]; rfl
    have e2 : (padG (x :: xs)).map (rawR b 5 1) = Y ++ (padG xs).map (rawR b 5 1) := by
      rw [hY]
      show (padO x.opts ++ padG xs).map _ = _
      rw [List.map_append]
    rw [e1, e2]
    exact H.perm (perm_cnt fun c o h1 h2 h3 => by simp only [h1, h2]; omega)
/-- What Parse hands back, and its memory. -/
theorem ParseRead.parts (hB : BytesAt w s l) (hb : b ≤ w.heap.size) (H0 : Sep Γ w) {e : Ending} {w' : World} (h : ParseRead w s l e w') : ∃ (h : Ip6V) (xs : List ExtR) (data : List Int), e = .returned (.tuple #[h.val, .int .i64 (parsed l).2]) ∧ h.d xs data = (parsed l).1 ∧
    Sep (Γ ++ readX b h.exts xs) w' ∧ h.exts.n = xs.length ∧ xs.length ≤ 8 ∧ ∀ w'', BytesAt w'' s l → (∀ f ∈ readX b h.exts xs, f.φ w'') → Ip6At w'' h xs data := by
  obtain ⟨h, xs, H, hn, hm⟩ := h
  have H1 := H0.mades ((AllLe.append (AllLe.refl [Fct.rest w None]) (readX_less hb)).sep H)
  unfold parsed
  cases hp : parseS l with
  | error er =>
    rw [hp] at hm
    obtain ⟨rfl, rfl, rfl, he⟩ := hm
    exact ⟨Ip6V.z, [], [], rfl, rfl, H1, rfl, Nat.zero_le _, fun w'' _ _ => Ip6At.z _⟩
  | ok t =>
    rw [hp] at hm
    obtain ⟨rfl, h40, hA, hd, h1, h2, h3, h4, h5, h6, h7⟩ := hm
    have hwl : (bpart l 40 (lenP l)).length = lenP l := bpart_len h40
    have hp' : walkS (bpart l 40 (lenP l)) (l.getD 6 0) false = .ok t := by
      unfold parseS at hp
      split at hp
      · cases hp
      · split at hp
        · cases hp
        · split at hp
          · cases hp
          · split at hp
            · cases hp
            · exact hp
    obtain ⟨i1, i2, i3, i4⟩ := walkS_inside (hB.win (p := 40) (n := lenP l) h40).bts (getD_byte hB.bts 6) hp'
    have hdl : bpart (bpart l 40 (lenP l)) t.p (lenP l - t.p) = (bpart l 40 (lenP l)).drop t.p := by
      have := bpart_end i2
      rwa [hwl] at this
    have hal := hA.len
    refine ⟨h, xs, (bpart l 40 (lenP l)).drop t.p, rfl, ?_, H1, hn, by omega, fun w'' hB'' hf => ⟨?_, ?_, ?_, ?_⟩⟩
    · unfold Ip6V.d Tail6.d
      rw [hA.map_eq fun x r h => h.d, h1, h2, h3, h4, h5, h6, h7]
      rfl
    · exact extsAt_read hf (hB''.win (p := 40) (n := lenP l) h40) hA i1 hn.symm (by omega)
    · have hdata := (hB''.win (p := 40) (n := lenP l) h40).win (p := t.p) (n := lenP l - t.p) (by omega)
      rw [hdl] at hdata
      rw [hd]; exact hdata
    · rw [h4]; intro x hx
      have e := ipOf_back (v := 6) (l := bpart l 8 16) (bpart_len (by omega))
      rw [e] at hx
      exact (hB.bts.drop _).take _ x hx
    · rw [h5]; intro x hx
      have e := ipOf_back (v := 6) (l := bpart l 24 16) (bpart_len (by omega))
      rw [e] at hx
      exact (hB.bts.drop _).take _ x hx
/-- One list of bytes more. -/
theorem step_pad {w0 : World} {n c : Nat} {A : Option Addr} {xs : List GR} {x : GR} (H : Sep [Fct.own b 22 1 (.slice A n c) n (xs.map GR.val), Fct.rest w0 None] w) (hx : xs.length = n) (hn : n ≤ 1000000000000) (hb : b ≤ w0.heap.size)
    {F : Option Addr → Nat → Nat → World → Prop} (h : ∀ A2 c2 w', Sep [Fct.own b 22 1 (.slice A2 (n + 1) c2) (n + 1) ((xs ++ [x]).map GR.val), Fct.rest w0 None] w' → (xs ++ [x]).length = n + 1 → F A2 (n + 1) c2 w') :
    NewVC w (.cells #[.slice x.A x.n x.c] 22) fun g w1 => AppVC Tryd.prog #[60, 60] 60 (.slice A n c) (.slice (some ⟨g, 0, none⟩) 1 1) w1 F := by
  refine NewVC.sep H fun g w1 H => ?_
  have hz := (H.restOf 1 rfl).size
  refine AppVC.sep H 0 Tryd.underlying60 tSl rfl (by decide) rfl (Cells.blk0 (H.blk 2 rfl)) rfl (fun v hv => by simp at hv; subst hv; rfl) (by omega) (by decide) (by omega) fun A2 c2 w' H' _ => ?_
  have H' := H'.take 2
  refine h A2 c2 w' ?_ (by simp [hx])
  rw [List.map_append]; exact H'
set_option maxHeartbeats 4000000 in
theorem gathered_spec {xs : List ExtR} (hX : ExtsAt w s xs) (hN : (padG xs).length ≤ 900000000000) : Calls Tryd.prog 29 #[s.val] w fun e w' => ∃ A c, e = .returned (.slice A (padG xs).length c) ∧ Sep [Fct.own w.heap.size 22 1 (.slice A (padG xs).length c) (padG xs).length ((padG xs).map GR.val), Fct.rest w None] w' := by
  refine weirlaw7_gathered_of s.A s.n s.k w _ ?_
  unfold weirlaw7_gathered_VC
  have hl := hX.len
  have hs := hX.small
  refine LoopVC.of (fun st w' => ∃ i : Nat, st.2 = (i : Int) ∧ i ≤ s.n ∧ st.1.2.1 = (padG (xs.take i)).length ∧ Sep [Fct.own w.heap.size 22 1 (.slice st.1.1 st.1.2.1 st.1.2.2) st.1.2.1 ((padG (xs.take i)).map GR.val), Fct.rest w None] w') (fun st _ => ((s.n : Int) - st.2).toNat)
    ⟨0, rfl, Nat.zero_le _, rfl, ((Sep.start0 w).nil _ _ _).front⟩ ?_
  rintro ⟨⟨A1, n1, q1⟩, _⟩ w1 ⟨i, rfl, hi, hn1, H⟩
  simp only at hn1
  have H : Sep [Fct.own w.heap.size 22 1 (.slice A1 n1 q1) n1 ((padG (xs.take i)).map GR.val), Fct.rest w None] w1 := H
  show weirlaw7_gathered_L58 _ s.A s.n A1 n1 q1 (i : Int) w1 _
  unfold weirlaw7_gathered_L58
  have hpre : ∀ {i : Nat} {x : ExtR}, xs[i]? = some x → padG xs = padG (xs.take i) ++ (padO x.opts ++ padG (xs.drop (i + 1))) := fun {i x} hx => by
    conv => lhs; rw [← List.take_append_drop i xs, drop_consA hx]
    unfold padG
    rw [List.flatMap_append, List.flatMap_cons]
  have at1 : ∀ {w' : World} {i : Nat} {x : ExtR}, Ext w w' → xs[i]? = some x → ∀ {F : Addr → Prop}, (∀ a, CellsAt w' a 0 x.v.cells → F a) → IdxVC s.A s.n 3 (i : Int) F := fun {w' i x} hE hx {F} hF =>
    ExtsAt.idxD (w := w') (S := fun w' => ExtsAt w' s xs) (hX.ext hE) (fun w' h => h) hx fun a ha => hF a (ha _ (hX.ext hE))
  refine Br.dec (fun hlt => ?_) fun hge => ?_
  rotate_left
  · have hin : i = s.n := by omega
    rw [List.take_of_length_le (by omega)] at hn1 H
    subst hn1
    exact ⟨A1, q1, rfl, H⟩
  obtain ⟨x, hx⟩ : ∃ x, xs[i]? = some x := ⟨_, List.getElem?_eq_getElem (by omega)⟩
  have hxm := List.mem_of_getElem? hx
  have e1 : IntKind.i64.wrap ((i : Int) + 1) = ((i + 1 : Nat) : Int) := by rw [w64 (by omega) (by omega)]; omega
  have hO := hX.opts x hxm
  have hol := hO.len
  have hos := hO.small
  have hlen := congrArg List.length (hpre hx)
  simp only [List.length_append] at hlen
  refine LoopVC.of (fun st w' => ∃ k : Nat, st.2 = (k : Int) ∧ k ≤ x.opts.length ∧ st.1.2.1 = (padG (xs.take i) ++ padO (x.opts.take k)).length ∧ Sep [Fct.own w.heap.size 22 1 (.slice st.1.1 st.1.2.1 st.1.2.2) st.1.2.1 ((padG (xs.take i) ++ padO (x.opts.take k)).map GR.val), Fct.rest w None] w') (fun st _ => ((x.opts.length : Int) - st.2).toNat)
    ⟨0, rfl, Nat.zero_le _, by simpa [padO] using hn1, by simpa [padO] using H⟩ ?_
  rintro ⟨⟨A2, n2, q2⟩, _⟩ w2 ⟨k, rfl, hk, hn2, H⟩
  simp only at hn2
  have H : Sep [Fct.own w.heap.size 22 1 (.slice A2 n2 q2) n2 ((padG (xs.take i) ++ padO (x.opts.take k)).map GR.val), Fct.rest w None] w2 := H
  show weirlaw7_gathered_L3730 s.A s.n (i : Int) _ A2 n2 q2 (k : Int) w2 _
  unfold weirlaw7_gathered_L3730
  have hE := H.restOf 1 rfl
  refine at1 hE hx fun a ha => ⟨_, _, _, c1 ha, Br.dec (fun hk1 => ?_) fun hk1 => ?_⟩
  · obtain ⟨o, ho⟩ : ∃ o, x.opts[k]? = some o := ⟨_, List.getElem?_eq_getElem (by omega)⟩
    have e2 : IntKind.i64.wrap ((k : Int) + 1) = ((k + 1 : Nat) : Int) := by rw [w64 (by omega) (by omega)]; omega
    have at2 : ∀ {w' : World}, Ext w w' → ∀ {F : Addr → Prop}, (∀ a, CellsAt w' a 0 o.v.cells → F a) → IdxVC x.v.opts.A x.v.opts.n 2 (k : Int) F := fun {w'} hE {F} hF =>
      OptsAt.idxD (w := w') (S := fun w' => OptsAt w' x.v.opts x.opts) (hO.ext hE) (fun w' h => h) ho fun a ha => hF a (ha _ (hO.ext hE))
    refine at1 hE hx fun a ha => ⟨_, _, _, c1 ha, at2 hE fun a ha => ⟨_, c0 ha, Br.dec (fun h0 => ?_) fun h0 => ?_⟩⟩
    · refine at1 hE hx fun a ha => ⟨_, _, _, c1 ha, at2 hE fun a ha => ⟨_, _, _, c1 ha, ?_⟩⟩
      have hpl : (padO (x.opts.take (k + 1))).length ≤ (padO x.opts).length := by
        conv => rhs; rw [← List.take_append_drop (k + 1) x.opts]
        unfold padO
        rw [List.filter_append, List.map_append, List.length_append]; omega
      have e5 : padO (x.opts.take (k + 1)) = padO (x.opts.take k) ++ [grB o.v.data o.data] := by rw [take_snocA ho, padO_snoc, if_pos h0]
      have hl5 := congrArg List.length e5
      rw [List.length_append, List.length_singleton] at hl5
      rw [List.length_append] at hn2
      refine step_pad (x := grB o.v.data o.data) H (by rw [List.length_append]; exact hn2.symm) (by omega) (Nat.le_refl _) fun A3 c3 w3 H hl3 => ?_
      refine ⟨⟨k + 1, e2, by omega, ?_, ?_⟩, by simp only [e2]; omega⟩
      · rw [e5, ← List.append_assoc]; exact hl3.symm
      · rw [e5, ← List.append_assoc]; exact H
    · have e5 : padO (x.opts.take (k + 1)) = padO (x.opts.take k) := by rw [take_snocA ho, padO_snoc, if_neg h0, List.append_nil]
      refine ⟨⟨k + 1, e2, by omega, ?_, ?_⟩, by simp only [e2]; omega⟩
      · rw [e5]; exact hn2
      · rw [e5]; exact H
  · have hkn : k = x.opts.length := by omega
    have e5 : padG (xs.take (i + 1)) = padG (xs.take i) ++ padO (x.opts.take k) := by
      rw [take_snocA hx, List.take_of_length_le (l := x.opts) (by omega)]
      unfold padG
      rw [List.flatMap_append]; simp
    refine ⟨⟨i + 1, e1, by omega, ?_, ?_⟩, by simp only [e1]; omega⟩
    · rw [e5]; exact hn2
    · rw [e5]; exact H
end
end N6
end Go.Proofs.YtkiogaglmjeplaaDoor
/- Ip6Own: what is no window is the caller's own. -/
namespace Go.Eng
open Go Go.RowKit
section
variable {w w' : World} {M : Nat → Prop}
/-- One part, wherever it stands, is changed. -/
theorem Sep.modAt {l1 l2 : List Fct} {f : Fct} (H : Sep (l1 ++ f :: l2) w) (h : Mod M w w') (hM : ∀ k, k < w.heap.size → M k → f.R k) (f' : Fct) (hφ : f'.φ w') (hR : ∀ k, f'.R k → f.R k ∨ (w.heap.size ≤ k ∧ k < w'.heap.size)) : Sep (l1 ++ f' :: l2) w' := by
  have hi : (l1 ++ f :: l2)[l1.length]? = some f := by simp
  have := H.mod l1.length hi h hM f' hφ hR
  simpa using this
/-- A cell of a row of the call's own is written. -/
theorem SetVC.ownCell {b e size n c : Nat} {A : Option Addr} {xs : List Value} {j : Nat} {v : Value} {F : World → Prop} {a : Addr} (ho : w.ownsRow b e size (.slice A n c) n xs) (ha : A = some a) (hj : j < xs.length)
    (h : ∀ w', Mod (fun k => (Value.slice A n c).ownBlock = some k) w w' → w'.heap.size = w.heap.size → w'.ownsRow b e size (.slice A n c) n (xs.set j v) → F w') : SetVC w (a.add j) v F := by
  rcases ho.2 with ⟨hv, _⟩ | ⟨g, cap, cur, hv, hb, hg, hnc, hcm, hcs, ht⟩
  · injection hv with h1 _ _
    rw [h1] at ha; cases ha
  · injection hv with h1 _ h3
    rw [h1] at ha; cases ha
    subst h3
    rw [addr_add, Nat.zero_add]
    have hB : Blk w g e cur.toList := by unfold Blk; simpa using hg
    have hlen := ho.1
    have hjc : j < cur.toList.length := by
      have := congrArg List.length ht
      rw [List.length_take] at this
      omega
    refine SetVC.blk hB hjc fun w' hz hm hb' => h w' (hm.mono fun k _ e => by subst e; rw [h1]; rfl) hz ⟨by rw [List.length_set]; exact hlen, .inr ⟨g, c, (cur.toList.set j v).toArray, by rw [h1], hb, by unfold Blk at hb'; simpa using hb', hnc, hcm, by simpa using hcs, ?_⟩⟩
    rw [← ht]
    simp only [List.take_set]
end
theorem flat_set {k : Int} : ∀ (vs : List ExtV) (i : Nat) (v : ExtV), vs[i]? = some v → ((vs.map ExtV.cells).flatten).set (i * 3) (.int .i64 k) = ((vs.set i { v with kind := k }).map ExtV.cells).flatten
  | [], i, v, h => by simp at h
  | x :: vs, 0, v, h => by
    injection h with h
    subst h
    rfl
  | x :: vs, i + 1, v, h => by
    have ih := flat_set (k := k) vs i v h
    rw [List.set_cons_succ, List.map_cons, List.map_cons, List.flatten_cons, List.flatten_cons, ← ih]
    have hl : x.cells.length = 3 := rfl
    rw [List.set_append_right _ _ (by omega)]
    congr 2
    omega
/-- The headers and the lists of options, as they are changed. -/
structure Bend (vs : List ExtV) (os : List GR) (n : Nat) : Prop where
  lv : vs.length = n
  lo : os.length = n
  at_ : ∀ (j : Nat) (v : ExtV) (o : GR), vs[j]? = some v → os[j]? = some o → o.A = v.opts.A ∧ o.n = v.opts.n ∧ o.c = v.opts.k
  small : ∀ v ∈ vs, v.opts.n ≤ 4000000
theorem Bend.next {vs : List ExtV} {os : List GR} {n i : Nat} {v : ExtV} {o o' : GR} {k : Int} (h : Bend vs os n) (hv : vs[i]? = some v) (ho : os[i]? = some o) (e : o'.A = o.A ∧ o'.n = o.n ∧ o'.c = o.c) : Bend (vs.set i { v with kind := k }) (os.set i o') n := by
  refine ⟨by rw [List.length_set]; exact h.lv, by rw [List.length_set]; exact h.lo, fun j u q hu hq => ?_, fun u hu => ?_⟩
  · have hvi := (List.getElem?_eq_some_iff.1 hv).1
    have hoi := (List.getElem?_eq_some_iff.1 ho).1
    obtain ⟨a1, a2, a3⟩ := h.at_ i v o hv ho
    by_cases hj : i = j
    · subst hj
      rw [List.getElem?_set_self hvi] at hu
      rw [List.getElem?_set_self hoi] at hq
      injection hu with hu
      injection hq with hq
      subst hu; subst hq
      exact ⟨e.1.trans a1, e.2.1.trans a2, e.2.2.trans a3⟩
    · rw [List.getElem?_set_ne hj] at hu hq
      exact h.at_ j u q hu hq
  · rcases List.mem_or_eq_of_mem_set hu with hu | hu
    · exact h.small u hu
    · subst hu; exact h.small v (List.mem_of_getElem? hv)
structure OX where
  g1 : Nat
  g2 : Nat
  g4 : Nat
  g5 : Nat
  g8 : Nat
  h : Ip6V
  es : List ExtR
  dt : List Int
  s : Sl
  l : List Int
  rA : Ip6R
  tx : Sl
  ws : Sl
  pt : Sl
  a : Ip6V
  c : Ip6V
  xs : List ExtR
  ds : List Int
  rO : Ip6R
  lA : Option Addr
  lc : Nat
  mA : Option Addr
  mc : Nat
  rows : List GR
  gs : List GR
end Go.Eng
namespace Go.Proofs.YtkiogaglmjeplaaDoor
namespace N6
open Go.Eng Go.RowKit
section
variable {w w' : World} {Γ : List Fct} {b : Nat} {s : Sl} {l : List Int}
theorem row_less {b' e size n c : Nat} {A : Option Addr} {xs : List Value} (h : b' ≤ b) : (∀ w, (Fct.row b e size A c n xs).φ w → (Fct.row b' e size A c n xs).φ w) ∧ ∀ k, (Fct.row b' e size A c n xs).R k → (Fct.row b e size A c n xs).R k := ⟨fun _ h' => Row.low h' h, fun _ h => h⟩
theorem Made.more {r : List Int × Int} {e : Ending} (H : Sep Γ w) (hb : b ≤ w.heap.size) (h : Made w r e w') : ∃ A c, e = .returned (.tuple #[.slice A r.1.length c, .int .i64 r.2]) ∧ Sep (Γ ++ [rawR b 5 1 (grB ⟨A, r.1.length, c⟩ r.1)]) w' := by
  obtain ⟨A, c, rfl, H'⟩ := h
  have H' := (AllLe.append (AllLe.refl [Fct.rest w None]) (.cons (row_less hb).1 (row_less hb).2 .nil)).sep (H'.ownRow 1 rfl)
  exact ⟨A, c, rfl, H.mades H'⟩
theorem MadeW.more {r : List Int × Int} {e : Ending} (H : Sep Γ w) (hb : b ≤ w.heap.size) (h : MadeW w r e w') : ∃ A c, e = .returned (.tuple #[.slice A r.1.length c, .int .i64 r.2]) ∧ Sep (Γ ++ [rawR b 5 1 (grB ⟨A, r.1.length, c⟩ r.1)]) w' := by
  obtain ⟨A, c, rfl, H'⟩ := h
  have H' := (AllLe.append (AllLe.refl [Fct.rest w None]) (.cons (row_less hb).1 (row_less hb).2 .nil)).sep (H'.winRow 1 rfl)
  exact ⟨A, c, rfl, H.mades H'⟩
theorem bytesAt_raw (h : (rawR b 5 1 (grB s l)).φ w) (hl : l.length = s.n) (hs : s.n ≤ 4000000) (hB : Bts l) : BytesAt w s l := ⟨hl, Row.le h, hs, hB, Row.cells h⟩
/-- Bytes are copied into new memory. -/
theorem copy_new {w0 : World} (H : Sep (Fct.rest w0 None :: Γ) w) (hb : b ≤ w0.heap.size) (hB : BytesAt w s l) {F : Option Addr → Nat → Nat → World → Prop} (hF : ∀ A c w', Sep (Fct.rest w0 None :: (Γ ++ [rowB b ⟨A, s.n, c⟩ l])) w' → F A s.n c w') :
    NewVC w (.cells #[] 5) fun g w1 => AppVC Tryd.prog #[22, 22] 22 (.slice (some ⟨g, 0, none⟩) 0 0) (.slice s.A s.n s.k) w1 F := by
  refine NewVC.sepE (cs := []) H fun g w1 hE H => ?_
  have H := H.front
  have hz := (H.restOf 1 rfl).size
  have hg := H.fresh 1 0 (by decide) rfl rfl
  have H := H.blkOwn 0 rfl (b := b) (n := 0) (c := 0) (Nat.le_trans hb hg) rfl (Nat.le_refl _) (by decide)
  have hs := hB.small
  refine appB (m := s.n) (xs := []) (ys := l) H 0 rfl (hB.ext hE).cells hB.len (by omega) (by omega) fun A2 c2 w8 H hc2 => ?_
  rw [Nat.zero_add] at H ⊢
  have H : Sep (rowB b ⟨A2, s.n, c2⟩ l :: Fct.rest w0 None :: Γ) w8 := H
  exact hF A2 c2 w8 (H.perm (perm_cnt fun c o h1 h2 h3 => by simp only [h1, h2, h3]; omega))
theorem idxE {n : Nat} {A : Option Addr} {vs : List ExtV} {i : Nat} {v : ExtV} (hc : Cells w A (vs.map ExtV.cells).flatten) (hl : vs.length = n) (hv : vs[i]? = some v) {F : Addr → Prop} (hF : ∀ a, CellsAt w a 0 v.cells → F a) : IdxVC A n 3 (i : Int) F :=
  IdxVC.recD (w := w) (fun w3 => w3 = w) rfl (fun w3 e => by
    rw [e]
    exact Recs.of_cells (by decide) (fun r hr => by obtain ⟨y, _, rfl⟩ := List.mem_map.1 hr; rfl) hc) (by rw [List.length_map]; exact hl) (cs := v.cells) (by rw [List.getElem?_map, hv]; rfl) fun a ha => hF a (ha w rfl)
/-- The first cell of a record of a row of the call's own is written. -/
theorem kind_at {l1 l2 : List Fct} {s : Sl} {xs : List Value} {b e size i : Nat} {v : Value} {K : World → Prop} (H : Sep (l1 ++ Fct.own b e size s.val s.n xs :: l2) w) (hi : i < s.n) (h0 : 0 < size)
    (hK : ∀ w', Sep (l1 ++ Fct.own b e size s.val s.n (xs.set (i * size) v) :: l2) w' → K w') : IdxVC s.A s.n size (i : Int) fun a => SetVC w a v K := by
  have ho : w.ownsRow b e size s.val s.n xs := H.mem (f := Fct.own b e size s.val s.n xs) (by simp)
  have hlen := ho.1
  have hlt : i * size < xs.length := by
    rw [hlen]
    exact Nat.mul_lt_mul_of_pos_right hi h0
  have hc : Cells w s.A xs := own_cells (A := s.A) (c := s.k) ho
  obtain ⟨a, ha, _⟩ := hc.at hlt
  refine ⟨a, ha, by omega, by omega, ?_⟩
  rw [Int.toNat_natCast]
  refine SetVC.ownCell (A := s.A) (n := s.n) (c := s.k) ho ha hlt fun w' hm hz ho' => hK w' (H.modAt hm (fun k _ e => e) _ ho' fun k hk => .inl hk)
/-- What is read. -/
structure OwnR (C : OX) (w w' : World) : Prop where
  ext : Ext w w'
  b1 : Blk w' C.g1 30 C.h.cells
  b2 : Blk w' C.g2 30 C.rA.v.cells
  b4 : Blk w' C.g4 30 C.a.cells
  b5 : Blk w' C.g5 30 C.c.cells
  b8 : Blk w' C.g8 30 C.rO.v.cells
  hin : Ip6At w' C.rA.v C.rA.exts C.rA.data
  tx : BytesAt w' C.tx C.l
  ws : BytesAt w' C.ws (ser6S (C.h.d C.es C.dt)).1
  pt : BytesAt w' C.pt (putChainS (C.es.map ExtR.d) 59).1
  c : Ip6At w' C.c C.xs C.ds
  old : Ip6At w' C.rO.v C.rO.exts C.rO.data
  cl : Cells w' C.lA (C.rows.map GR.val)
  cm : Cells w' C.mA (C.gs.map GR.val)
  cs : ReadsB w' C.rows C.gs
set_option maxHeartbeats 8000000 in
theorem own_loop {C : OX} {FX : List Fct} {se : Sl} {n : Nat} {vs : List ExtV} {os : List GR} (hA : Ip6At w C.h C.es C.dt) (hB : BytesAt w C.s C.l) (hK : Kn w) (_h0 : FX[0]? = some (Fct.rest w None)) (hb : b ≤ w.heap.size) (rd : ∀ w', (∀ f ∈ FX, f.φ w') → OwnR C w w')
    (hr : C.rows.length = n) (hg : C.gs.length = 3 * n) (hn : n ≤ 1900000000000) (hsm : ∀ r ∈ C.rows, r.n ≤ 4000000) (hse : C.a.exts = se) (hs8 : se.n ≤ 8) (hrA : C.rA.d = C.h.d C.es C.dt) (hcd : C.c.d C.xs C.ds = (parsed C.l).1) (hro : C.rO.d = (parsed C.l).1) (hon : C.rO.v.exts.n = se.n)
    (hV : Bend vs os se.n) (H : Sep (FX ++ (Fct.own b 54 3 se.val se.n (vs.map ExtV.cells).flatten :: os.map (rawR b 65 2))) w') {R : Ending → World → Prop} (hR : ∀ w'', Ext w w'' → R (.returned (.bool true)) w'') :
    LoopVC (S := Int) (fun s_ w31 K => weirlaw7_Ip6Own_L524282 R C.s.A C.s.n C.s.k C.g1 C.g2 C.tx.A C.tx.n C.tx.k C.g4 C.g5 C.ws.A C.ws.n C.ws.k C.pt.A C.pt.n C.pt.k C.g8 C.lA n C.lc C.mA (3 * n) C.mc s_ w31 K) 0 w' := by
  refine LoopVC.of (fun st w' => ∃ (i : Nat) (vs : List ExtV) (os : List GR), st = (i : Int) ∧ i ≤ se.n ∧ Bend vs os se.n ∧ Sep (FX ++ (Fct.own b 54 3 se.val se.n (vs.map ExtV.cells).flatten :: os.map (rawR b 65 2))) w') (fun st _ => ((se.n : Int) - st).toNat)
    ⟨0, vs, os, rfl, Nat.zero_le _, hV, H⟩ ?_
  clear hV H
  rintro _ w1 ⟨i, vs, os, rfl, hi, hV, H⟩
  show weirlaw7_Ip6Own_L524282 R C.s.A C.s.n C.s.k C.g1 C.g2 C.tx.A C.tx.n C.tx.k C.g4 C.g5 C.ws.A C.ws.n C.ws.k C.pt.A C.pt.n C.pt.k C.g8 C.lA n C.lc C.mA (3 * n) C.mc (i : Int) w1 _
  unfold weirlaw7_Ip6Own_L524282
  have rf : ∀ {Y : List Fct} {w' : World}, Sep (FX ++ Y) w' → OwnR C w w' := fun {Y w'} H => rd w' fun f hf => H.mem (List.mem_append_left _ hf)
  have c4 : ∀ {w' : World}, OwnR C w w' → w'.cell? ⟨C.g4, 37, none⟩ = some (.slice se.A se.n se.k) := fun {w'} U => by
    have := U.b4.cell 37
    rw [this, ← hse]; rfl
  have U := rf H
  refine ⟨_, _, _, c4 U, Br.dec (fun hlt => ?_) fun hge => ?_⟩
  · obtain ⟨v, hv⟩ : ∃ v, vs[i]? = some v := ⟨_, List.getElem?_eq_getElem (by have := hV.lv; omega)⟩
    obtain ⟨o, ho⟩ : ∃ o, os[i]? = some o := ⟨_, List.getElem?_eq_getElem (by have := hV.lo; omega)⟩
    obtain ⟨a1, a2, a3⟩ := hV.at_ i v o hv ho
    have hvs := hV.small v (List.mem_of_getElem? hv)
    have e1 : IntKind.i64.wrap ((i : Int) + 1) = ((i + 1 : Nat) : Int) := by rw [w64 (by omega) (by omega)]; omega
    obtain ⟨oA, on, oc, oxs⟩ := o
    simp only at a1 a2 a3
    subst a1; subst a2; subst a3
    obtain ⟨E, hE⟩ : ∃ E, E = Fct.own b 54 3 se.val se.n (vs.map ExtV.cells).flatten := ⟨_, rfl⟩
    obtain ⟨X, hX⟩ : ∃ X, X = (os.take i).map (rawR b 65 2) := ⟨_, rfl⟩
    obtain ⟨Y, hY⟩ : ∃ Y, Y = (os.drop (i + 1)).map (rawR b 65 2) := ⟨_, rfl⟩
    have eo : os.map (rawR b 65 2) = X ++ rawR b 65 2 ⟨v.opts.A, v.opts.n, v.opts.k, oxs⟩ :: Y := by
      conv => lhs; rw [← List.take_append_drop i os, drop_consA ho]
      rw [List.map_append, List.map_cons, hX, hY]
    rw [← hE, eo] at H
    have H : Sep (Fct.row b 65 2 v.opts.A v.opts.k v.opts.n oxs :: (FX ++ (E :: (X ++ Y)))) w1 := H.perm (perm_cnt fun c o h1 h2 h3 => by simp only [h1, h2, rawR]; omega)
    refine LoopVC.of (fun st w' => ∃ (k : Nat) (zs : List Value), st = (k : Int) ∧ k ≤ v.opts.n ∧ Sep (Fct.row b 65 2 v.opts.A v.opts.k v.opts.n zs :: (FX ++ (E :: (X ++ Y)))) w') (fun st _ => ((v.opts.n : Int) - st).toNat)
      ⟨0, oxs, rfl, Nat.zero_le _, H⟩ ?_
    clear H
    rintro _ w2 ⟨k, zs, rfl, hk, H⟩
    show weirlaw7_Ip6Own_L67108130 C.g4 (i : Int) _ (k : Int) w2 _
    unfold weirlaw7_Ip6Own_L67108130
    have U := rf H.tail
    have hcE : Cells w2 se.A (vs.map ExtV.cells).flatten := by
      have := H.mem (f := E) (List.mem_cons_of_mem _ (List.mem_append_right _ List.mem_cons_self))
      rw [hE] at this
      exact own_cells (A := se.A) (c := se.k) this
    refine ⟨_, _, _, c4 U, idxE hcE hV.lv hv fun a ha => ⟨_, _, _, c1 ha, Br.dec (fun hk1 => ?_) fun hk1 => ?_⟩⟩
    · have e2 : IntKind.i64.wrap ((k : Int) + 1) = ((k + 1 : Nat) : Int) := by rw [w64 (by omega) (by omega)]; omega
      refine ⟨_, _, _, c4 U, idxE hcE hV.lv hv fun a ha => ⟨_, _, _, c1 ha, ?_⟩⟩
      refine IdxVC.rowSep H 0 rfl (by omega) (by omega) (by decide) fun a ha => ha _ _ rfl (by simp [Value.oneCell']) fun w3 H3 => ?_
      exact ⟨⟨k + 1, _, e2, by omega, H3⟩, by rw [e2]; omega⟩
    · refine ⟨_, _, _, c4 U, ?_⟩
      have H : Sep (FX ++ Fct.own b 54 3 se.val se.n (vs.map ExtV.cells).flatten :: (X ++ (rawR b 65 2 ⟨v.opts.A, v.opts.n, v.opts.k, zs⟩ :: Y))) w2 := by
        rw [← hE]
        exact H.perm (perm_cnt fun c o h1 h2 h3 => by simp only [h1, h2, rawR]; omega)
      refine kind_at H (by omega) (by decide) fun w3 H => ?_
      rw [flat_set vs i v hv] at H
      refine ⟨⟨i + 1, vs.set i { v with kind := -2 }, os.set i ⟨v.opts.A, v.opts.n, v.opts.k, zs⟩, e1, by omega, hV.next hv ho ⟨rfl, rfl, rfl⟩, ?_⟩, by rw [e1]; omega⟩
      have es : (os.set i ⟨v.opts.A, v.opts.n, v.opts.k, zs⟩).map (rawR b 65 2) = X ++ rawR b 65 2 ⟨v.opts.A, v.opts.n, v.opts.k, zs⟩ :: Y := by
        rw [List.set_eq_take_append_cons_drop, if_pos (List.getElem?_eq_some_iff.1 ho).1, List.map_append, List.map_cons, hX, hY]
      rw [es]
      exact H
  have hin : i = se.n := by omega
  subst hin
  obtain ⟨O, hO⟩ : ∃ O, O = os.map (rawR b 65 2) := ⟨_, rfl⟩
  rw [← hO] at H
  refine ⟨_, _, _, c4 U, ?_⟩
  have hz : ∀ {Y : List Fct} {w' : World}, Sep (FX ++ Y) w' → b ≤ w'.heap.size := fun H => Nat.le_trans hb (rf H).ext.size
  have H := H.mid
  refine NewVC.sep (cs := (⟨-3, Sl.z, Sl.z⟩ : ExtV).cells) H fun g10 w2 H => ?_
  have hz2 := hz (Y := O ++ [Fct.blk g10 54 (⟨-3, Sl.z, Sl.z⟩ : ExtV).cells]) (w' := w2) (by rw [← List.append_assoc]; exact H.tail)
  refine AppVC.sep (m := 1) H 0 Tryd.underlying26 tE rfl (by decide) rfl (Cells.blk0 (H.mem (f := Fct.blk g10 54 (⟨-3, Sl.z, Sl.z⟩ : ExtV).cells) (List.mem_append_right _ List.mem_cons_self))) rfl (ExtV.one _) (by omega) (by decide) hz2 fun A3 c3 w3 H _ => ?_
  have H : Sep (Fct.own b 54 3 (.slice A3 (se.n + 1) c3) (se.n + 1) ((vs ++ [(⟨-3, Sl.z, Sl.z⟩ : ExtV)]).map ExtV.cells).flatten :: (FX ++ O)) w3 := by
    have e : ((vs ++ [(⟨-3, Sl.z, Sl.z⟩ : ExtV)]).map ExtV.cells).flatten = (vs.map ExtV.cells).flatten ++ (⟨-3, Sl.z, Sl.z⟩ : ExtV).cells := by rw [List.map_append, List.flatten_append]; simp
    rw [e]
    have H : Sep ((_ :: (FX ++ O)) ++ [_]) w3 := H
    exact H.dropEnd
  have U := rf H.tail
  refine Ip6V.of C.h ⟨CellsAt.blk U.b1, ?_⟩
  refine (ser_at (hA.ext U.ext) (hK.ext U.ext)).mono ?_
  rintro _ w4 ⟨s3, rfl, hb3, hE⟩
  have H := H.ext hE
  have U := rf H.tail
  refine ⟨_, _, _, _, rfl, _, _, _, U.b1.cell 37, ?_⟩
  refine (put_at (next := 59) (hA.exts.ext U.ext) (hK.ext U.ext)).mono ?_
  rintro _ w5 ⟨s4, rfl, hb4, hE⟩
  have H := H.ext hE
  have hb3 := hb3.ext hE
  have U := rf H.tail
  refine ⟨_, _, _, _, rfl, ?_⟩
  refine (parse_at (hB.ext U.ext) (hK.ext U.ext)).mono ?_
  rintro _ w6 ⟨h3, x3, d3, rfl, hd3, at3, hE⟩
  have H := H.ext hE
  have hb3 := hb3.ext hE
  have hb4 := hb4.ext hE
  refine onRet_is (Ip6V.of h3 ⟨_, rfl, NewVC.sep (Sep.start0 w6) fun g11 w7 H7 => Stores.sep H7 1 rfl (Ip6V.one _) (Nat.le_refl _) (splice_all rfl) fun w8 H7 => ?_⟩)
  have hE := H7.restOf 0 rfl
  have b11 := H7.blk 1 rfl
  have H := H.ext hE
  have hb3 := hb3.ext hE
  have hb4 := hb4.ext hE
  have at3 := at3.ext hE
  have U := rf H.tail
  refine (alike7_spec hb3 U.ws).mono ?_
  rintro _ w9 ⟨hw, rfl⟩
  subst w9
  refine ⟨_, rfl, Br.f (by simp) ?_⟩
  refine (alike7_spec hb4 U.pt).mono ?_
  rintro _ w9 ⟨hw, rfl⟩
  subst w9
  refine ⟨_, rfl, Br.f (by simp) (Ip6V.of h3 ⟨CellsAt.blk b11, Ip6V.of C.rO.v ⟨CellsAt.blk U.b8, ?_⟩⟩)⟩
  have hro' : C.rO.v.d C.rO.exts C.rO.data = (parsed C.l).1 := hro
  refine (same6_spec at3 U.old).mono ?_
  rintro _ w10 ⟨x, rfl, hx, hE⟩
  have hxt := hx.2 (hd3.trans hro'.symm)
  subst hxt
  have H := H.ext hE
  have U := rf H.tail
  refine ⟨_, rfl, Br.f rfl (Ip6V.of C.c ⟨CellsAt.blk U.b5, Ip6V.of C.rO.v ⟨CellsAt.blk U.b8, ?_⟩⟩)⟩
  refine (same6_spec U.c U.old).mono ?_
  rintro _ w11 ⟨x, rfl, hx, hE⟩
  have hxt := hx.2 (hcd.trans hro'.symm)
  subst hxt
  have H := H.ext hE
  have U := rf H.tail
  refine ⟨_, rfl, Br.f rfl ?_⟩
  refine (started7_spec (hK.ext U.ext)).mono ?_
  rintro _ w12 ⟨hE, rfl⟩
  have H := H.ext hE
  have U := rf H.tail
  refine ⟨_, rfl, Br.t rfl ?_⟩
  refine (stand_spec U.cl U.cm hr hg hn hsm U.cs).mono ?_
  rintro _ w13 ⟨hw, rfl⟩
  subst w13
  have hcE : Cells w12 A3 ((vs ++ [(⟨-3, Sl.z, Sl.z⟩ : ExtV)]).map ExtV.cells).flatten := own_cells (H.own 0 rfl)
  have hlv := hV.lv
  refine ⟨_, rfl, Br.t rfl ⟨_, _, _, U.b8.cell 37, Br.yes ?_ ⟨_, _, _, U.b8.cell 37, ?_⟩⟩⟩
  · show ((se.n + 1 : Nat) : Int) = IntKind.i64.wrap ((C.rO.v.exts.n : Int) + 1)
    rw [hon, w64 (by omega) (by omega)]; omega
  rw [hon]
  refine idxE hcE (by simp [hlv]) (by rw [← hlv, List.getElem?_append_right (Nat.le_refl _), Nat.sub_self]; rfl) fun a ha => ⟨_, c0 ha, Br.yes rfl ?_⟩
  refine (alike7_spec (hB.ext U.ext) U.tx).mono ?_
  rintro _ w13 ⟨hw, rfl⟩
  subst w13
  refine ⟨_, rfl, Br.t (by simp) (Ip6V.of C.h ⟨CellsAt.blk U.b1, Ip6V.of C.rA.v ⟨CellsAt.blk U.b2, ?_⟩⟩)⟩
  refine (same6_spec (hA.ext U.ext) U.hin).mono ?_
  rintro _ w14 ⟨x, rfl, hx, hE⟩
  have hxt := hx.2 (by
    have hrA' : C.rA.v.d C.rA.exts C.rA.data = C.h.d C.es C.dt := hrA
    exact hrA'.symm)
  subst hxt
  exact ⟨_, rfl, hR _ (U.ext.trans hE)⟩
end
end N6
end Go.Proofs.YtkiogaglmjeplaaDoor
/- Ip6Own: the law. -/
namespace Go.Proofs.YtkiogaglmjeplaaDoor
namespace N6
open Go.Eng Go.RowKit
section
variable {w : World}
theorem clone_more {Γ : List Fct} {b : Nat} {w1 w' : World} {r : Ip6R} (H : Sep Γ w1) (hb : b ≤ w1.heap.size) (H' : Sep (Fct.rest w1 None :: rowB w1.heap.size r.v.data r.data :: extFs w1.heap.size r.v.exts r.exts) w') : Sep (Γ ++ (rowB b r.v.data r.data :: extFs b r.v.exts r.exts)) w' :=
  H.mades ((AllLe.append (AllLe.refl [Fct.rest w1 None]) (AllLe.cons (own_less hb).1 (own_less hb).2 (extFs_less hb))).sep H')
theorem clone_at {b : Nat} {w' : World} {r : Ip6R} (hf : Ip6Fine r) (h : ∀ f ∈ rowB b r.v.data r.data :: extFs b r.v.exts r.exts, f.φ w') : Ip6At w' r.v r.exts r.data :=
  ⟨extsAt_of (b := b) (fun f hm => h f (List.mem_cons_of_mem _ hm)) hf.exts, bytesAt_of (b := b) (h _ List.mem_cons_self) hf.data, hf.src, hf.dst⟩
set_option maxHeartbeats 8000000 in
theorem own7_law {h : Ip6V} {es : List ExtR} {dt : List Int} {s : Sl} {l : List Int} (hA : Ip6At w h es dt) (hB : BytesAt w s l) (hK : Kn w) :
    Calls Tryd.prog 7 #[h.val, s.val] w fun e w' => e = .returned (.bool true) ∧ Ext w w' := by
  refine weirlaw7_Ip6Own_of h s.A s.n s.k w _ ?_
  unfold weirlaw7_Ip6Own_VC
  obtain ⟨b, hbd⟩ : ∃ b, b = w.heap.size := ⟨_, rfl⟩
  have hb : b ≤ w.heap.size := by omega
  have up : ∀ {Γ : List Fct} {w' : World}, Sep (Fct.rest w None :: Γ) w' → Ext w w' ∧ b ≤ w'.heap.size := fun H => ⟨H.restOf 0 rfl, Nat.le_trans hb (H.restOf 0 rfl).size⟩
  refine NewVC.sep (Sep.start0 w) fun g1 w1 H => Ip6V.of h ⟨H.at 1 rfl, ?_⟩
  obtain ⟨u, z⟩ := up H
  refine (clone6_spec (hA.ext u)).mono ?_
  rintro _ w2 ⟨rA, rfl, hAd, hfA, H2⟩
  have H := clone_more H z H2
  obtain ⟨IN, hIN⟩ : ∃ IN, IN = rowB b rA.v.data rA.data :: extFs b rA.v.exts rA.exts := ⟨_, rfl⟩
  rw [← hIN] at H
  refine onRet_is (Ip6V.of rA.v ⟨rfl, NewVC.sep H fun g2 w3 H => Stores.sep H.front 0 rfl (Ip6V.one _) (Nat.le_refl _) (splice_all rfl) fun w4 H => ?_⟩)
  have H := H.rot
  obtain ⟨u, z⟩ := up H
  refine copy_new (b := b) H hb (hB.ext u) fun At ct w6 H => ?_
  obtain ⟨TX, hTX⟩ : ∃ TX, TX = rowB b ⟨At, s.n, ct⟩ l := ⟨_, rfl⟩
  rw [← hTX] at H
  obtain ⟨u, z⟩ := up H
  refine Ip6V.of h ⟨H.at 1 rfl, ?_⟩
  refine (serialise_spec (hA.ext u) (hK.ext u)).mono ?_
  intro e w7 hc
  obtain ⟨A1, c1, rfl, H⟩ := hc.more H z
  obtain ⟨r1, hr1⟩ : ∃ r, r = (ser6S (h.d es dt)).1 := ⟨_, rfl⟩
  rw [← hr1] at H ⊢
  obtain ⟨S1, hS1⟩ : ∃ S, S = rawR b 5 1 (grB ⟨A1, r1.length, c1⟩ r1) := ⟨_, rfl⟩
  rw [← hS1] at H
  obtain ⟨u, z⟩ := up H
  refine ⟨_, _, _, _, rfl, Ip6V.of h ⟨H.at 1 rfl, ?_⟩⟩
  refine (serialise_spec (hA.ext u) (hK.ext u)).mono ?_
  intro e w8 hc
  obtain ⟨A2, c2, rfl, H⟩ := hc.more H z
  rw [← hr1] at H ⊢
  obtain ⟨S2, hS2⟩ : ∃ S, S = rawR b 5 1 (grB ⟨A2, r1.length, c2⟩ r1) := ⟨_, rfl⟩
  rw [← hS2] at H
  obtain ⟨u, z⟩ := up H
  refine ⟨_, _, _, _, rfl, _, _, _, H.cell 1 rfl 37 rfl, ?_⟩
  refine (putChain_spec (next := 59) (hA.exts.ext u) (hK.ext u)).mono ?_
  intro e w9 hc
  obtain ⟨A3, c3, rfl, H⟩ := hc.more H z
  obtain ⟨r2, hr2⟩ : ∃ r, r = (putChainS (es.map ExtR.d) 59).1 := ⟨_, rfl⟩
  rw [← hr2] at H ⊢
  obtain ⟨P1, hP1⟩ : ∃ S, S = rawR b 5 1 (grB ⟨A3, r2.length, c3⟩ r2) := ⟨_, rfl⟩
  rw [← hP1] at H
  obtain ⟨u, z⟩ := up H
  refine ⟨_, _, _, _, rfl, ?_⟩
  refine (parse_spec (hB.ext u) (hK.ext u)).mono ?_
  intro e w10 hc
  obtain ⟨ha, x1, d1, rfl, hd1, H, hn1, h81, at1⟩ := hc.parts (hB.ext u) z H
  refine onRet_is (Ip6V.of ha ⟨_, rfl, NewVC.sep H fun g4 w11 H => Stores.sep H.front 0 rfl (Ip6V.one _) (Nat.le_refl _) (splice_all rfl) fun w12 H => ?_⟩)
  have H := H.rot
  obtain ⟨X1, hX1⟩ : ∃ S, S = readX b ha.exts x1 := ⟨_, rfl⟩
  rw [← hX1] at H
  obtain ⟨u, z⟩ := up H
  refine (parse_spec (hB.ext u) (hK.ext u)).mono ?_
  intro e w13 hc
  obtain ⟨hc', x2, d2, rfl, hd2, H, hn2, h82, at2⟩ := hc.parts (hB.ext u) z H
  refine onRet_is (Ip6V.of hc' ⟨_, rfl, NewVC.sep H fun g5 w14 H => Stores.sep H.front 0 rfl (Ip6V.one _) (Nat.le_refl _) (splice_all rfl) fun w15 H => ?_⟩)
  have H := H.rot
  obtain ⟨X2, hX2⟩ : ∃ S, S = readX b hc'.exts x2 := ⟨_, rfl⟩
  rw [← hX2] at H
  have l1 : r1.length ≤ 4000000 := by rw [hr1]; have := ser6S_len (h.d es dt); omega
  have l2 : r2.length ≤ 4000000 := by rw [hr2]; have := putChainS_len (es.map ExtR.d) 59; omega
  have t1 : Bts r1 := by rw [hr1]; exact ser6S_bts hA.ok
  have t2 : Bts r2 := by rw [hr2]; exact putChainS_bts (ExtsAt.ok hA.exts) _
  refine copy_new (b := b) (s := ⟨A1, r1.length, c1⟩) H hb (bytesAt_raw (b := b) (by have := H.mem (f := S1) (by simp); rw [hS1] at this; exact this) rfl l1 t1) fun Aw cw w17 H => ?_
  obtain ⟨WS, hWS⟩ : ∃ S, S = rowB b ⟨Aw, r1.length, cw⟩ r1 := ⟨_, rfl⟩
  rw [← hWS] at H
  refine copy_new (b := b) (s := ⟨A3, r2.length, c3⟩) H hb (bytesAt_raw (b := b) (by have := H.mem (f := P1) (by simp); rw [hP1] at this; exact this) rfl l2 t2) fun Ap cp w19 H => ?_
  obtain ⟨PT, hPT⟩ : ∃ S, S = rowB b ⟨Ap, r2.length, cp⟩ r2 := ⟨_, rfl⟩
  rw [← hPT] at H
  obtain ⟨u, z⟩ := up H
  obtain ⟨B4, hB4⟩ : ∃ B, B = Fct.blk g4 30 ha.cells := ⟨_, rfl⟩
  obtain ⟨B5, hB5⟩ : ∃ B, B = Fct.blk g5 30 hc'.cells := ⟨_, rfl⟩
  obtain ⟨B2, hB2⟩ : ∃ B, B = Fct.blk g2 30 rA.v.cells := ⟨_, rfl⟩
  obtain ⟨B1, hB1⟩ : ∃ B, B = Fct.blk g1 30 h.cells := ⟨_, rfl⟩
  obtain ⟨R0, hR0⟩ : ∃ R, R = Fct.rest w None := ⟨_, rfl⟩
  /- what Parse made, as it lies -/
  have H : Sep (R0 :: B1 :: B2 :: B4 :: B5 :: TX :: WS :: PT :: S1 :: S2 :: P1 :: (IN ++ (X1 ++ X2))) w19 := by
    refine H.perm ?_
    rw [hR0, hB1, hB2, hB4, hB5]
    exact perm_cnt fun c o h1 h2 h3 => by simp only [List.append_eq, List.cons_append, List.nil_append, h1, h2, h3]; omega
  have ga : ∀ {Γ : List Fct} {w' : World}, Sep (R0 :: B1 :: B2 :: B4 :: B5 :: TX :: WS :: PT :: S1 :: S2 :: P1 :: (IN ++ (X1 ++ X2)) ++ Γ) w' → Ip6At w' ha x1 d1 ∧ Blk w' g4 30 ha.cells ∧ b ≤ w'.heap.size := fun {Γ w'} H => by
    have h0 : Ext w w' := by have := H.restOf (w0 := w) (M := None) 0 (by rw [hR0]; rfl); exact this
    refine ⟨at1 w' (hB.ext h0) fun f hf => H.mem (by rw [hX1]; simp only [List.mem_append, List.mem_cons]; simp [hf]), ?_, Nat.le_trans hb h0.size⟩
    have := H.mem (f := B4) (by simp)
    rw [hB4] at this; exact this
  obtain ⟨p1, p2, p3⟩ := ga (Γ := []) (by rw [List.append_nil]; exact H)
  refine Ip6V.of ha ⟨CellsAt.blk p2, ?_⟩
  refine (clone6_spec p1).mono ?_
  rintro _ w20 ⟨rO, rfl, hOd, hfO, H20⟩
  have H := clone_more H p3 H20
  obtain ⟨OL, hOL⟩ : ∃ IN, IN = rowB b rO.v.data rO.data :: extFs b rO.v.exts rO.exts := ⟨_, rfl⟩
  rw [← hOL] at H
  refine onRet_is (Ip6V.of rO.v ⟨rfl, NewVC.sep H fun g8 w21 H => Stores.sep H.front 0 rfl (Ip6V.one _) (Nat.le_refl _) (splice_all rfl) fun w22 H => ?_⟩)
  obtain ⟨B8, hB8⟩ : ∃ B, B = Fct.blk g8 30 rO.v.cells := ⟨_, rfl⟩
  have H : Sep ((R0 :: B1 :: B2 :: B4 :: B5 :: TX :: WS :: PT :: S1 :: S2 :: P1 :: (IN ++ (X1 ++ X2))) ++ (OL ++ [B8])) w22 := by
    rw [hB8]
    have H := H.rot
    rw [← List.append_assoc]
    exact H
  refine NewVC.sep (cs := [(grB ⟨A1, r1.length, c1⟩ r1).val, (grB ⟨A2, r1.length, c2⟩ r1).val, (grB ⟨A3, r2.length, c3⟩ r2).val]) H fun g9 w23 H => ?_
  have hg : b ≤ g9 := by
    have H' : Sep (Fct.blk g9 22 [(grB ⟨A1, r1.length, c1⟩ r1).val, (grB ⟨A2, r1.length, c2⟩ r1).val, (grB ⟨A3, r2.length, c3⟩ r2).val] :: R0 :: _) w23 := H.front
    rw [hR0] at H'
    exact Nat.le_trans hb (H'.fresh (w0 := w) 1 0 (by decide) rfl rfl)
  rw [List.append_assoc] at H
  obtain ⟨p1, p2, p3⟩ := ga H
  refine ⟨_, _, _, p2.cell 37, ?_⟩
  have hpl : (padG x1).length ≤ 32000000 := by
    obtain ⟨B, hB⟩ : ∃ B : Nat, B = 4000000 := ⟨_, rfl⟩
    have q1 := padG_len (B := B) x1 fun x hx => by have := (p1.exts.opts x hx).len; have := (p1.exts.opts x hx).small; omega
    have q2 : x1.length * B ≤ 8 * B := Nat.mul_le_mul_right _ h81
    omega
  refine (gathered_spec p1.exts (by omega)).mono ?_
  rintro _ w24 ⟨Ag, cg, rfl, H24⟩
  have H := H.ext (H24.restOf 1 rfl)
  obtain ⟨p1, p2, p3⟩ := ga H
  have H : Sep (Fct.blk g9 22 [(grB ⟨A1, r1.length, c1⟩ r1).val, (grB ⟨A2, r1.length, c2⟩ r1).val, (grB ⟨A3, r2.length, c3⟩ r2).val] :: ((R0 :: B1 :: B2 :: B4 :: B5 :: TX :: WS :: PT :: S1 :: S2 :: P1 :: (IN ++ (X1 ++ X2))) ++ (OL ++ [B8]))) w24 := by
    rw [← List.append_assoc] at H
    exact H.front
  have H := H.blkOwn 0 rfl (b := b) (n := 3) (c := 3) hg rfl (Nat.le_refl _) (by decide)
  refine ⟨_, _, _, rfl, ?_⟩
  refine AppVC.sep (m := (padG x1).length) H 0 Tryd.underlying60 tSl rfl (by decide) rfl (own_cells (H24.own 0 rfl)) (by rw [List.length_map, Nat.mul_one]) (fun v hv => by obtain ⟨g, _, rfl⟩ := List.mem_map.1 hv; rfl) (by omega) (by decide) p3 fun AL cL w25 H _ => ?_
  obtain ⟨rows, hrows⟩ : ∃ rows, rows = [grB ⟨A1, r1.length, c1⟩ r1, grB ⟨A2, r1.length, c2⟩ r1, grB ⟨A3, r2.length, c3⟩ r2] ++ padG x1 := ⟨_, rfl⟩
  obtain ⟨n, hn⟩ : ∃ n, n = 3 + (padG x1).length := ⟨_, rfl⟩
  have hrl : rows.length = n := by rw [hrows, hn, List.length_append]; rfl
  obtain ⟨L, hL⟩ : ∃ L, L = Fct.own b 22 1 (.slice AL n cL) n (rows.map GR.val) := ⟨_, rfl⟩
  have H : Sep (L :: ((R0 :: B1 :: B2 :: B4 :: B5 :: TX :: WS :: PT :: S1 :: S2 :: P1 :: (IN ++ (X1 ++ X2))) ++ (OL ++ [B8]))) w25 := by
    rw [hL, hn, hrows, List.map_append]; exact H
  rw [← hn]
  have hE1 := hX1
  obtain ⟨E1, hE1'⟩ : ∃ E, E = rowE b ha.exts x1 := ⟨_, rfl⟩
  obtain ⟨F0, hF0⟩ : ∃ F0, F0 = R0 :: B1 :: B2 :: B4 :: B5 :: B8 :: TX :: WS :: PT :: L :: (IN ++ (X2 ++ OL)) := ⟨_, rfl⟩
  have H : Sep ((F0 ++ (E1 :: famO7 b x1)) ++ rows.map (rawR b 5 1)) w25 := by
    have e : X1 = E1 :: x1.flatMap (readX1 b) := by rw [hX1, hE1']; rfl
    rw [e] at H
    have H := read_pads (b := b) x1 (Γ := L :: ((R0 :: B1 :: B2 :: B4 :: B5 :: TX :: WS :: PT :: S1 :: S2 :: P1 :: (IN ++ (E1 :: X2))) ++ (OL ++ [B8]))) (H.perm (perm_cnt fun c o h1 h2 h3 => by simp only [h1, h2]; omega))
    have e2 : rows.map (rawR b 5 1) = S1 :: S2 :: P1 :: (padG x1).map (rawR b 5 1) := by rw [hrows, List.map_append, hS1, hS2, hP1]; rfl
    rw [e2, hF0]
    exact H.perm (perm_cnt fun c o h1 h2 h3 => by simp only [h1, h2, h3]; omega)
  have h00 : F0[0]? = some (Fct.rest w None) := by rw [hF0, hR0]; rfl
  have h01 : ∀ Y : List Fct, (F0 ++ Y)[0]? = some (Fct.rest w None) := fun Y => by rw [List.getElem?_append_left (List.getElem?_eq_some_iff.1 h00).1]; exact h00
  have rL : ∀ w', (∀ f ∈ F0, f.φ w') → Cells w' AL (rows.map GR.val) := fun w' hf => by
    have := hf L (by rw [hF0]; simp)
    rw [hL] at this
    exact own_cells this
  have hsm : ∀ r ∈ rows, r.n ≤ 4000000 := fun r hr => by
    rw [hrows] at hr
    rcases List.mem_append.1 hr with hr | hr
    · simp only [List.mem_cons, List.not_mem_nil, or_false] at hr
      rcases hr with rfl | rfl | rfl
      · exact l1
      · exact l1
      · exact l2
    · obtain ⟨x, hx, o, ho, rfl⟩ := padG_mem hr
      exact ((p1.exts.opts x hx).each o ho).small
  refine (filled_spec H (h01 _) hb (fun w' hf => rL w' fun f hm => hf f (List.mem_append_left _ hm)) hrl (by omega) hsm).mono ?_
  rintro _ w26 ⟨MA, mc, gs, D, rfl, hgl, hst, H⟩
  obtain ⟨M, hM⟩ : ∃ M, M = Fct.own b 22 1 (.slice MA (3 * n) mc) (3 * n) (gs.map GR.val) := ⟨_, rfl⟩
  rw [← hM] at H
  have H : Sep ((F0 ++ (M :: D)) ++ (E1 :: famO7 b x1)) w26 := H.perm (perm_cnt fun c o h1 h2 h3 => by simp only [h1, h2]; omega)
  obtain ⟨C, hC⟩ : ∃ C : OX, C = ⟨g1, g2, g4, g5, g8, h, es, dt, s, l, rA, ⟨At, s.n, ct⟩, ⟨Aw, r1.length, cw⟩, ⟨Ap, r2.length, cp⟩, ha, hc', x2, d2, rO, AL, cL, MA, mc, rows, gs⟩ := ⟨_, rfl⟩
  have rd : ∀ w', (∀ f ∈ F0 ++ (M :: D), f.φ w') → OwnR C w w' := fun w' hf => by
    have h0 : Ext w w' := by
      have := hf R0 (by rw [hF0]; simp)
      rw [hR0] at this; exact this
    have pick : ∀ {f : Fct}, f ∈ F0 → f.φ w' := fun hm => hf _ (List.mem_append_left _ hm)
    rw [hC]
    refine ⟨h0, ?_, ?_, ?_, ?_, ?_, ?_, ?_, ?_, ?_, ?_, ?_, ?_, ?_, ?_⟩
    · have := pick (f := B1) (by rw [hF0]; simp)
      rw [hB1] at this; exact this
    · have := pick (f := B2) (by rw [hF0]; simp)
      rw [hB2] at this; exact this
    · have := pick (f := B4) (by rw [hF0]; simp)
      rw [hB4] at this; exact this
    · have := pick (f := B5) (by rw [hF0]; simp)
      rw [hB5] at this; exact this
    · have := pick (f := B8) (by rw [hF0]; simp)
      rw [hB8] at this; exact this
    · exact clone_at (b := b) hfA fun f hm => pick (by rw [hF0, hIN]; simp only [List.mem_cons, List.mem_append]; simp only [List.mem_cons] at hm; simp [hm])
    · have := pick (f := TX) (by rw [hF0]; simp)
      rw [hTX] at this
      exact bytesAt_of this ⟨hB.small, hB.bts⟩
    · have := pick (f := WS) (by rw [hF0]; simp)
      rw [hWS] at this
      have q := bytesAt_of this ⟨l1, t1⟩
      rw [hr1] at q ⊢
      exact q
    · have := pick (f := PT) (by rw [hF0]; simp)
      rw [hPT] at this
      have q := bytesAt_of this ⟨l2, t2⟩
      rw [hr2] at q ⊢
      exact q
    · exact at2 w' (hB.ext h0) fun f hm => pick (by rw [hF0, hX2]; simp [hm])
    · exact clone_at (b := b) hfO fun f hm => pick (by rw [hF0, hOL]; simp only [List.mem_cons, List.mem_append]; simp only [List.mem_cons] at hm; simp [hm])
    · exact rL w' fun f hm => pick hm
    · have := hf M (by simp)
      rw [hM] at this
      exact own_cells this
    · intro j r hj
      exact hst w' (fun f hm => hf f (List.mem_append_right _ (List.mem_cons_of_mem _ hm))) j r (by rw [← hrl]; exact (List.getElem?_eq_some_iff.1 hj).1) hj
  have U := rd w26 fun f hm => H.mem (List.mem_append_left _ hm)
  refine ⟨_, _, _, rfl, ?_⟩
  rw [hC] at U
  refine (stand_spec U.cl U.cm hrl hgl (by omega) hsm U.cs).mono ?_
  rintro _ w27 ⟨hw, rfl⟩
  subst w27
  refine ⟨_, rfl, Br.f rfl (Ip6V.of hc' ⟨CellsAt.blk U.b5, Ip6V.of rO.v ⟨CellsAt.blk U.b8, ?_⟩⟩)⟩
  have hro : rO.d = (parsed l).1 := hOd.trans hd1
  refine (same6_spec U.c U.old).mono ?_
  rintro _ w28 ⟨x, rfl, hx, hE⟩
  have hxt := hx.2 (hd2.trans hro.symm)
  subst hxt
  have H := H.ext hE
  have U := rd w28 fun f hm => H.mem (List.mem_append_left _ hm)
  rw [hC] at U
  refine ⟨_, rfl, Br.f rfl ?_⟩
  refine (alike7_spec (hB.ext U.ext) U.tx).mono ?_
  rintro _ w29 ⟨hw, rfl⟩
  subst w29
  refine ⟨_, rfl, Br.f (by simp) (Ip6V.of h ⟨CellsAt.blk U.b1, Ip6V.of rA.v ⟨CellsAt.blk U.b2, ?_⟩⟩)⟩
  refine (same6_spec (hA.ext U.ext) U.hin).mono ?_
  rintro _ w30 ⟨x, rfl, hx, hE⟩
  have hxt := hx.2 (by
    have hAd' : rA.v.d rA.exts rA.data = h.d es dt := hAd
    exact hAd'.symm)
  subst hxt
  have H := H.ext hE
  refine ⟨_, rfl, Br.f rfl ?_⟩
  have hlen : rO.v.exts.n = ha.exts.n := by
    have q := congrArg (fun d : Ip6D => d.exts.length) hOd
    have q1 := hfO.exts.len
    have q2 : (Ip6R.d rO).exts.length = rO.exts.length := by simp [Ip6R.d, Ip6V.d]
    have q3 : (ha.d x1 d1).exts.length = x1.length := by simp [Ip6V.d]
    have q : (Ip6R.d rO).exts.length = (ha.d x1 d1).exts.length := q
    omega
  have hV : Bend (x1.map fun x => x.v) (x1.map fun x => ⟨x.v.opts.A, x.v.opts.n, x.v.opts.k, (x.opts.map fun r => r.v.cells).flatten⟩) ha.exts.n := by
    refine ⟨by rw [List.length_map]; exact hn1.symm, by rw [List.length_map]; exact hn1.symm, fun j v o hv ho => ?_, fun v hv => ?_⟩
    · rw [List.getElem?_map] at hv ho
      cases hx : x1[j]? with
      | none => rw [hx] at hv; cases hv
      | some x =>
        rw [hx] at hv ho
        injection hv with hv
        injection ho with ho
        subst hv; subst ho
        exact ⟨rfl, rfl, rfl⟩
    · obtain ⟨x, hx, rfl⟩ := List.mem_map.1 hv
      exact (p1.exts.opts x hx).small
  have H : Sep ((F0 ++ (M :: D)) ++ (Fct.own b 54 3 ha.exts.val ha.exts.n (((x1.map fun x => x.v).map ExtV.cells).flatten) :: (x1.map fun x => (⟨x.v.opts.A, x.v.opts.n, x.v.opts.k, (x.opts.map fun r => r.v.cells).flatten⟩ : GR)).map (rawR b 65 2))) w30 := by
    have e1 : (x1.map fun x => x.v).map ExtV.cells = x1.map fun r => r.v.cells := by rw [List.map_map]; rfl
    have e2 : (x1.map fun x => (⟨x.v.opts.A, x.v.opts.n, x.v.opts.k, (x.opts.map fun r => r.v.cells).flatten⟩ : GR)).map (rawR b 65 2) = famO7 b x1 := by rw [List.map_map]; rfl
    rw [e1, e2]
    rw [hE1'] at H
    exact H
  have := own_loop (C := C) (n := n) (se := ha.exts) (by rw [hC]; exact hA) (by rw [hC]; exact hB) hK (h01 _) hb rd (by rw [hC]; exact hrl) (by rw [hC]; exact hgl) (by omega) (by rw [hC]; exact hsm) (by rw [hC]) (by omega) (by rw [hC]; exact hAd) (by rw [hC]; exact hd2) (by rw [hC]; exact hro) (by rw [hC]; exact hlen) hV H (R := fun e w' => e = .returned (.bool true) ∧ Ext w w') fun w' hE' => ⟨rfl, hE'⟩
  rw [hC] at this
  exact this
end
end N6
end Go.Proofs.YtkiogaglmjeplaaDoor
