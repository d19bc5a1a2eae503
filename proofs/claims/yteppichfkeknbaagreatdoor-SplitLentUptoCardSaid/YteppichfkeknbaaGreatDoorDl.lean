/- WRITTEN BY a program of this session (vc.py): for each Go function the condition that is enough for its contract, and the theorem that it is. -/
import Derived.Test.YteppichfkeknbaaGreatDoorProg
import Derived.Test.YteppichfkeknbaaGreatDoorBq
import Derived.Test.YteppichfkeknbaaGreatDoorCb
import Derived.Test.YteppichfkeknbaaGreatDoorBe
import Derived.Test.YteppichfkeknbaaGreatDoorDk
import Derived.Test.YteppichfkeknbaaGreatDoorBi
import Derived.Test.YteppichfkeknbaaGreatDoorBm
import Derived.Test.YteppichfkeknbaaGreatDoorBn
namespace Go.Proofs.YteppichfkeknbaaGreatDoor
open Go.Eng
namespace N6

set_option maxRecDepth 100000 in
def weirlaw13_lists4_L7462 (lA : Option Addr) (ln : Nat) (i : Int) (K58 : ((Option Addr × Nat × Nat) × Int → World → Prop)) (outA1 : Option Addr) (outn1 : Nat) (outc1 : Nat) (k : Int) (w4 : World) (K7462 : ((Option Addr × Nat × Nat) × Int → World → Prop)) : Prop :=
  IdxVC lA ln 43 i fun a1 =>
  ∃ (xA1 : Option Addr) (xn1 xc1 : Nat), w4.cell? (a1.add 41) = some (.slice xA1 xn1 xc1) ∧
  Br (decide (k < (xn1 : Int)))
    (IdxVC lA ln 43 i fun a2 =>
  ∃ (xA2 : Option Addr) (xn2 xc2 : Nat), w4.cell? (a2.add 41) = some (.slice xA2 xn2 xc2) ∧
  IdxVC xA2 xn2 2 k fun a3 =>
  ∃ (xA3 : Option Addr) (xn3 xc3 : Nat), w4.cell? (a3.add 1) = some (.slice xA3 xn3 xc3) ∧
  NewVC w4 (.cells #[.slice xA3 xn3 xc3] 26) fun g2 w5 =>
  AppVC Tryz.prog #[53, 53] 53 (.slice outA1 outn1 outc1) (.slice (some ⟨g2, 0, none⟩) 1 1) w5 fun lA2 ln2 lc2 w6 =>
  K7462 ((lA2, ln2, lc2), IntKind.i64.wrap (k + 1)) w6)
    (K58 ((outA1, outn1, outc1), IntKind.i64.wrap (i + 1)) w4)
set_option maxRecDepth 100000 in
def weirlaw13_lists4_L58 (R : Ending → World → Prop) (lA : Option Addr) (ln : Nat) (outA : Option Addr) (outn : Nat) (outc : Nat) (i : Int) (w1 : World) (K58 : ((Option Addr × Nat × Nat) × Int → World → Prop)) : Prop :=
  Br (decide (i < (ln : Int)))
    (IdxVC lA ln 43 i fun a =>
  ∃ (xA : Option Addr) (xn xc : Nat), w1.cell? (a.add 42) = some (.slice xA xn xc) ∧
  NewVC w1 (.cells #[.slice xA xn xc] 26) fun g1 w2 =>
  AppVC Tryz.prog #[53, 53] 53 (.slice outA outn outc) (.slice (some ⟨g1, 0, none⟩) 1 1) w2 fun lA1 ln1 lc1 w3 =>
  LoopVC (S := (Option Addr × Nat × Nat) × Int) (fun s_ w4 K7462 => weirlaw13_lists4_L7462 lA ln i K58 s_.1.1 s_.1.2.1 s_.1.2.2 s_.2 w4 K7462) ((lA1, ln1, lc1), 0) w3)
    (R (.returned (.slice outA outn outc)) w1)
set_option maxRecDepth 100000 in
def weirlaw13_lists4_VC (lA : Option Addr) (ln : Nat) (_lc : Nat) (w : World) (R : Ending → World → Prop) : Prop :=
  LoopVC (S := (Option Addr × Nat × Nat) × Int) (fun s_ w1 K58 => weirlaw13_lists4_L58 R lA ln s_.1.1 s_.1.2.1 s_.1.2.2 s_.2 w1 K58) ((none, 0, 0), 0) w
def weirlaw13_lists4_H : Hints := [(58, [(3, .slice), (4, .int .i64)]), (7462, [(3, .slice), (5, .int .i64)])]
set_option maxRecDepth 100000 in
theorem weirlaw13_lists4_of (lA : Option Addr) (ln : Nat) (lc : Nat) (w : World) (R : Ending → World → Prop) (hvc_ : weirlaw13_lists4_VC lA ln lc w R) :
    Calls Tryz.prog 11 #[.slice lA ln lc] w R :=
  calls_of_wpc callOk mixedOk (H := weirlaw13_lists4_H) (args := [.slice lA ln lc]) (fn := Tryz.f11) (c := bodyOf Tryz.f11) Tryz.func11 rfl (Nat.le_of_ble_eq_true rfl)
    (Eq.mp (by kernel_rfl : weirlaw13_lists4_VC lA ln lc w R = wpc Tryz.prog callF Tryz.f11.ntmps weirlaw13_lists4_H 1 (bodyOf Tryz.f11) (argEnv 0 [.slice lA ln lc]) [] w (finish Tryz.prog callF Tryz.f11.results.toList R)) hvc_)

set_option maxRecDepth 100000 in
def weirlaw13_lists6_L955174 (lA : Option Addr) (ln : Nat) (i : Int) (k : Int) (K7462 : ((Option Addr × Nat × Nat) × Int → World → Prop)) (outA2 : Option Addr) (outn2 : Nat) (outc2 : Nat) (j : Int) (w7 : World) (K955174 : ((Option Addr × Nat × Nat) × Int → World → Prop)) : Prop :=
  IdxVC lA ln 44 i fun a4 =>
  ∃ (xA4 : Option Addr) (xn4 xc4 : Nat), w7.cell? (a4.add 37) = some (.slice xA4 xn4 xc4) ∧
  IdxVC xA4 xn4 3 k fun a5 =>
  ∃ (xA5 : Option Addr) (xn5 xc5 : Nat), w7.cell? (a5.add 1) = some (.slice xA5 xn5 xc5) ∧
  Br (decide (j < (xn5 : Int)))
    (IdxVC lA ln 44 i fun a6 =>
  ∃ (xA6 : Option Addr) (xn6 xc6 : Nat), w7.cell? (a6.add 37) = some (.slice xA6 xn6 xc6) ∧
  IdxVC xA6 xn6 3 k fun a7 =>
  ∃ (xA7 : Option Addr) (xn7 xc7 : Nat), w7.cell? (a7.add 1) = some (.slice xA7 xn7 xc7) ∧
  IdxVC xA7 xn7 2 j fun a8 =>
  ∃ (xA8 : Option Addr) (xn8 xc8 : Nat), w7.cell? (a8.add 1) = some (.slice xA8 xn8 xc8) ∧
  NewVC w7 (.cells #[.slice xA8 xn8 xc8] 26) fun g3 w8 =>
  AppVC Tryz.prog #[53, 53] 53 (.slice outA2 outn2 outc2) (.slice (some ⟨g3, 0, none⟩) 1 1) w8 fun lA3 ln3 lc3 w9 =>
  K955174 ((lA3, ln3, lc3), IntKind.i64.wrap (j + 1)) w9)
    (K7462 ((outA2, outn2, outc2), IntKind.i64.wrap (k + 1)) w7)
set_option maxRecDepth 100000 in
def weirlaw13_lists6_L7462 (lA : Option Addr) (ln : Nat) (i : Int) (K58 : ((Option Addr × Nat × Nat) × Int → World → Prop)) (outA1 : Option Addr) (outn1 : Nat) (outc1 : Nat) (k : Int) (w4 : World) (K7462 : ((Option Addr × Nat × Nat) × Int → World → Prop)) : Prop :=
  IdxVC lA ln 44 i fun a1 =>
  ∃ (xA1 : Option Addr) (xn1 xc1 : Nat), w4.cell? (a1.add 37) = some (.slice xA1 xn1 xc1) ∧
  Br (decide (k < (xn1 : Int)))
    (IdxVC lA ln 44 i fun a2 =>
  ∃ (xA2 : Option Addr) (xn2 xc2 : Nat), w4.cell? (a2.add 37) = some (.slice xA2 xn2 xc2) ∧
  IdxVC xA2 xn2 3 k fun a3 =>
  ∃ (xA3 : Option Addr) (xn3 xc3 : Nat), w4.cell? (a3.add 2) = some (.slice xA3 xn3 xc3) ∧
  NewVC w4 (.cells #[.slice xA3 xn3 xc3] 26) fun g2 w5 =>
  AppVC Tryz.prog #[53, 53] 53 (.slice outA1 outn1 outc1) (.slice (some ⟨g2, 0, none⟩) 1 1) w5 fun lA2 ln2 lc2 w6 =>
  LoopVC (S := (Option Addr × Nat × Nat) × Int) (fun s_ w7 K955174 => weirlaw13_lists6_L955174 lA ln i k K7462 s_.1.1 s_.1.2.1 s_.1.2.2 s_.2 w7 K955174) ((lA2, ln2, lc2), 0) w6)
    (K58 ((outA1, outn1, outc1), IntKind.i64.wrap (i + 1)) w4)
set_option maxRecDepth 100000 in
def weirlaw13_lists6_L58 (R : Ending → World → Prop) (lA : Option Addr) (ln : Nat) (outA : Option Addr) (outn : Nat) (outc : Nat) (i : Int) (w1 : World) (K58 : ((Option Addr × Nat × Nat) × Int → World → Prop)) : Prop :=
  Br (decide (i < (ln : Int)))
    (IdxVC lA ln 44 i fun a =>
  ∃ (xA : Option Addr) (xn xc : Nat), w1.cell? (a.add 43) = some (.slice xA xn xc) ∧
  NewVC w1 (.cells #[.slice xA xn xc] 26) fun g1 w2 =>
  AppVC Tryz.prog #[53, 53] 53 (.slice outA outn outc) (.slice (some ⟨g1, 0, none⟩) 1 1) w2 fun lA1 ln1 lc1 w3 =>
  LoopVC (S := (Option Addr × Nat × Nat) × Int) (fun s_ w4 K7462 => weirlaw13_lists6_L7462 lA ln i K58 s_.1.1 s_.1.2.1 s_.1.2.2 s_.2 w4 K7462) ((lA1, ln1, lc1), 0) w3)
    (R (.returned (.slice outA outn outc)) w1)
set_option maxRecDepth 100000 in
def weirlaw13_lists6_VC (lA : Option Addr) (ln : Nat) (_lc : Nat) (w : World) (R : Ending → World → Prop) : Prop :=
  LoopVC (S := (Option Addr × Nat × Nat) × Int) (fun s_ w1 K58 => weirlaw13_lists6_L58 R lA ln s_.1.1 s_.1.2.1 s_.1.2.2 s_.2 w1 K58) ((none, 0, 0), 0) w
def weirlaw13_lists6_H : Hints := [(58, [(3, .slice), (4, .int .i64)]), (7462, [(3, .slice), (5, .int .i64)]), (955174, [(3, .slice), (6, .int .i64)])]
set_option maxRecDepth 100000 in
theorem weirlaw13_lists6_of (lA : Option Addr) (ln : Nat) (lc : Nat) (w : World) (R : Ending → World → Prop) (hvc_ : weirlaw13_lists6_VC lA ln lc w R) :
    Calls Tryz.prog 12 #[.slice lA ln lc] w R :=
  calls_of_wpc callOk mixedOk (H := weirlaw13_lists6_H) (args := [.slice lA ln lc]) (fn := Tryz.f12) (c := bodyOf Tryz.f12) Tryz.func12 rfl (Nat.le_of_ble_eq_true rfl)
    (Eq.mp (by kernel_rfl : weirlaw13_lists6_VC lA ln lc w R = wpc Tryz.prog callF Tryz.f12.ntmps weirlaw13_lists6_H 1 (bodyOf Tryz.f12) (argEnv 0 [.slice lA ln lc]) [] w (finish Tryz.prog callF Tryz.f12.results.toList R)) hvc_)

set_option maxRecDepth 100000 in
def weirlaw13_tail_L28 (R : Ending → World → Prop) (i : Int) (n : Int) (lA : Option Addr) (ln : Nat) (lc : Nat) (w1 : World) (K28 : ((Option Addr × Nat × Nat) → World → Prop)) : Prop :=
  Br (decide ((ln : Int) < n))
    (NewVC w1 (.cells #[.int .u8 (IntKind.u8.wrap (IntKind.i64.wrap (251 + Int.tmod i 5)))] 5) fun g1 w2 =>
  AppVC Tryz.prog #[26, 26] 26 (.slice lA ln lc) (.slice (some ⟨g1, 0, none⟩) 1 1) w2 fun lA1 ln1 lc1 w3 =>
  K28 (lA1, ln1, lc1) w3)
    (R (.returned (.slice lA ln lc)) w1)
set_option maxRecDepth 100000 in
def weirlaw13_tail_VC (i : Int) (n : Int) (w : World) (R : Ending → World → Prop) : Prop :=
  LoopVC (S := (Option Addr × Nat × Nat)) (fun s_ w1 K28 => weirlaw13_tail_L28 R i n s_.1 s_.2.1 s_.2.2 w1 K28) (none, 0, 0) w
def weirlaw13_tail_H : Hints := [(28, [(5, .slice)])]
set_option maxRecDepth 100000 in
theorem weirlaw13_tail_of (i : Int) (n : Int) (w : World) (R : Ending → World → Prop) (hvc_ : weirlaw13_tail_VC i n w R) :
    Calls Tryz.prog 45 #[.int .i64 i, .int .i64 n] w R :=
  calls_of_wpc callOk mixedOk (H := weirlaw13_tail_H) (args := [.int .i64 i, .int .i64 n]) (fn := Tryz.f45) (c := bodyOf Tryz.f45) Tryz.func45 rfl (Nat.le_of_ble_eq_true rfl)
    (Eq.mp (by kernel_rfl : weirlaw13_tail_VC i n w R = wpc Tryz.prog callF Tryz.f45.ntmps weirlaw13_tail_H 1 (bodyOf Tryz.f45) (argEnv 0 [.int .i64 i, .int .i64 n]) [] w (finish Tryz.prog callF Tryz.f45.results.toList R)) hvc_)

set_option maxRecDepth 100000 in
def weirlaw13_filled_L1682 (lA : Option Addr) (ln : Nat) (i : Int) (K26 : (Int → World → Prop)) (j : Int) (w2 : World) (K1682 : (Int → World → Prop)) : Prop :=
  IdxVC lA ln 1 i fun a =>
  ∃ (xA : Option Addr) (xn xc : Nat), w2.cell? a = some (.slice xA xn xc) ∧
  Br (decide (j < (xn : Int)))
    (IdxVC lA ln 1 i fun a1 =>
  ∃ (xA1 : Option Addr) (xn1 xc1 : Nat), w2.cell? a1 = some (.slice xA1 xn1 xc1) ∧
  IdxVC xA1 xn1 1 j fun a2 =>
  SetVC w2 a2 (.int .u8 (IntKind.u8.wrap (IntKind.i64.wrap (1 + Int.tmod i 250)))) fun w3 =>
  K1682 (IntKind.i64.wrap (j + 1)) w3)
    (K26 (IntKind.i64.wrap (i + 1)) w2)
set_option maxRecDepth 100000 in
def weirlaw13_filled_L125242 (R : Ending → World → Prop) (moreA : Option Addr) (moren : Nat) (morec : Nat) (i1 : Int) (K122 : ((Option Addr × Nat × Nat) × Int → World → Prop)) (lA1 : Option Addr) (ln1 : Nat) (lc1 : Nat) (lA2 : Option Addr) (ln2 : Nat) (lc2 : Nat) (g3A : Option Addr) (g3n : Nat) (g3c : Nat) (k : Int) (w11 : World) (K125242 : ((Option Addr × Nat × Nat) × Int → World → Prop)) : Prop :=
  Br (decide (k < 70))
    (Calls Tryz.prog 45 #[.int .i64 i1, .int .i64 1] w11 (onRet (fun r_2 w12 => ∃ (xA7 : Option Addr) (xn7 xc7 : Nat), r_2 = .slice xA7 xn7 xc7 ∧
  AppVC Tryz.prog #[26, 26] 26 (.slice g3A g3n g3c) (.slice xA7 xn7 xc7) w12 fun lA3 ln3 lc3 w13 =>
  K125242 ((lA3, ln3, lc3), IntKind.i64.wrap (k + 1)) w13)
    (fun ch2 w12 => R (.panicked ch2) w12)))
    (NewVC w11 (.cells #[.slice lA1 ln1 lc1, .slice lA2 ln2 lc2, .slice g3A g3n g3c] 26) fun g1 w14 =>
  AppVC Tryz.prog #[53, 53] 53 (.slice moreA moren morec) (.slice (some ⟨g1, 0, none⟩) 3 3) w14 fun lA4 ln4 lc4 w15 =>
  K122 ((lA4, ln4, lc4), IntKind.i64.wrap (i1 + 1)) w15)
set_option maxRecDepth 100000 in
def weirlaw13_filled_L122 (R : Ending → World → Prop) (lA : Option Addr) (ln : Nat) (moreA : Option Addr) (moren : Nat) (morec : Nat) (i1 : Int) (w4 : World) (K122 : ((Option Addr × Nat × Nat) × Int → World → Prop)) : Prop :=
  Br (decide (i1 < (ln : Int)))
    (DrawVC w4 fun S1 w5 =>
  IdxVC lA ln 1 i1 fun a3 =>
  ∃ (xA2 : Option Addr) (xn2 xc2 : Nat), (∀ w' : World, S1 w' → w'.cell? a3 = some (.slice xA2 xn2 xc2)) ∧
  Calls Tryz.prog 45 #[.int .i64 i1, .int .i64 1] w5 (onRet (fun r_ w6 => ∃ (xA3 : Option Addr) (xn3 xc3 : Nat), r_ = .slice xA3 xn3 xc3 ∧
  S1 w6 ∧
  AppVC Tryz.prog #[26, 26] 26 (.slice xA2 xn2 xc2) (.slice xA3 xn3 xc3) w6 fun lA1 ln1 lc1 w7 =>
  S1 w7 ∧
  DrawVC w7 fun S2 w8 =>
  IdxVC lA ln 1 i1 fun a4 =>
  ∃ (xA4 : Option Addr) (xn4 xc4 : Nat), (∀ w' : World, S2 w' → w'.cell? a4 = some (.slice xA4 xn4 xc4)) ∧
  Calls Tryz.prog 45 #[.int .i64 i1, .int .i64 2] w8 (onRet (fun r_1 w9 => ∃ (xA5 : Option Addr) (xn5 xc5 : Nat), r_1 = .slice xA5 xn5 xc5 ∧
  S2 w9 ∧
  AppVC Tryz.prog #[26, 26] 26 (.slice xA4 xn4 xc4) (.slice xA5 xn5 xc5) w9 fun lA2 ln2 lc2 w10 =>
  S2 w10 ∧
  IdxVC lA ln 1 i1 fun a5 =>
  ∃ (xA6 : Option Addr) (xn6 xc6 : Nat), w10.cell? a5 = some (.slice xA6 xn6 xc6) ∧
  LoopVC (S := (Option Addr × Nat × Nat) × Int) (fun s_ w11 K125242 => weirlaw13_filled_L125242 R moreA moren morec i1 K122 lA1 ln1 lc1 lA2 ln2 lc2 s_.1.1 s_.1.2.1 s_.1.2.2 s_.2 w11 K125242) ((xA6, xn6, xc6), 0) w10)
    (fun _ _ => False)))
    (fun _ _ => False)))
    (R (.returned (.slice moreA moren morec)) w4)
set_option maxRecDepth 100000 in
def weirlaw13_filled_L26 (R : Ending → World → Prop) (lA : Option Addr) (ln : Nat) (i : Int) (w1 : World) (K26 : (Int → World → Prop)) : Prop :=
  Br (decide (i < (ln : Int)))
    (LoopVC (S := Int) (fun s_ w2 K1682 => weirlaw13_filled_L1682 lA ln i K26 s_ w2 K1682) 0 w1)
    (LoopVC (S := (Option Addr × Nat × Nat) × Int) (fun s_ w4 K122 => weirlaw13_filled_L122 R lA ln s_.1.1 s_.1.2.1 s_.1.2.2 s_.2 w4 K122) ((none, 0, 0), 0) w1)
set_option maxRecDepth 100000 in
def weirlaw13_filled_VC (lA : Option Addr) (ln : Nat) (_lc : Nat) (w : World) (R : Ending → World → Prop) : Prop :=
  LoopVC (S := Int) (fun s_ w1 K26 => weirlaw13_filled_L26 R lA ln s_ w1 K26) 0 w
def weirlaw13_filled_H : Hints := [(26, [(3, .int .i64)]), (1682, [(4, .int .i64)]), (122, [(5, .slice), (6, .int .i64)]), (125242, [(9, .slice), (10, .int .i64)])]
set_option maxRecDepth 100000 in
theorem weirlaw13_filled_of (lA : Option Addr) (ln : Nat) (lc : Nat) (w : World) (R : Ending → World → Prop) (hvc_ : weirlaw13_filled_VC lA ln lc w R) :
    Calls Tryz.prog 13 #[.slice lA ln lc] w R :=
  calls_of_wpc callOk mixedOk (H := weirlaw13_filled_H) (args := [.slice lA ln lc]) (fn := Tryz.f13) (c := bodyOf Tryz.f13) Tryz.func13 rfl (Nat.le_of_ble_eq_true rfl)
    (Eq.mp (by kernel_rfl : weirlaw13_filled_VC lA ln lc w R = wpc Tryz.prog callF Tryz.f13.ntmps weirlaw13_filled_H 1 (bodyOf Tryz.f13) (argEnv 0 [.slice lA ln lc]) [] w (finish Tryz.prog callF Tryz.f13.results.toList R)) hvc_)

set_option maxRecDepth 100000 in
def weirlaw13_stand_J13791817 (R : Ending → World → Prop) (lA : Option Addr) (ln : Nat) (moreA : Option Addr) (moren : Nat) (i : Int) (xn : Nat) (k : Int) (j : Int) (K430994 : (Int → World → Prop)) (m : Int) (w4 : World) : Prop :=
  IdxVC moreA moren 1 k fun a5 =>
  ∃ (xA5 : Option Addr) (xn5 xc5 : Nat), w4.cell? a5 = some (.slice xA5 xn5 xc5) ∧
  IdxVC xA5 xn5 1 j fun a6 =>
  ∃ x : Int, w4.cell? a6 = some (.int .u8 x) ∧
  Br (decide (x ≠ m))
    (R (.returned (.bool false)) w4)
    (Br (decide (j < (xn : Int)))
      (IdxVC lA ln 1 i fun a7 =>
      ∃ (xA6 : Option Addr) (xn6 xc6 : Nat), w4.cell? a7 = some (.slice xA6 xn6 xc6) ∧
      IdxVC xA6 xn6 1 j fun a8 =>
      ∃ x1 : Int, w4.cell? a8 = some (.int .u8 x1) ∧
      Br (decide (x1 ≠ m))
    (R (.returned (.bool false)) w4)
    (K430994 (IntKind.i64.wrap (j + 1)) w4))
      (K430994 (IntKind.i64.wrap (j + 1)) w4))
set_option maxRecDepth 100000 in
def weirlaw13_stand_L430994 (R : Ending → World → Prop) (lA : Option Addr) (ln : Nat) (moreA : Option Addr) (moren : Nat) (i : Int) (xn : Nat) (k : Int) (K6734 : (Int → World → Prop)) (j : Int) (w3 : World) (K430994 : (Int → World → Prop)) : Prop :=
  IdxVC moreA moren 1 k fun a4 =>
  ∃ (xA4 : Option Addr) (xn4 xc4 : Nat), w3.cell? a4 = some (.slice xA4 xn4 xc4) ∧
  Br (decide (j < (xn4 : Int)))
    (JoinVC (S := Int) (fun J13791817 =>
      Br (decide ((xn : Int) ≤ j))
        (J13791817 (IntKind.u8.wrap (IntKind.i64.wrap (251 + Int.tmod i 5))) w3)
        (J13791817 (IntKind.u8.wrap (IntKind.i64.wrap (1 + Int.tmod i 250))) w3))
    (fun s_ w4 => weirlaw13_stand_J13791817 R lA ln moreA moren i xn k j K430994 s_ w4))
    (K6734 (IntKind.i64.wrap (k + 1)) w3)
set_option maxRecDepth 100000 in
def weirlaw13_stand_L6734 (R : Ending → World → Prop) (lA : Option Addr) (ln : Nat) (moreA : Option Addr) (moren : Nat) (i : Int) (K26 : (Int → World → Prop)) (xn : Nat) (k : Int) (w2 : World) (K6734 : (Int → World → Prop)) : Prop :=
  Br (decide (k < IntKind.i64.wrap (IntKind.i64.wrap (3 * i) + 3)))
    (LoopVC (S := Int) (fun s_ w3 K430994 => weirlaw13_stand_L430994 R lA ln moreA moren i xn k K6734 s_ w3 K430994) 0 w2)
    (K26 (IntKind.i64.wrap (i + 1)) w2)
set_option maxRecDepth 100000 in
def weirlaw13_stand_L26 (R : Ending → World → Prop) (lA : Option Addr) (ln : Nat) (moreA : Option Addr) (moren : Nat) (i : Int) (w1 : World) (K26 : (Int → World → Prop)) : Prop :=
  Br (decide (i < (ln : Int)))
    (IdxVC lA ln 1 i fun a =>
  ∃ (xA : Option Addr) (xn xc : Nat), w1.cell? a = some (.slice xA xn xc) ∧
  IdxVC moreA moren 1 (IntKind.i64.wrap (3 * i)) fun a1 =>
  ∃ (xA1 : Option Addr) (xn1 xc1 : Nat), w1.cell? a1 = some (.slice xA1 xn1 xc1) ∧
  Br (decide ((xn1 : Int) ≠ IntKind.i64.wrap ((xn : Int) + 1)))
    (R (.returned (.bool false)) w1)
    (IdxVC moreA moren 1 (IntKind.i64.wrap (IntKind.i64.wrap (3 * i) + 1)) fun a2 =>
    ∃ (xA2 : Option Addr) (xn2 xc2 : Nat), w1.cell? a2 = some (.slice xA2 xn2 xc2) ∧
    Br (decide ((xn2 : Int) ≠ IntKind.i64.wrap ((xn : Int) + 2)))
      (R (.returned (.bool false)) w1)
      (IdxVC moreA moren 1 (IntKind.i64.wrap (IntKind.i64.wrap (3 * i) + 2)) fun a3 =>
      ∃ (xA3 : Option Addr) (xn3 xc3 : Nat), w1.cell? a3 = some (.slice xA3 xn3 xc3) ∧
      Br (decide ((xn3 : Int) ≠ IntKind.i64.wrap ((xn : Int) + 70)))
    (R (.returned (.bool false)) w1)
    (LoopVC (S := Int) (fun s_ w2 K6734 => weirlaw13_stand_L6734 R lA ln moreA moren i K26 xn s_ w2 K6734) (IntKind.i64.wrap (3 * i)) w1))))
    (R (.returned (.bool true)) w1)
set_option maxRecDepth 100000 in
def weirlaw13_stand_VC (lA : Option Addr) (ln : Nat) (_lc : Nat) (moreA : Option Addr) (moren : Nat) (_morec : Nat) (w : World) (R : Ending → World → Prop) : Prop :=
  LoopVC (S := Int) (fun s_ w1 K26 => weirlaw13_stand_L26 R lA ln moreA moren s_ w1 K26) 0 w
def weirlaw13_stand_H : Hints := [(26, [(5, .int .i64)]), (6734, [(7, .int .i64)]), (430994, [(8, .int .i64)]), (13791817, [(9, .int .u8)])]
set_option maxRecDepth 100000 in
theorem weirlaw13_stand_of (lA : Option Addr) (ln : Nat) (lc : Nat) (moreA : Option Addr) (moren : Nat) (morec : Nat) (w : World) (R : Ending → World → Prop) (hvc_ : weirlaw13_stand_VC lA ln lc moreA moren morec w R) :
    Calls Tryz.prog 14 #[.slice lA ln lc, .slice moreA moren morec] w R :=
  calls_of_wpc callOk mixedOk (H := weirlaw13_stand_H) (args := [.slice lA ln lc, .slice moreA moren morec]) (fn := Tryz.f14) (c := bodyOf Tryz.f14) Tryz.func14 rfl (Nat.le_of_ble_eq_true rfl)
    (Eq.mp (by kernel_rfl : weirlaw13_stand_VC lA ln lc moreA moren morec w R = wpc Tryz.prog callF Tryz.f14.ntmps weirlaw13_stand_H 1 (bodyOf Tryz.f14) (argEnv 0 [.slice lA ln lc, .slice moreA moren morec]) [] w (finish Tryz.prog callF Tryz.f14.results.toList R)) hvc_)

set_option maxRecDepth 100000 in
def weirlaw13_own4_L1682 (lA : Option Addr) (ln : Nat) (i : Int) (K26 : (Int → World → Prop)) (k : Int) (w2 : World) (K1682 : (Int → World → Prop)) : Prop :=
  IdxVC lA ln 43 i fun a =>
  ∃ (xA : Option Addr) (xn xc : Nat), w2.cell? (a.add 41) = some (.slice xA xn xc) ∧
  Br (decide (k < (xn : Int)))
    (IdxVC lA ln 43 i fun a1 =>
  ∃ (xA1 : Option Addr) (xn1 xc1 : Nat), w2.cell? (a1.add 41) = some (.slice xA1 xn1 xc1) ∧
  IdxVC xA1 xn1 2 k fun a2 =>
  Stores a2 0 [.int .i64 (IntKind.i64.wrap (1000 + i)), .slice none 0 0] w2 fun w3 =>
  K1682 (IntKind.i64.wrap (k + 1)) w3)
    (K26 (IntKind.i64.wrap (i + 1)) w2)
set_option maxRecDepth 100000 in
def weirlaw13_own4_L31306 (moreA : Option Addr) (moren : Nat) (morec : Nat) (i1 : Int) (K122 : ((Option Addr × Nat × Nat) × Int → World → Prop)) (gA : Option Addr) (gn : Nat) (gc : Nat) (k1 : Int) (w5 : World) (K31306 : ((Option Addr × Nat × Nat) × Int → World → Prop)) : Prop :=
  Br (decide (k1 < 16))
    (NewVC w5 (.cells #[.int .i64 (IntKind.i64.wrap ((-1) - i1)), .slice none 0 0] 100) fun g1 w6 =>
  AppVC Tryz.prog #[25, 25] 25 (.slice gA gn gc) (.slice (some ⟨g1, 0, none⟩) 1 1) w6 fun lA1 ln1 lc1 w7 =>
  K31306 ((lA1, ln1, lc1), IntKind.i64.wrap (k1 + 1)) w7)
    (NewVC w5 (.cells #[.slice gA gn gc] 25) fun g2 w8 =>
  AppVC Tryz.prog #[102, 102] 102 (.slice moreA moren morec) (.slice (some ⟨g2, 0, none⟩) 1 1) w8 fun lA2 ln2 lc2 w9 =>
  K122 ((lA2, ln2, lc2), IntKind.i64.wrap (i1 + 1)) w9)
set_option maxRecDepth 100000 in
def weirlaw13_own4_L64078 (R : Ending → World → Prop) (lA : Option Addr) (ln : Nat) (moreA : Option Addr) (moren : Nat) (i2 : Int) (K250 : (Int → World → Prop)) (xn3 : Nat) (k3 : Int) (w12 : World) (K64078 : (Int → World → Prop)) : Prop :=
  Br (decide (k3 < (xn3 : Int)))
    (IdxVC lA ln 43 i2 fun a7 =>
  ∃ (xA5 : Option Addr) (xn5 xc5 : Nat), w12.cell? (a7.add 41) = some (.slice xA5 xn5 xc5) ∧
  IdxVC xA5 xn5 2 k3 fun a8 =>
  ∃ x1 : Int, w12.cell? a8 = some (.int .i64 x1) ∧
  Br (decide (x1 ≠ IntKind.i64.wrap (1000 + i2)))
    (R (.returned (.bool false)) w12)
    (IdxVC moreA moren 1 i2 fun a9 =>
    ∃ (xA6 : Option Addr) (xn6 xc6 : Nat), w12.cell? a9 = some (.slice xA6 xn6 xc6) ∧
    IdxVC xA6 xn6 2 k3 fun a10 =>
    ∃ x2 : Int, w12.cell? a10 = some (.int .i64 x2) ∧
    Br (decide (x2 ≠ IntKind.i64.wrap (1000 + i2)))
    (R (.returned (.bool false)) w12)
    (K64078 (IntKind.i64.wrap (k3 + 1)) w12)))
    (K250 (IntKind.i64.wrap (i2 + 1)) w12)
set_option maxRecDepth 100000 in
def weirlaw13_own4_L64074 (R : Ending → World → Prop) (lA : Option Addr) (ln : Nat) (moreA : Option Addr) (moren : Nat) (i2 : Int) (K250 : (Int → World → Prop)) (xn3 : Nat) (k2 : Int) (w11 : World) (K64074 : (Int → World → Prop)) : Prop :=
  Br (decide (k2 < IntKind.i64.wrap ((xn3 : Int) + 16)))
    (IdxVC moreA moren 1 i2 fun a5 =>
  ∃ (xA4 : Option Addr) (xn4 xc4 : Nat), w11.cell? a5 = some (.slice xA4 xn4 xc4) ∧
  IdxVC xA4 xn4 2 k2 fun a6 =>
  ∃ x : Int, w11.cell? a6 = some (.int .i64 x) ∧
  Br (decide (x ≠ IntKind.i64.wrap ((-1) - i2)))
    (R (.returned (.bool false)) w11)
    (K64074 (IntKind.i64.wrap (k2 + 1)) w11))
    (LoopVC (S := Int) (fun s_ w12 K64078 => weirlaw13_own4_L64078 R lA ln moreA moren i2 K250 xn3 s_ w12 K64078) 0 w11)
set_option maxRecDepth 100000 in
def weirlaw13_own4_L250 (R : Ending → World → Prop) (lA : Option Addr) (ln : Nat) (moreA : Option Addr) (moren : Nat) (i2 : Int) (w10 : World) (K250 : (Int → World → Prop)) : Prop :=
  Br (decide (i2 < (ln : Int)))
    (IdxVC lA ln 43 i2 fun a4 =>
  ∃ (xA3 : Option Addr) (xn3 xc3 : Nat), w10.cell? (a4.add 41) = some (.slice xA3 xn3 xc3) ∧
  LoopVC (S := Int) (fun s_ w11 K64074 => weirlaw13_own4_L64074 R lA ln moreA moren i2 K250 xn3 s_ w11 K64074) (xn3 : Int) w10)
    (R (.returned (.bool true)) w10)
set_option maxRecDepth 100000 in
def weirlaw13_own4_L122 (R : Ending → World → Prop) (lA : Option Addr) (ln : Nat) (moreA : Option Addr) (moren : Nat) (morec : Nat) (i1 : Int) (w4 : World) (K122 : ((Option Addr × Nat × Nat) × Int → World → Prop)) : Prop :=
  Br (decide (i1 < (ln : Int)))
    (IdxVC lA ln 43 i1 fun a3 =>
  ∃ (xA2 : Option Addr) (xn2 xc2 : Nat), w4.cell? (a3.add 41) = some (.slice xA2 xn2 xc2) ∧
  LoopVC (S := (Option Addr × Nat × Nat) × Int) (fun s_ w5 K31306 => weirlaw13_own4_L31306 moreA moren morec i1 K122 s_.1.1 s_.1.2.1 s_.1.2.2 s_.2 w5 K31306) ((xA2, xn2, xc2), 0) w4)
    (LoopVC (S := Int) (fun s_ w10 K250 => weirlaw13_own4_L250 R lA ln moreA moren s_ w10 K250) 0 w4)
set_option maxRecDepth 100000 in
def weirlaw13_own4_L26 (R : Ending → World → Prop) (lA : Option Addr) (ln : Nat) (i : Int) (w1 : World) (K26 : (Int → World → Prop)) : Prop :=
  Br (decide (i < (ln : Int)))
    (LoopVC (S := Int) (fun s_ w2 K1682 => weirlaw13_own4_L1682 lA ln i K26 s_ w2 K1682) 0 w1)
    (LoopVC (S := (Option Addr × Nat × Nat) × Int) (fun s_ w4 K122 => weirlaw13_own4_L122 R lA ln s_.1.1 s_.1.2.1 s_.1.2.2 s_.2 w4 K122) ((none, 0, 0), 0) w1)
set_option maxRecDepth 100000 in
def weirlaw13_own4_VC (lA : Option Addr) (ln : Nat) (_lc : Nat) (w : World) (R : Ending → World → Prop) : Prop :=
  LoopVC (S := Int) (fun s_ w1 K26 => weirlaw13_own4_L26 R lA ln s_ w1 K26) 0 w
def weirlaw13_own4_H : Hints := [(26, [(3, .int .i64)]), (1682, [(4, .int .i64)]), (122, [(5, .slice), (6, .int .i64)]), (31306, [(7, .slice), (8, .int .i64)]), (250, [(9, .int .i64)]), (64074, [(11, .int .i64)]), (64078, [(12, .int .i64)])]
set_option maxRecDepth 100000 in
theorem weirlaw13_own4_of (lA : Option Addr) (ln : Nat) (lc : Nat) (w : World) (R : Ending → World → Prop) (hvc_ : weirlaw13_own4_VC lA ln lc w R) :
    Calls Tryz.prog 15 #[.slice lA ln lc] w R :=
  calls_of_wpc callOk mixedOk (H := weirlaw13_own4_H) (args := [.slice lA ln lc]) (fn := Tryz.f15) (c := bodyOf Tryz.f15) Tryz.func15 rfl (Nat.le_of_ble_eq_true rfl)
    (Eq.mp (by kernel_rfl : weirlaw13_own4_VC lA ln lc w R = wpc Tryz.prog callF Tryz.f15.ntmps weirlaw13_own4_H 1 (bodyOf Tryz.f15) (argEnv 0 [.slice lA ln lc]) [] w (finish Tryz.prog callF Tryz.f15.results.toList R)) hvc_)

set_option maxRecDepth 100000 in
def weirlaw13_own6_L3730 (lA : Option Addr) (ln : Nat) (i : Int) (K58 : ((Option Addr × Nat × Nat) × Int → World → Prop)) (optsA1 : Option Addr) (optsn1 : Nat) (optsc1 : Nat) (k : Int) (w2 : World) (K3730 : ((Option Addr × Nat × Nat) × Int → World → Prop)) : Prop :=
  IdxVC lA ln 44 i fun a =>
  ∃ (xA : Option Addr) (xn xc : Nat), w2.cell? (a.add 37) = some (.slice xA xn xc) ∧
  Br (decide (k < (xn : Int)))
    (IdxVC lA ln 44 i fun a1 =>
  ∃ (xA1 : Option Addr) (xn1 xc1 : Nat), w2.cell? (a1.add 37) = some (.slice xA1 xn1 xc1) ∧
  IdxVC xA1 xn1 3 k fun a2 =>
  ∃ (xA2 : Option Addr) (xn2 xc2 : Nat), w2.cell? (a2.add 1) = some (.slice xA2 xn2 xc2) ∧
  NewVC w2 (.cells #[.int .i64 0, .int .i64 0, .bool false, .bool false, .int .i64 0, .int .i64 0, .int .i64 0, .int .i64 0, .int .u8 0, .int .u8 0, .int .u8 0, .int .u8 0, .int .u8 0, .int .u8 0, .int .u8 0, .int .u8 0, .int .u8 0, .int .u8 0, .int .u8 0, .int .u8 0, .int .u8 0, .int .u8 0, .int .u8 0, .int .u8 0, .int .i64 0, .int .u8 0, .int .u8 0, .int .u8 0, .int .u8 0, .int .u8 0, .int .u8 0, .int .u8 0, .int .u8 0, .int .u8 0, .int .u8 0, .int .u8 0, .int .u8 0, .int .u8 0, .int .u8 0, .int .u8 0, .int .u8 0, .slice xA2 xn2 xc2, .slice none 0 0] 28) fun g1 w3 =>
  AppVC Tryz.prog #[34, 34] 34 (.slice optsA1 optsn1 optsc1) (.slice (some ⟨g1, 0, none⟩) 1 1) w3 fun lA1 ln1 lc1 w4 =>
  K3730 ((lA1, ln1, lc1), IntKind.i64.wrap (k + 1)) w4)
    (K58 ((optsA1, optsn1, optsc1), IntKind.i64.wrap (i + 1)) w2)
set_option maxRecDepth 100000 in
def weirlaw13_own6_L16018 (lA : Option Addr) (ln : Nat) (i1 : Int) (K250 : (Int → World → Prop)) (k1 : Int) (w7 : World) (K16018 : (Int → World → Prop)) : Prop :=
  IdxVC lA ln 44 i1 fun a3 =>
  ∃ (xA3 : Option Addr) (xn3 xc3 : Nat), w7.cell? (a3.add 37) = some (.slice xA3 xn3 xc3) ∧
  Br (decide (k1 < (xn3 : Int)))
    (IdxVC lA ln 44 i1 fun a4 =>
  ∃ (xA4 : Option Addr) (xn4 xc4 : Nat), w7.cell? (a4.add 37) = some (.slice xA4 xn4 xc4) ∧
  IdxVC xA4 xn4 3 k1 fun a5 =>
  Stores a5 0 [.int .i64 (IntKind.i64.wrap (1000 + i1)), .slice none 0 0, .slice none 0 0] w7 fun w8 =>
  K16018 (IntKind.i64.wrap (k1 + 1)) w8)
    (K250 (IntKind.i64.wrap (i1 + 1)) w7)
set_option maxRecDepth 100000 in
def weirlaw13_own6_L260682 (moreA : Option Addr) (moren : Nat) (morec : Nat) (i2 : Int) (K1018 : ((Option Addr × Nat × Nat) × Int → World → Prop)) (gA : Option Addr) (gn : Nat) (gc : Nat) (k2 : Int) (w10 : World) (K260682 : ((Option Addr × Nat × Nat) × Int → World → Prop)) : Prop :=
  Br (decide (k2 < 16))
    (NewVC w10 (.cells #[.int .i64 (IntKind.i64.wrap ((-1) - i2)), .slice none 0 0, .slice none 0 0] 81) fun g2 w11 =>
  AppVC Tryz.prog #[29, 29] 29 (.slice gA gn gc) (.slice (some ⟨g2, 0, none⟩) 1 1) w11 fun lA2 ln2 lc2 w12 =>
  K260682 ((lA2, ln2, lc2), IntKind.i64.wrap (k2 + 1)) w12)
    (NewVC w10 (.cells #[.slice gA gn gc] 29) fun g3 w13 =>
  AppVC Tryz.prog #[103, 103] 103 (.slice moreA moren morec) (.slice (some ⟨g3, 0, none⟩) 1 1) w13 fun lA3 ln3 lc3 w14 =>
  K1018 ((lA3, ln3, lc3), IntKind.i64.wrap (i2 + 1)) w14)
set_option maxRecDepth 100000 in
def weirlaw13_own6_L522830 (R : Ending → World → Prop) (lA : Option Addr) (ln : Nat) (moreA : Option Addr) (moren : Nat) (i3 : Int) (K2042 : (Int → World → Prop)) (xn6 : Nat) (k4 : Int) (w17 : World) (K522830 : (Int → World → Prop)) : Prop :=
  Br (decide (k4 < (xn6 : Int)))
    (IdxVC lA ln 44 i3 fun a10 =>
  ∃ (xA8 : Option Addr) (xn8 xc8 : Nat), w17.cell? (a10.add 37) = some (.slice xA8 xn8 xc8) ∧
  IdxVC xA8 xn8 3 k4 fun a11 =>
  ∃ x2 : Int, w17.cell? a11 = some (.int .i64 x2) ∧
  Br (decide (x2 ≠ IntKind.i64.wrap (1000 + i3)))
    (R (.returned (.bool false)) w17)
    (IdxVC moreA moren 1 i3 fun a12 =>
    ∃ (xA9 : Option Addr) (xn9 xc9 : Nat), w17.cell? a12 = some (.slice xA9 xn9 xc9) ∧
    IdxVC xA9 xn9 3 k4 fun a13 =>
    ∃ x3 : Int, w17.cell? a13 = some (.int .i64 x3) ∧
    Br (decide (x3 ≠ IntKind.i64.wrap (1000 + i3)))
    (R (.returned (.bool false)) w17)
    (K522830 (IntKind.i64.wrap (k4 + 1)) w17)))
    (K2042 (IntKind.i64.wrap (i3 + 1)) w17)
set_option maxRecDepth 100000 in
def weirlaw13_own6_L522826 (R : Ending → World → Prop) (lA : Option Addr) (ln : Nat) (moreA : Option Addr) (moren : Nat) (i3 : Int) (K2042 : (Int → World → Prop)) (xn6 : Nat) (k3 : Int) (w16 : World) (K522826 : (Int → World → Prop)) : Prop :=
  Br (decide (k3 < IntKind.i64.wrap ((xn6 : Int) + 16)))
    (IdxVC moreA moren 1 i3 fun a8 =>
  ∃ (xA7 : Option Addr) (xn7 xc7 : Nat), w16.cell? a8 = some (.slice xA7 xn7 xc7) ∧
  IdxVC xA7 xn7 3 k3 fun a9 =>
  ∃ x1 : Int, w16.cell? a9 = some (.int .i64 x1) ∧
  Br (decide (x1 ≠ IntKind.i64.wrap ((-1) - i3)))
    (R (.returned (.bool false)) w16)
    (K522826 (IntKind.i64.wrap (k3 + 1)) w16))
    (LoopVC (S := Int) (fun s_ w17 K522830 => weirlaw13_own6_L522830 R lA ln moreA moren i3 K2042 xn6 s_ w17 K522830) 0 w16)
set_option maxRecDepth 100000 in
def weirlaw13_own6_L2042 (R : Ending → World → Prop) (lA : Option Addr) (ln : Nat) (x : Bool) (moreA : Option Addr) (moren : Nat) (i3 : Int) (w15 : World) (K2042 : (Int → World → Prop)) : Prop :=
  Br (decide (i3 < (ln : Int)))
    (IdxVC lA ln 44 i3 fun a7 =>
  ∃ (xA6 : Option Addr) (xn6 xc6 : Nat), w15.cell? (a7.add 37) = some (.slice xA6 xn6 xc6) ∧
  LoopVC (S := Int) (fun s_ w16 K522826 => weirlaw13_own6_L522826 R lA ln moreA moren i3 K2042 xn6 s_ w16 K522826) (xn6 : Int) w15)
    (R (.returned (.bool x)) w15)
set_option maxRecDepth 100000 in
def weirlaw13_own6_L1018 (R : Ending → World → Prop) (lA : Option Addr) (ln : Nat) (x : Bool) (moreA : Option Addr) (moren : Nat) (morec : Nat) (i2 : Int) (w9 : World) (K1018 : ((Option Addr × Nat × Nat) × Int → World → Prop)) : Prop :=
  Br (decide (i2 < (ln : Int)))
    (IdxVC lA ln 44 i2 fun a6 =>
  ∃ (xA5 : Option Addr) (xn5 xc5 : Nat), w9.cell? (a6.add 37) = some (.slice xA5 xn5 xc5) ∧
  LoopVC (S := (Option Addr × Nat × Nat) × Int) (fun s_ w10 K260682 => weirlaw13_own6_L260682 moreA moren morec i2 K1018 s_.1.1 s_.1.2.1 s_.1.2.2 s_.2 w10 K260682) ((xA5, xn5, xc5), 0) w9)
    (LoopVC (S := Int) (fun s_ w15 K2042 => weirlaw13_own6_L2042 R lA ln x moreA moren s_ w15 K2042) 0 w9)
set_option maxRecDepth 100000 in
def weirlaw13_own6_L250 (R : Ending → World → Prop) (lA : Option Addr) (ln : Nat) (x : Bool) (i1 : Int) (w6 : World) (K250 : (Int → World → Prop)) : Prop :=
  Br (decide (i1 < (ln : Int)))
    (LoopVC (S := Int) (fun s_ w7 K16018 => weirlaw13_own6_L16018 lA ln i1 K250 s_ w7 K16018) 0 w6)
    (LoopVC (S := (Option Addr × Nat × Nat) × Int) (fun s_ w9 K1018 => weirlaw13_own6_L1018 R lA ln x s_.1.1 s_.1.2.1 s_.1.2.2 s_.2 w9 K1018) ((none, 0, 0), 0) w6)
set_option maxRecDepth 100000 in
def weirlaw13_own6_L58 (R : Ending → World → Prop) (lA : Option Addr) (ln : Nat) (optsA : Option Addr) (optsn : Nat) (optsc : Nat) (i : Int) (w1 : World) (K58 : ((Option Addr × Nat × Nat) × Int → World → Prop)) : Prop :=
  Br (decide (i < (ln : Int)))
    (LoopVC (S := (Option Addr × Nat × Nat) × Int) (fun s_ w2 K3730 => weirlaw13_own6_L3730 lA ln i K58 s_.1.1 s_.1.2.1 s_.1.2.2 s_.2 w2 K3730) ((optsA, optsn, optsc), 0) w1)
    (Calls Tryz.prog 15 #[.slice optsA optsn optsc] w1 (onRet (fun r_ w5 => ∃ x : Bool, r_ = .bool x ∧
  LoopVC (S := Int) (fun s_ w6 K250 => weirlaw13_own6_L250 R lA ln x s_ w6 K250) 0 w5)
    (fun ch w5 => R (.panicked ch) w5)))
set_option maxRecDepth 100000 in
def weirlaw13_own6_VC (lA : Option Addr) (ln : Nat) (_lc : Nat) (w : World) (R : Ending → World → Prop) : Prop :=
  LoopVC (S := (Option Addr × Nat × Nat) × Int) (fun s_ w1 K58 => weirlaw13_own6_L58 R lA ln s_.1.1 s_.1.2.1 s_.1.2.2 s_.2 w1 K58) ((none, 0, 0), 0) w
def weirlaw13_own6_H : Hints := [(58, [(3, .slice), (4, .int .i64)]), (3730, [(3, .slice), (5, .int .i64)]), (250, [(7, .int .i64)]), (16018, [(8, .int .i64)]), (1018, [(9, .slice), (10, .int .i64)]), (260682, [(11, .slice), (12, .int .i64)]), (2042, [(13, .int .i64)]), (522826, [(15, .int .i64)]), (522830, [(16, .int .i64)])]
set_option maxRecDepth 100000 in
theorem weirlaw13_own6_of (lA : Option Addr) (ln : Nat) (lc : Nat) (w : World) (R : Ending → World → Prop) (hvc_ : weirlaw13_own6_VC lA ln lc w R) :
    Calls Tryz.prog 16 #[.slice lA ln lc] w R :=
  calls_of_wpc callOk mixedOk (H := weirlaw13_own6_H) (args := [.slice lA ln lc]) (fn := Tryz.f16) (c := bodyOf Tryz.f16) Tryz.func16 rfl (Nat.le_of_ble_eq_true rfl)
    (Eq.mp (by kernel_rfl : weirlaw13_own6_VC lA ln lc w R = wpc Tryz.prog callF Tryz.f16.ntmps weirlaw13_own6_H 1 (bodyOf Tryz.f16) (argEnv 0 [.slice lA ln lc]) [] w (finish Tryz.prog callF Tryz.f16.results.toList R)) hvc_)

set_option maxRecDepth 100000 in
def weirlaw13_Outer_full_L1682 (x : Option Addr) (i : Int) (K26 : (Int → World → Prop)) (k : Int) (w2 : World) (K1682 : (Int → World → Prop)) : Prop :=
  NilVC x fun p1 =>
  ∃ (xA1 : Option Addr) (xn1 xc1 : Nat), w2.cell? p1 = some (.slice xA1 xn1 xc1) ∧
  IdxVC xA1 xn1 1 i fun a =>
  ∃ (xA2 : Option Addr) (xn2 xc2 : Nat), w2.cell? a = some (.slice xA2 xn2 xc2) ∧
  Br (decide (k < (xn2 : Int)))
    (NilVC x fun p2 =>
  ∃ (xA3 : Option Addr) (xn3 xc3 : Nat), w2.cell? p2 = some (.slice xA3 xn3 xc3) ∧
  IdxVC xA3 xn3 1 i fun a1 =>
  ∃ (xA4 : Option Addr) (xn4 xc4 : Nat), w2.cell? a1 = some (.slice xA4 xn4 xc4) ∧
  IdxVC xA4 xn4 43 k fun a2 =>
  Stores a2 0 [.int .i64 0, .int .i64 (IntKind.i64.wrap ((-1000) - i)), .bool false, .bool false, .int .i64 0, .int .i64 0, .int .i64 0, .int .i64 0, .int .u8 0, .int .u8 0, .int .u8 0, .int .u8 0, .int .u8 0, .int .u8 0, .int .u8 0, .int .u8 0, .int .u8 0, .int .u8 0, .int .u8 0, .int .u8 0, .int .u8 0, .int .u8 0, .int .u8 0, .int .u8 0, .int .i64 0, .int .u8 0, .int .u8 0, .int .u8 0, .int .u8 0, .int .u8 0, .int .u8 0, .int .u8 0, .int .u8 0, .int .u8 0, .int .u8 0, .int .u8 0, .int .u8 0, .int .u8 0, .int .u8 0, .int .u8 0, .int .u8 0, .slice none 0 0, .slice none 0 0] w2 fun w3 =>
  K1682 (IntKind.i64.wrap (k + 1)) w3)
    (K26 (IntKind.i64.wrap (i + 1)) w2)
set_option maxRecDepth 100000 in
def weirlaw13_Outer_full_L3730 (x : Option Addr) (i1 : Int) (K58 : (Int → World → Prop)) (k1 : Int) (w5 : World) (K3730 : (Int → World → Prop)) : Prop :=
  NilVC x fun p4 =>
  ∃ (xA6 : Option Addr) (xn6 xc6 : Nat), w5.cell? (p4.add 1) = some (.slice xA6 xn6 xc6) ∧
  IdxVC xA6 xn6 1 i1 fun a3 =>
  ∃ (xA7 : Option Addr) (xn7 xc7 : Nat), w5.cell? a3 = some (.slice xA7 xn7 xc7) ∧
  Br (decide (k1 < (xn7 : Int)))
    (NilVC x fun p5 =>
  ∃ (xA8 : Option Addr) (xn8 xc8 : Nat), w5.cell? (p5.add 1) = some (.slice xA8 xn8 xc8) ∧
  IdxVC xA8 xn8 1 i1 fun a4 =>
  ∃ (xA9 : Option Addr) (xn9 xc9 : Nat), w5.cell? a4 = some (.slice xA9 xn9 xc9) ∧
  IdxVC xA9 xn9 44 k1 fun a5 =>
  Stores a5 0 [.int .i64 0, .int .i64 0, .int .i64 0, .int .i64 0, .int .u8 0, .int .u8 0, .int .u8 0, .int .u8 0, .int .u8 0, .int .u8 0, .int .u8 0, .int .u8 0, .int .u8 0, .int .u8 0, .int .u8 0, .int .u8 0, .int .u8 0, .int .u8 0, .int .u8 0, .int .u8 0, .int .i64 0, .int .u8 0, .int .u8 0, .int .u8 0, .int .u8 0, .int .u8 0, .int .u8 0, .int .u8 0, .int .u8 0, .int .u8 0, .int .u8 0, .int .u8 0, .int .u8 0, .int .u8 0, .int .u8 0, .int .u8 0, .int .u8 0, .slice none 0 0, .bool false, .bool false, .int .i64 0, .int .i64 0, .int .i64 (IntKind.i64.wrap ((-1000) - i1)), .slice none 0 0] w5 fun w6 =>
  K3730 (IntKind.i64.wrap (k1 + 1)) w6)
    (K58 (IntKind.i64.wrap (i1 + 1)) w5)
set_option maxRecDepth 100000 in
def weirlaw13_Outer_full_L64074 (g1 : Nat) (i2 : Int) (K250 : (Int → World → Prop)) (gA : Option Addr) (gn : Nat) (gc : Nat) (k2 : Int) (w9 : World) (K64074 : ((Option Addr × Nat × Nat) × Int → World → Prop)) : Prop :=
  Br (decide (k2 < 70))
    (NewVC w9 (.cells #[.int .i64 0, .int .i64 (IntKind.i64.wrap ((-1000) - i2)), .bool false, .bool false, .int .i64 0, .int .i64 0, .int .i64 0, .int .i64 0, .int .u8 0, .int .u8 0, .int .u8 0, .int .u8 0, .int .u8 0, .int .u8 0, .int .u8 0, .int .u8 0, .int .u8 0, .int .u8 0, .int .u8 0, .int .u8 0, .int .u8 0, .int .u8 0, .int .u8 0, .int .u8 0, .int .i64 0, .int .u8 0, .int .u8 0, .int .u8 0, .int .u8 0, .int .u8 0, .int .u8 0, .int .u8 0, .int .u8 0, .int .u8 0, .int .u8 0, .int .u8 0, .int .u8 0, .int .u8 0, .int .u8 0, .int .u8 0, .int .u8 0, .slice none 0 0, .slice none 0 0] 28) fun g2 w10 =>
  AppVC Tryz.prog #[34, 34] 34 (.slice gA gn gc) (.slice (some ⟨g2, 0, none⟩) 1 1) w10 fun lA ln lc w11 =>
  K64074 ((lA, ln, lc), IntKind.i64.wrap (k2 + 1)) w11)
    (NilVC (some ⟨g1, 0, none⟩) fun p8 =>
  ∃ (xA13 : Option Addr) (xn13 xc13 : Nat), w9.cell? p8 = some (.slice xA13 xn13 xc13) ∧
  NewVC w9 (.cells #[.slice gA gn gc] 34) fun g3 w12 =>
  AppVC Tryz.prog #[41, 41] 41 (.slice xA13 xn13 xc13) (.slice (some ⟨g3, 0, none⟩) 1 1) w12 fun lA1 ln1 lc1 w13 =>
  NilVC (some ⟨g1, 0, none⟩) fun p9 =>
  SetVC w13 p9 (.slice lA1 ln1 lc1) fun w14 =>
  K250 (IntKind.i64.wrap (i2 + 1)) w14)
set_option maxRecDepth 100000 in
def weirlaw13_Outer_full_L129610 (g1 : Nat) (i3 : Int) (K506 : (Int → World → Prop)) (gA1 : Option Addr) (gn1 : Nat) (gc1 : Nat) (k3 : Int) (w16 : World) (K129610 : ((Option Addr × Nat × Nat) × Int → World → Prop)) : Prop :=
  Br (decide (k3 < 70))
    (NewVC w16 (.cells #[.int .i64 0, .int .i64 0, .int .i64 0, .int .i64 0, .int .u8 0, .int .u8 0, .int .u8 0, .int .u8 0, .int .u8 0, .int .u8 0, .int .u8 0, .int .u8 0, .int .u8 0, .int .u8 0, .int .u8 0, .int .u8 0, .int .u8 0, .int .u8 0, .int .u8 0, .int .u8 0, .int .i64 0, .int .u8 0, .int .u8 0, .int .u8 0, .int .u8 0, .int .u8 0, .int .u8 0, .int .u8 0, .int .u8 0, .int .u8 0, .int .u8 0, .int .u8 0, .int .u8 0, .int .u8 0, .int .u8 0, .int .u8 0, .int .u8 0, .slice none 0 0, .bool false, .bool false, .int .i64 0, .int .i64 0, .int .i64 (IntKind.i64.wrap ((-1000) - i3)), .slice none 0 0] 33) fun g4 w17 =>
  AppVC Tryz.prog #[37, 37] 37 (.slice gA1 gn1 gc1) (.slice (some ⟨g4, 0, none⟩) 1 1) w17 fun lA2 ln2 lc2 w18 =>
  K129610 ((lA2, ln2, lc2), IntKind.i64.wrap (k3 + 1)) w18)
    (NilVC (some ⟨g1, 0, none⟩) fun p12 =>
  ∃ (xA17 : Option Addr) (xn17 xc17 : Nat), w16.cell? (p12.add 1) = some (.slice xA17 xn17 xc17) ∧
  NewVC w16 (.cells #[.slice gA1 gn1 gc1] 37) fun g5 w19 =>
  AppVC Tryz.prog #[42, 42] 42 (.slice xA17 xn17 xc17) (.slice (some ⟨g5, 0, none⟩) 1 1) w19 fun lA3 ln3 lc3 w20 =>
  NilVC (some ⟨g1, 0, none⟩) fun p13 =>
  SetVC w20 (p13.add 1) (.slice lA3 ln3 lc3) fun w21 =>
  K506 (IntKind.i64.wrap (i3 + 1)) w21)
set_option maxRecDepth 100000 in
def weirlaw13_Outer_full_L506 (R : Ending → World → Prop) (x : Option Addr) (g1 : Nat) (i3 : Int) (w15 : World) (K506 : (Int → World → Prop)) : Prop :=
  NilVC x fun p10 =>
  ∃ (xA14 : Option Addr) (xn14 xc14 : Nat), w15.cell? (p10.add 1) = some (.slice xA14 xn14 xc14) ∧
  Br (decide (i3 < (xn14 : Int)))
    (NilVC x fun p11 =>
  ∃ (xA15 : Option Addr) (xn15 xc15 : Nat), w15.cell? (p11.add 1) = some (.slice xA15 xn15 xc15) ∧
  IdxVC xA15 xn15 1 i3 fun a7 =>
  ∃ (xA16 : Option Addr) (xn16 xc16 : Nat), w15.cell? a7 = some (.slice xA16 xn16 xc16) ∧
  LoopVC (S := (Option Addr × Nat × Nat) × Int) (fun s_ w16 K129610 => weirlaw13_Outer_full_L129610 g1 i3 K506 s_.1.1 s_.1.2.1 s_.1.2.2 s_.2 w16 K129610) ((xA16, xn16, xc16), 0) w15)
    (R (.returned (.pointer (some ⟨g1, 0, none⟩))) w15)
set_option maxRecDepth 100000 in
def weirlaw13_Outer_full_L250 (R : Ending → World → Prop) (x : Option Addr) (g1 : Nat) (i2 : Int) (w8 : World) (K250 : (Int → World → Prop)) : Prop :=
  NilVC x fun p6 =>
  ∃ (xA10 : Option Addr) (xn10 xc10 : Nat), w8.cell? p6 = some (.slice xA10 xn10 xc10) ∧
  Br (decide (i2 < (xn10 : Int)))
    (NilVC x fun p7 =>
  ∃ (xA11 : Option Addr) (xn11 xc11 : Nat), w8.cell? p7 = some (.slice xA11 xn11 xc11) ∧
  IdxVC xA11 xn11 1 i2 fun a6 =>
  ∃ (xA12 : Option Addr) (xn12 xc12 : Nat), w8.cell? a6 = some (.slice xA12 xn12 xc12) ∧
  LoopVC (S := (Option Addr × Nat × Nat) × Int) (fun s_ w9 K64074 => weirlaw13_Outer_full_L64074 g1 i2 K250 s_.1.1 s_.1.2.1 s_.1.2.2 s_.2 w9 K64074) ((xA12, xn12, xc12), 0) w8)
    (LoopVC (S := Int) (fun s_ w15 K506 => weirlaw13_Outer_full_L506 R x g1 s_ w15 K506) 0 w8)
set_option maxRecDepth 100000 in
def weirlaw13_Outer_full_L58 (R : Ending → World → Prop) (x : Option Addr) (i1 : Int) (w4 : World) (K58 : (Int → World → Prop)) : Prop :=
  NilVC x fun p3 =>
  ∃ (xA5 : Option Addr) (xn5 xc5 : Nat), w4.cell? (p3.add 1) = some (.slice xA5 xn5 xc5) ∧
  Br (decide (i1 < (xn5 : Int)))
    (LoopVC (S := Int) (fun s_ w5 K3730 => weirlaw13_Outer_full_L3730 x i1 K58 s_ w5 K3730) 0 w4)
    (NewVC w4 (.cells #[.slice none 0 0, .slice none 0 0] 44) fun g1 w7 =>
  LoopVC (S := Int) (fun s_ w8 K250 => weirlaw13_Outer_full_L250 R x g1 s_ w8 K250) 0 w7)
set_option maxRecDepth 100000 in
def weirlaw13_Outer_full_L26 (R : Ending → World → Prop) (x : Option Addr) (i : Int) (w1 : World) (K26 : (Int → World → Prop)) : Prop :=
  NilVC x fun p =>
  ∃ (xA : Option Addr) (xn xc : Nat), w1.cell? p = some (.slice xA xn xc) ∧
  Br (decide (i < (xn : Int)))
    (LoopVC (S := Int) (fun s_ w2 K1682 => weirlaw13_Outer_full_L1682 x i K26 s_ w2 K1682) 0 w1)
    (LoopVC (S := Int) (fun s_ w4 K58 => weirlaw13_Outer_full_L58 R x s_ w4 K58) 0 w1)
set_option maxRecDepth 100000 in
def weirlaw13_Outer_full_VC (x : Option Addr) (w : World) (R : Ending → World → Prop) : Prop :=
  LoopVC (S := Int) (fun s_ w1 K26 => weirlaw13_Outer_full_L26 R x s_ w1 K26) 0 w
def weirlaw13_Outer_full_H : Hints := [(26, [(3, .int .i64)]), (1682, [(4, .int .i64)]), (58, [(5, .int .i64)]), (3730, [(6, .int .i64)]), (250, [(8, .int .i64)]), (64074, [(9, .slice), (10, .int .i64)]), (506, [(11, .int .i64)]), (129610, [(12, .slice), (13, .int .i64)])]
set_option maxRecDepth 100000 in
theorem weirlaw13_Outer_full_of (x : Option Addr) (w : World) (R : Ending → World → Prop) (hvc_ : weirlaw13_Outer_full_VC x w R) :
    Calls Tryz.prog 17 #[.pointer x] w R :=
  calls_of_wpc callOk mixedOk (H := weirlaw13_Outer_full_H) (args := [.pointer x]) (fn := Tryz.f17) (c := bodyOf Tryz.f17) Tryz.func17 rfl (Nat.le_of_ble_eq_true rfl)
    (Eq.mp (by kernel_rfl : weirlaw13_Outer_full_VC x w R = wpc Tryz.prog callF Tryz.f17.ntmps weirlaw13_Outer_full_H 1 (bodyOf Tryz.f17) (argEnv 0 [.pointer x]) [] w (finish Tryz.prog callF Tryz.f17.results.toList R)) hvc_)

set_option maxRecDepth 100000 in
def weirlaw13_Outer_holds_L1682 (R : Ending → World → Prop) (x : Option Addr) (i : Int) (K26 : (Int → World → Prop)) (k : Int) (w2 : World) (K1682 : (Int → World → Prop)) : Prop :=
  NilVC x fun p1 =>
  ∃ (xA1 : Option Addr) (xn1 xc1 : Nat), w2.cell? p1 = some (.slice xA1 xn1 xc1) ∧
  IdxVC xA1 xn1 1 i fun a =>
  ∃ (xA2 : Option Addr) (xn2 xc2 : Nat), w2.cell? a = some (.slice xA2 xn2 xc2) ∧
  Br (decide (k < (xn2 : Int)))
    (NilVC x fun p2 =>
  ∃ (xA3 : Option Addr) (xn3 xc3 : Nat), w2.cell? p2 = some (.slice xA3 xn3 xc3) ∧
  IdxVC xA3 xn3 1 i fun a1 =>
  ∃ (xA4 : Option Addr) (xn4 xc4 : Nat), w2.cell? a1 = some (.slice xA4 xn4 xc4) ∧
  IdxVC xA4 xn4 43 k fun a2 =>
  ∃ x1 : Int, w2.cell? (a2.add 1) = some (.int .i64 x1) ∧
  Br (decide (x1 ≠ IntKind.i64.wrap ((-1000) - i)))
    (R (.returned (.bool false)) w2)
    (NilVC x fun p3 =>
    ∃ (xA5 : Option Addr) (xn5 xc5 : Nat), w2.cell? p3 = some (.slice xA5 xn5 xc5) ∧
    IdxVC xA5 xn5 1 i fun a3 =>
    ∃ (xA6 : Option Addr) (xn6 xc6 : Nat), w2.cell? a3 = some (.slice xA6 xn6 xc6) ∧
    IdxVC xA6 xn6 43 k fun a4 =>
    ∃ (xA7 : Option Addr) (xn7 xc7 : Nat), w2.cell? (a4.add 42) = some (.slice xA7 xn7 xc7) ∧
    Br (decide ((0 : Int) < (xn7 : Int)))
    (R (.returned (.bool false)) w2)
    (K1682 (IntKind.i64.wrap (k + 1)) w2)))
    (K26 (IntKind.i64.wrap (i + 1)) w2)
set_option maxRecDepth 100000 in
def weirlaw13_Outer_holds_L3730 (R : Ending → World → Prop) (x : Option Addr) (i1 : Int) (K58 : (Int → World → Prop)) (k1 : Int) (w4 : World) (K3730 : (Int → World → Prop)) : Prop :=
  NilVC x fun p5 =>
  ∃ (xA9 : Option Addr) (xn9 xc9 : Nat), w4.cell? (p5.add 1) = some (.slice xA9 xn9 xc9) ∧
  IdxVC xA9 xn9 1 i1 fun a5 =>
  ∃ (xA10 : Option Addr) (xn10 xc10 : Nat), w4.cell? a5 = some (.slice xA10 xn10 xc10) ∧
  Br (decide (k1 < (xn10 : Int)))
    (NilVC x fun p6 =>
  ∃ (xA11 : Option Addr) (xn11 xc11 : Nat), w4.cell? (p6.add 1) = some (.slice xA11 xn11 xc11) ∧
  IdxVC xA11 xn11 1 i1 fun a6 =>
  ∃ (xA12 : Option Addr) (xn12 xc12 : Nat), w4.cell? a6 = some (.slice xA12 xn12 xc12) ∧
  IdxVC xA12 xn12 44 k1 fun a7 =>
  ∃ x2 : Int, w4.cell? (a7.add 42) = some (.int .i64 x2) ∧
  Br (decide (x2 ≠ IntKind.i64.wrap ((-1000) - i1)))
    (R (.returned (.bool false)) w4)
    (NilVC x fun p7 =>
    ∃ (xA13 : Option Addr) (xn13 xc13 : Nat), w4.cell? (p7.add 1) = some (.slice xA13 xn13 xc13) ∧
    IdxVC xA13 xn13 1 i1 fun a8 =>
    ∃ (xA14 : Option Addr) (xn14 xc14 : Nat), w4.cell? a8 = some (.slice xA14 xn14 xc14) ∧
    IdxVC xA14 xn14 44 k1 fun a9 =>
    ∃ (xA15 : Option Addr) (xn15 xc15 : Nat), w4.cell? (a9.add 43) = some (.slice xA15 xn15 xc15) ∧
    Br (decide ((0 : Int) < (xn15 : Int)))
    (R (.returned (.bool false)) w4)
    (K3730 (IntKind.i64.wrap (k1 + 1)) w4)))
    (K58 (IntKind.i64.wrap (i1 + 1)) w4)
set_option maxRecDepth 100000 in
def weirlaw13_Outer_holds_L58 (R : Ending → World → Prop) (x : Option Addr) (i1 : Int) (w3 : World) (K58 : (Int → World → Prop)) : Prop :=
  NilVC x fun p4 =>
  ∃ (xA8 : Option Addr) (xn8 xc8 : Nat), w3.cell? (p4.add 1) = some (.slice xA8 xn8 xc8) ∧
  Br (decide (i1 < (xn8 : Int)))
    (LoopVC (S := Int) (fun s_ w4 K3730 => weirlaw13_Outer_holds_L3730 R x i1 K58 s_ w4 K3730) 0 w3)
    (R (.returned (.bool true)) w3)
set_option maxRecDepth 100000 in
def weirlaw13_Outer_holds_L26 (R : Ending → World → Prop) (x : Option Addr) (i : Int) (w1 : World) (K26 : (Int → World → Prop)) : Prop :=
  NilVC x fun p =>
  ∃ (xA : Option Addr) (xn xc : Nat), w1.cell? p = some (.slice xA xn xc) ∧
  Br (decide (i < (xn : Int)))
    (LoopVC (S := Int) (fun s_ w2 K1682 => weirlaw13_Outer_holds_L1682 R x i K26 s_ w2 K1682) 0 w1)
    (LoopVC (S := Int) (fun s_ w3 K58 => weirlaw13_Outer_holds_L58 R x s_ w3 K58) 0 w1)
set_option maxRecDepth 100000 in
def weirlaw13_Outer_holds_VC (x : Option Addr) (w : World) (R : Ending → World → Prop) : Prop :=
  LoopVC (S := Int) (fun s_ w1 K26 => weirlaw13_Outer_holds_L26 R x s_ w1 K26) 0 w
def weirlaw13_Outer_holds_H : Hints := [(26, [(3, .int .i64)]), (1682, [(4, .int .i64)]), (58, [(5, .int .i64)]), (3730, [(6, .int .i64)])]
set_option maxRecDepth 100000 in
theorem weirlaw13_Outer_holds_of (x : Option Addr) (w : World) (R : Ending → World → Prop) (hvc_ : weirlaw13_Outer_holds_VC x w R) :
    Calls Tryz.prog 18 #[.pointer x] w R :=
  calls_of_wpc callOk mixedOk (H := weirlaw13_Outer_holds_H) (args := [.pointer x]) (fn := Tryz.f18) (c := bodyOf Tryz.f18) Tryz.func18 rfl (Nat.le_of_ble_eq_true rfl)
    (Eq.mp (by kernel_rfl : weirlaw13_Outer_holds_VC x w R = wpc Tryz.prog callF Tryz.f18.ntmps weirlaw13_Outer_holds_H 1 (bodyOf Tryz.f18) (argEnv 0 [.pointer x]) [] w (finish Tryz.prog callF Tryz.f18.results.toList R)) hvc_)

set_option maxRecDepth 100000 in
def weirlaw13_SplitLent_L2097146 (R : Ending → World → Prop) (mtu : Int) (id : Int) (g1 : Nat) (g2 : Nat) (g3 : Nat) (g4 : Nat) (x0A : Option Addr) (x0n : Nat) (x0c : Nat) (x0A1 : Option Addr) (x0n1 : Nat) (x0c1 : Nat) (x0A2 : Option Addr) (x0n2 : Nat) (x0c2 : Nat) (x0A3 : Option Addr) (x0n3 : Nat) (x0c3 : Nat) (g5 : Nat) (bytesA : Option Addr) (bytesn : Nat) (bytesc : Nat) (xA20 : Option Addr) (xn20 : Nat) (xc20 : Nat) (allA : Option Addr) (alln : Nat) (allc : Nat) (extA : Option Addr) (extn : Nat) (extc : Nat) (i3 : Int) (w39 : World) (K2097146 : ((Option Addr × Nat × Nat) × (Option Addr × Nat × Nat) × Int → World → Prop)) : Prop :=
  Br (decide (i3 < 6))
    (NilVC (some ⟨g5, 0, none⟩) fun p12 =>
  ∃ (xA21 : Option Addr) (xn21 xc21 : Nat), w39.cell? p12 = some (.slice xA21 xn21 xc21) ∧
  IdxVC xA21 xn21 1 i3 fun a15 =>
  ∃ (xA22 : Option Addr) (xn22 xc22 : Nat), w39.cell? a15 = some (.slice xA22 xn22 xc22) ∧
  AppVC Tryz.prog #[34, 34] 34 (.slice allA alln allc) (.slice xA22 xn22 xc22) w39 fun lA4 ln4 lc4 w40 =>
  NilVC (some ⟨g5, 0, none⟩) fun p13 =>
  ∃ (xA23 : Option Addr) (xn23 xc23 : Nat), w40.cell? (p13.add 1) = some (.slice xA23 xn23 xc23) ∧
  IdxVC xA23 xn23 1 i3 fun a16 =>
  ∃ (xA24 : Option Addr) (xn24 xc24 : Nat), w40.cell? a16 = some (.slice xA24 xn24 xc24) ∧
  AppVC Tryz.prog #[37, 37] 37 (.slice extA extn extc) (.slice xA24 xn24 xc24) w40 fun lA5 ln5 lc5 w41 =>
  K2097146 ((lA4, ln4, lc4), (lA5, ln5, lc5), IntKind.i64.wrap (i3 + 1)) w41)
    (Calls Tryz.prog 15 #[.slice allA alln allc] w39 (onRet (fun r_16 w42 => ∃ x18 : Bool, r_16 = .bool x18 ∧
  Calls Tryz.prog 16 #[.slice extA extn extc] w42 (onRet (fun r_17 w43 => ∃ x19 : Bool, r_17 = .bool x19 ∧
  Calls Tryz.prog 17 #[.pointer (some ⟨g5, 0, none⟩)] w43 (onRet (fun r_18 w44 => ∃ x20 : Option Addr, r_18 = .pointer x20 ∧
  Br (!x18)
    (R (.returned (.bool false)) w44)
    (Br (!x19)
      (R (.returned (.bool false)) w44)
      (Calls Tryz.prog 18 #[.pointer (some ⟨g5, 0, none⟩)] w44 (onRet (fun r_19 w45 => ∃ x21 : Bool, r_19 = .bool x21 ∧
      Br (!x21)
        (R (.returned (.bool false)) w45)
        (Calls Tryz.prog 18 #[.pointer x20] w45 (onRet (fun r_20 w46 => ∃ x22 : Bool, r_20 = .bool x22 ∧
        Br (!x22)
    (R (.returned (.bool false)) w46)
    (Ip4V.ex fun h11 => CellsAt w46 ⟨g1, 0, none⟩ 0 h11.cells ∧
  Calls Tryz.prog 7 #[h11.val, .int .i64 mtu] w46 (onRet (fun r_21 w47 => ∃ (x0A6 : Option Addr) (x0n6 x0c6 : Nat), ∃ x110 : Int, r_21 = .tuple #[.slice x0A6 x0n6 x0c6, .int .i64 x110] ∧
  Ip4V.ex fun h12 => CellsAt w47 ⟨g2, 0, none⟩ 0 h12.cells ∧
  Calls Tryz.prog 7 #[h12.val, .int .i64 mtu] w47 (onRet (fun r_22 w48 => ∃ (x0A7 : Option Addr) (x0n7 x0c7 : Nat), ∃ x111 : Int, r_22 = .tuple #[.slice x0A7 x0n7 x0c7, .int .i64 x111] ∧
  Ip6V.ex fun h13 => CellsAt w48 ⟨g3, 0, none⟩ 0 h13.cells ∧
  Calls Tryz.prog 8 #[h13.val, .int .i64 mtu, .int .i64 id] w48 (onRet (fun r_23 w49 => ∃ (x0A8 : Option Addr) (x0n8 x0c8 : Nat), ∃ x112 : Int, r_23 = .tuple #[.slice x0A8 x0n8 x0c8, .int .i64 x112] ∧
  Ip6V.ex fun h14 => CellsAt w49 ⟨g4, 0, none⟩ 0 h14.cells ∧
  Calls Tryz.prog 8 #[h14.val, .int .i64 mtu, .int .i64 id] w49 (onRet (fun r_24 w50 => ∃ (x0A9 : Option Addr) (x0n9 x0c9 : Nat), ∃ x113 : Int, r_24 = .tuple #[.slice x0A9 x0n9 x0c9, .int .i64 x113] ∧
  Calls Tryz.prog 9 #[.slice x0A6 x0n6 x0c6, .slice x0A x0n x0c] w50 (onRet (fun r_25 w51 => ∃ x23 : Bool, r_25 = .bool x23 ∧
  Br (!x23)
    (R (.returned (.bool false)) w51)
    (Calls Tryz.prog 9 #[.slice x0A7 x0n7 x0c7, .slice x0A1 x0n1 x0c1] w51 (onRet (fun r_26 w52 => ∃ x24 : Bool, r_26 = .bool x24 ∧
    Br (!x24)
      (R (.returned (.bool false)) w52)
      (Calls Tryz.prog 10 #[.slice x0A8 x0n8 x0c8, .slice x0A2 x0n2 x0c2] w52 (onRet (fun r_27 w53 => ∃ x25 : Bool, r_27 = .bool x25 ∧
      Br (!x25)
        (R (.returned (.bool false)) w53)
        (Calls Tryz.prog 10 #[.slice x0A9 x0n9 x0c9, .slice x0A3 x0n3 x0c3] w53 (onRet (fun r_28 w54 => ∃ x26 : Bool, r_28 = .bool x26 ∧
        Br (!x26)
    (R (.returned (.bool false)) w54)
    (Calls Tryz.prog 19 #[] w54 (onRet (fun r_29 w55 => ∃ x27 : Bool, r_29 = .bool x27 ∧
  Br x27
    (Calls Tryz.prog 14 #[.slice bytesA bytesn bytesc, .slice xA20 xn20 xc20] w55 (onRet (fun r_30 w56 => ∃ x28 : Bool, r_30 = .bool x28 ∧
    Br x28
      (Calls Tryz.prog 18 #[.pointer (some ⟨g5, 0, none⟩)] w56 (onRet (fun r_31 w57 => ∃ x29 : Bool, r_31 = .bool x29 ∧
      Br x29
        (Calls Tryz.prog 18 #[.pointer x20] w57 (onRet (fun r_32 w58 => ∃ x30 : Bool, r_32 = .bool x30 ∧
        R (.returned (.bool x30)) w58)
          (fun ch32 w58 => R (.panicked ch32) w58)))
        (R (.returned (.bool false)) w57))
        (fun ch31 w57 => R (.panicked ch31) w57)))
      (R (.returned (.bool false)) w56))
      (fun ch30 w56 => R (.panicked ch30) w56)))
    (R (.returned (.bool false)) w55))
    (fun ch29 w55 => R (.panicked ch29) w55))))
          (fun ch28 w54 => R (.panicked ch28) w54))))
        (fun ch27 w53 => R (.panicked ch27) w53))))
      (fun ch26 w52 => R (.panicked ch26) w52))))
    (fun ch25 w51 => R (.panicked ch25) w51)))
    (fun ch24 w50 => R (.panicked ch24) w50)))
    (fun ch23 w49 => R (.panicked ch23) w49)))
    (fun ch22 w48 => R (.panicked ch22) w48)))
    (fun ch21 w47 => R (.panicked ch21) w47))))
          (fun ch20 w46 => R (.panicked ch20) w46))))
        (fun ch19 w45 => R (.panicked ch19) w45)))))
    (fun ch18 w44 => R (.panicked ch18) w44)))
    (fun ch17 w43 => R (.panicked ch17) w43)))
    (fun ch16 w42 => R (.panicked ch16) w42)))
set_option maxRecDepth 100000 in
def weirlaw13_SplitLent_L65530 (R : Ending → World → Prop) (mtu : Int) (id : Int) (g1 : Nat) (g2 : Nat) (g3 : Nat) (g4 : Nat) (x0A : Option Addr) (x0n : Nat) (x0c : Nat) (x0A1 : Option Addr) (x0n1 : Nat) (x0c1 : Nat) (x0A2 : Option Addr) (x0n2 : Nat) (x0c2 : Nat) (x0A3 : Option Addr) (x0n3 : Nat) (x0c3 : Nat) (g5 : Nat) (bytesA : Option Addr) (bytesn : Nat) (bytesc : Nat) (i2 : Int) (w32 : World) (K65530 : ((Option Addr × Nat × Nat) × Int → World → Prop)) : Prop :=
  Br (decide (i2 < 6))
    (NilVC (some ⟨g5, 0, none⟩) fun p10 =>
  ∃ (xA14 : Option Addr) (xn14 xc14 : Nat), w32.cell? p10 = some (.slice xA14 xn14 xc14) ∧
  IdxVC xA14 xn14 1 i2 fun a13 =>
  ∃ (xA15 : Option Addr) (xn15 xc15 : Nat), w32.cell? a13 = some (.slice xA15 xn15 xc15) ∧
  Calls Tryz.prog 11 #[.slice xA15 xn15 xc15] w32 (onRet (fun r_12 w33 => ∃ (xA16 : Option Addr) (xn16 xc16 : Nat), r_12 = .slice xA16 xn16 xc16 ∧
  AppVC Tryz.prog #[53, 53] 53 (.slice bytesA bytesn bytesc) (.slice xA16 xn16 xc16) w33 fun lA2 ln2 lc2 w34 =>
  NilVC (some ⟨g5, 0, none⟩) fun p11 =>
  ∃ (xA17 : Option Addr) (xn17 xc17 : Nat), w34.cell? (p11.add 1) = some (.slice xA17 xn17 xc17) ∧
  IdxVC xA17 xn17 1 i2 fun a14 =>
  ∃ (xA18 : Option Addr) (xn18 xc18 : Nat), w34.cell? a14 = some (.slice xA18 xn18 xc18) ∧
  Calls Tryz.prog 12 #[.slice xA18 xn18 xc18] w34 (onRet (fun r_13 w35 => ∃ (xA19 : Option Addr) (xn19 xc19 : Nat), r_13 = .slice xA19 xn19 xc19 ∧
  AppVC Tryz.prog #[53, 53] 53 (.slice lA2 ln2 lc2) (.slice xA19 xn19 xc19) w35 fun lA3 ln3 lc3 w36 =>
  K65530 ((lA3, ln3, lc3), IntKind.i64.wrap (i2 + 1)) w36)
    (fun ch13 w35 => R (.panicked ch13) w35)))
    (fun ch12 w33 => R (.panicked ch12) w33)))
    (Calls Tryz.prog 13 #[.slice bytesA bytesn bytesc] w32 (onRet (fun r_14 w37 => ∃ (xA20 : Option Addr) (xn20 xc20 : Nat), r_14 = .slice xA20 xn20 xc20 ∧
  Calls Tryz.prog 14 #[.slice bytesA bytesn bytesc, .slice xA20 xn20 xc20] w37 (onRet (fun r_15 w38 => ∃ x17 : Bool, r_15 = .bool x17 ∧
  Br (!x17)
    (R (.returned (.bool false)) w38)
    (LoopVC (S := (Option Addr × Nat × Nat) × (Option Addr × Nat × Nat) × Int) (fun s_ w39 K2097146 => weirlaw13_SplitLent_L2097146 R mtu id g1 g2 g3 g4 x0A x0n x0c x0A1 x0n1 x0c1 x0A2 x0n2 x0c2 x0A3 x0n3 x0c3 g5 bytesA bytesn bytesc xA20 xn20 xc20 s_.1.1 s_.1.2.1 s_.1.2.2 s_.2.1.1 s_.2.1.2.1 s_.2.1.2.2 s_.2.2 w39 K2097146) ((none, 0, 0), (none, 0, 0), 0) w38))
    (fun ch15 w38 => R (.panicked ch15) w38)))
    (fun ch14 w37 => R (.panicked ch14) w37)))
set_option maxRecDepth 100000 in
def weirlaw13_SplitLent_L32762 (R : Ending → World → Prop) (mtu : Int) (id : Int) (g1 : Nat) (g2 : Nat) (g3 : Nat) (g4 : Nat) (x0A : Option Addr) (x0n : Nat) (x0c : Nat) (x0A1 : Option Addr) (x0n1 : Nat) (x0c1 : Nat) (x0A2 : Option Addr) (x0n2 : Nat) (x0c2 : Nat) (x0A3 : Option Addr) (x0n3 : Nat) (x0c3 : Nat) (g5 : Nat) (g8 : Nat) (i1 : Int) (w25 : World) (K32762 : (Int → World → Prop)) : Prop :=
  Br (decide (i1 < 6))
    (IdxVC (some ⟨g8, 0, none⟩) 6 1 i1 fun a4 =>
  ∃ x3 : Int, w25.cell? a4 = some (.int .i64 x3) ∧
  Br (decide (x3 = 0))
    (NilVC (some ⟨g5, 0, none⟩) fun p4 =>
    ∃ (xA2 : Option Addr) (xn2 xc2 : Nat), w25.cell? p4 = some (.slice xA2 xn2 xc2) ∧
    IdxVC xA2 xn2 1 i1 fun a5 =>
    ∃ (xA3 : Option Addr) (xn3 xc3 : Nat), w25.cell? a5 = some (.slice xA3 xn3 xc3) ∧
    Calls Tryz.prog 9 #[.slice xA3 xn3 xc3, .slice x0A x0n x0c] w25 (onRet (fun r_6 w26 => ∃ x4 : Bool, r_6 = .bool x4 ∧
    Br (!x4)
      (R (.returned (.bool false)) w26)
      (NilVC (some ⟨g5, 0, none⟩) fun p5 =>
      ∃ (xA4 : Option Addr) (xn4 xc4 : Nat), w26.cell? (p5.add 1) = some (.slice xA4 xn4 xc4) ∧
      IdxVC xA4 xn4 1 i1 fun a6 =>
      ∃ (xA5 : Option Addr) (xn5 xc5 : Nat), w26.cell? a6 = some (.slice xA5 xn5 xc5) ∧
      Calls Tryz.prog 10 #[.slice xA5 xn5 xc5, .slice x0A2 x0n2 x0c2] w26 (onRet (fun r_7 w27 => ∃ x5 : Bool, r_7 = .bool x5 ∧
      Br (!x5)
        (R (.returned (.bool false)) w27)
        (IdxVC (some ⟨g8, 0, none⟩) 6 1 i1 fun a7 =>
        ∃ x6 : Int, w27.cell? a7 = some (.int .i64 x6) ∧
        Br (decide (x6 = 1))
          (NilVC (some ⟨g5, 0, none⟩) fun p6 =>
          ∃ (xA6 : Option Addr) (xn6 xc6 : Nat), w27.cell? p6 = some (.slice xA6 xn6 xc6) ∧
          IdxVC xA6 xn6 1 i1 fun a8 =>
          ∃ (xA7 : Option Addr) (xn7 xc7 : Nat), w27.cell? a8 = some (.slice xA7 xn7 xc7) ∧
          Calls Tryz.prog 9 #[.slice xA7 xn7 xc7, .slice x0A1 x0n1 x0c1] w27 (onRet (fun r_8 w28 => ∃ x7 : Bool, r_8 = .bool x7 ∧
          Br (!x7)
            (R (.returned (.bool false)) w28)
            (NilVC (some ⟨g5, 0, none⟩) fun p7 =>
            ∃ (xA8 : Option Addr) (xn8 xc8 : Nat), w28.cell? (p7.add 1) = some (.slice xA8 xn8 xc8) ∧
            IdxVC xA8 xn8 1 i1 fun a9 =>
            ∃ (xA9 : Option Addr) (xn9 xc9 : Nat), w28.cell? a9 = some (.slice xA9 xn9 xc9) ∧
            Calls Tryz.prog 10 #[.slice xA9 xn9 xc9, .slice x0A3 x0n3 x0c3] w28 (onRet (fun r_9 w29 => ∃ x8 : Bool, r_9 = .bool x8 ∧
            Br (!x8)
    (R (.returned (.bool false)) w29)
    (K32762 (IntKind.i64.wrap (i1 + 1)) w29))
              (fun ch9 w29 => R (.panicked ch9) w29))))
            (fun ch8 w28 => R (.panicked ch8) w28)))
          (K32762 (IntKind.i64.wrap (i1 + 1)) w27)))
        (fun ch7 w27 => R (.panicked ch7) w27))))
      (fun ch6 w26 => R (.panicked ch6) w26)))
    (IdxVC (some ⟨g8, 0, none⟩) 6 1 i1 fun a10 =>
    ∃ x9 : Int, w25.cell? a10 = some (.int .i64 x9) ∧
    Br (decide (x9 = 1))
      (NilVC (some ⟨g5, 0, none⟩) fun p8 =>
      ∃ (xA10 : Option Addr) (xn10 xc10 : Nat), w25.cell? p8 = some (.slice xA10 xn10 xc10) ∧
      IdxVC xA10 xn10 1 i1 fun a11 =>
      ∃ (xA11 : Option Addr) (xn11 xc11 : Nat), w25.cell? a11 = some (.slice xA11 xn11 xc11) ∧
      Calls Tryz.prog 9 #[.slice xA11 xn11 xc11, .slice x0A1 x0n1 x0c1] w25 (onRet (fun r_10 w30 => ∃ x10 : Bool, r_10 = .bool x10 ∧
      Br (!x10)
        (R (.returned (.bool false)) w30)
        (NilVC (some ⟨g5, 0, none⟩) fun p9 =>
        ∃ (xA12 : Option Addr) (xn12 xc12 : Nat), w30.cell? (p9.add 1) = some (.slice xA12 xn12 xc12) ∧
        IdxVC xA12 xn12 1 i1 fun a12 =>
        ∃ (xA13 : Option Addr) (xn13 xc13 : Nat), w30.cell? a12 = some (.slice xA13 xn13 xc13) ∧
        Calls Tryz.prog 10 #[.slice xA13 xn13 xc13, .slice x0A3 x0n3 x0c3] w30 (onRet (fun r_11 w31 => ∃ x16 : Bool, r_11 = .bool x16 ∧
        Br (!x16)
    (R (.returned (.bool false)) w31)
    (K32762 (IntKind.i64.wrap (i1 + 1)) w31))
          (fun ch11 w31 => R (.panicked ch11) w31))))
        (fun ch10 w30 => R (.panicked ch10) w30)))
      (K32762 (IntKind.i64.wrap (i1 + 1)) w25)))
    (LoopVC (S := (Option Addr × Nat × Nat) × Int) (fun s_ w32 K65530 => weirlaw13_SplitLent_L65530 R mtu id g1 g2 g3 g4 x0A x0n x0c x0A1 x0n1 x0c1 x0A2 x0n2 x0c2 x0A3 x0n3 x0c3 g5 s_.1.1 s_.1.2.1 s_.1.2.2 s_.2 w32 K65530) ((none, 0, 0), 0) w25)
set_option maxRecDepth 100000 in
def weirlaw13_SplitLent_L8186 (R : Ending → World → Prop) (mtu : Int) (id : Int) (g1 : Nat) (g2 : Nat) (g3 : Nat) (g4 : Nat) (x0A : Option Addr) (x0n : Nat) (x0c : Nat) (x0A1 : Option Addr) (x0n1 : Nat) (x0c1 : Nat) (x0A2 : Option Addr) (x0n2 : Nat) (x0c2 : Nat) (x0A3 : Option Addr) (x0n3 : Nat) (x0c3 : Nat) (g5 : Nat) (g6 : Nat) (g7 : Nat) (g8 : Nat) (i : Int) (w16 : World) (K8186 : (Int → World → Prop)) : Prop :=
  Br (decide (i < 6))
    (IdxVC (some ⟨g8, 0, none⟩) 6 1 i fun a =>
  ∃ x : Int, w16.cell? a = some (.int .i64 x) ∧
  IdxVC (some ⟨g6, 0, none⟩) 2 43 x fun a1 =>
  Ip4V.ex fun h9 => CellsAt w16 a1 0 h9.cells ∧
  Calls Tryz.prog 7 #[h9.val, .int .i64 mtu] w16 (onRet (fun r_4 w17 => ∃ (x0A4 : Option Addr) (x0n4 x0c4 : Nat), ∃ x14 : Int, r_4 = .tuple #[.slice x0A4 x0n4 x0c4, .int .i64 x14] ∧
  IdxVC (some ⟨g8, 0, none⟩) 6 1 i fun a2 =>
  ∃ x2 : Int, w17.cell? a2 = some (.int .i64 x2) ∧
  IdxVC (some ⟨g7, 0, none⟩) 2 44 x2 fun a3 =>
  Ip6V.ex fun h10 => CellsAt w17 a3 0 h10.cells ∧
  Calls Tryz.prog 8 #[h10.val, .int .i64 mtu, .int .i64 id] w17 (onRet (fun r_5 w18 => ∃ (x0A5 : Option Addr) (x0n5 x0c5 : Nat), ∃ x15 : Int, r_5 = .tuple #[.slice x0A5 x0n5 x0c5, .int .i64 x15] ∧
  NilVC (some ⟨g5, 0, none⟩) fun p =>
  ∃ (xA : Option Addr) (xn xc : Nat), w18.cell? p = some (.slice xA xn xc) ∧
  NewVC w18 (.cells #[.slice x0A4 x0n4 x0c4] 34) fun g9 w19 =>
  AppVC Tryz.prog #[41, 41] 41 (.slice xA xn xc) (.slice (some ⟨g9, 0, none⟩) 1 1) w19 fun lA ln lc w20 =>
  NilVC (some ⟨g5, 0, none⟩) fun p1 =>
  SetVC w20 p1 (.slice lA ln lc) fun w21 =>
  NilVC (some ⟨g5, 0, none⟩) fun p2 =>
  ∃ (xA1 : Option Addr) (xn1 xc1 : Nat), w21.cell? (p2.add 1) = some (.slice xA1 xn1 xc1) ∧
  NewVC w21 (.cells #[.slice x0A5 x0n5 x0c5] 37) fun g10 w22 =>
  AppVC Tryz.prog #[42, 42] 42 (.slice xA1 xn1 xc1) (.slice (some ⟨g10, 0, none⟩) 1 1) w22 fun lA1 ln1 lc1 w23 =>
  NilVC (some ⟨g5, 0, none⟩) fun p3 =>
  SetVC w23 (p3.add 1) (.slice lA1 ln1 lc1) fun w24 =>
  K8186 (IntKind.i64.wrap (i + 1)) w24)
    (fun ch5 w18 => R (.panicked ch5) w18)))
    (fun ch4 w17 => R (.panicked ch4) w17)))
    (LoopVC (S := Int) (fun s_ w25 K32762 => weirlaw13_SplitLent_L32762 R mtu id g1 g2 g3 g4 x0A x0n x0c x0A1 x0n1 x0c1 x0A2 x0n2 x0c2 x0A3 x0n3 x0c3 g5 g8 s_ w25 K32762) 0 w16)
set_option maxRecDepth 100000 in
def weirlaw13_SplitLent_VC (h : Ip4V) (k : Ip4V) (g : Ip6V) (m : Ip6V) (mtu : Int) (id : Int) (w : World) (R : Ending → World → Prop) : Prop :=
  NewVC w (.cells h.cells.toArray 28) fun g1 w1 =>
  NewVC w1 (.cells k.cells.toArray 28) fun g2 w2 =>
  NewVC w2 (.cells g.cells.toArray 33) fun g3 w3 =>
  NewVC w3 (.cells m.cells.toArray 33) fun g4 w4 =>
  Ip4V.ex fun h1 => CellsAt w4 ⟨g1, 0, none⟩ 0 h1.cells ∧
  Calls Tryz.prog 5 #[h1.val, .int .i64 mtu] w4 (onRet (fun r_ w5 => ∃ (x0A : Option Addr) (x0n x0c : Nat), ∃ x1 : Int, r_ = .tuple #[.slice x0A x0n x0c, .int .i64 x1] ∧
  Ip4V.ex fun h2 => CellsAt w5 ⟨g2, 0, none⟩ 0 h2.cells ∧
  Calls Tryz.prog 5 #[h2.val, .int .i64 mtu] w5 (onRet (fun r_1 w6 => ∃ (x0A1 : Option Addr) (x0n1 x0c1 : Nat), ∃ x11 : Int, r_1 = .tuple #[.slice x0A1 x0n1 x0c1, .int .i64 x11] ∧
  Ip6V.ex fun h3 => CellsAt w6 ⟨g3, 0, none⟩ 0 h3.cells ∧
  Calls Tryz.prog 6 #[h3.val, .int .i64 mtu, .int .i64 id] w6 (onRet (fun r_2 w7 => ∃ (x0A2 : Option Addr) (x0n2 x0c2 : Nat), ∃ x12 : Int, r_2 = .tuple #[.slice x0A2 x0n2 x0c2, .int .i64 x12] ∧
  Ip6V.ex fun h4 => CellsAt w7 ⟨g4, 0, none⟩ 0 h4.cells ∧
  Calls Tryz.prog 6 #[h4.val, .int .i64 mtu, .int .i64 id] w7 (onRet (fun r_3 w8 => ∃ (x0A3 : Option Addr) (x0n3 x0c3 : Nat), ∃ x13 : Int, r_3 = .tuple #[.slice x0A3 x0n3 x0c3, .int .i64 x13] ∧
  NewVC w8 (.cells #[.slice none 0 0, .slice none 0 0] 44) fun g5 w9 =>
  Ip4V.ex fun h5 => CellsAt w9 ⟨g1, 0, none⟩ 0 h5.cells ∧
  Ip4V.ex fun h6 => CellsAt w9 ⟨g2, 0, none⟩ 0 h6.cells ∧
  NewVC w9 (.cells #[.int .i64 0, .int .i64 0, .bool false, .bool false, .int .i64 0, .int .i64 0, .int .i64 0, .int .i64 0, .int .u8 0, .int .u8 0, .int .u8 0, .int .u8 0, .int .u8 0, .int .u8 0, .int .u8 0, .int .u8 0, .int .u8 0, .int .u8 0, .int .u8 0, .int .u8 0, .int .u8 0, .int .u8 0, .int .u8 0, .int .u8 0, .int .i64 0, .int .u8 0, .int .u8 0, .int .u8 0, .int .u8 0, .int .u8 0, .int .u8 0, .int .u8 0, .int .u8 0, .int .u8 0, .int .u8 0, .int .u8 0, .int .u8 0, .int .u8 0, .int .u8 0, .int .u8 0, .int .u8 0, .slice none 0 0, .slice none 0 0, .int .i64 0, .int .i64 0, .bool false, .bool false, .int .i64 0, .int .i64 0, .int .i64 0, .int .i64 0, .int .u8 0, .int .u8 0, .int .u8 0, .int .u8 0, .int .u8 0, .int .u8 0, .int .u8 0, .int .u8 0, .int .u8 0, .int .u8 0, .int .u8 0, .int .u8 0, .int .u8 0, .int .u8 0, .int .u8 0, .int .u8 0, .int .i64 0, .int .u8 0, .int .u8 0, .int .u8 0, .int .u8 0, .int .u8 0, .int .u8 0, .int .u8 0, .int .u8 0, .int .u8 0, .int .u8 0, .int .u8 0, .int .u8 0, .int .u8 0, .int .u8 0, .int .u8 0, .int .u8 0, .slice none 0 0, .slice none 0 0] 45) fun g6 w10 =>
  Stores ⟨g6, 0, none⟩ 0 [.int .i64 h5.tos, .int .i64 h5.id, .bool h5.df, .bool h5.mf, .int .i64 h5.off, .int .i64 h5.ttl, .int .i64 h5.proto, .int .i64 h5.src.v, .int .u8 h5.src.a0, .int .u8 h5.src.a1, .int .u8 h5.src.a2, .int .u8 h5.src.a3, .int .u8 h5.src.a4, .int .u8 h5.src.a5, .int .u8 h5.src.a6, .int .u8 h5.src.a7, .int .u8 h5.src.a8, .int .u8 h5.src.a9, .int .u8 h5.src.a10, .int .u8 h5.src.a11, .int .u8 h5.src.a12, .int .u8 h5.src.a13, .int .u8 h5.src.a14, .int .u8 h5.src.a15, .int .i64 h5.dst.v, .int .u8 h5.dst.a0, .int .u8 h5.dst.a1, .int .u8 h5.dst.a2, .int .u8 h5.dst.a3, .int .u8 h5.dst.a4, .int .u8 h5.dst.a5, .int .u8 h5.dst.a6, .int .u8 h5.dst.a7, .int .u8 h5.dst.a8, .int .u8 h5.dst.a9, .int .u8 h5.dst.a10, .int .u8 h5.dst.a11, .int .u8 h5.dst.a12, .int .u8 h5.dst.a13, .int .u8 h5.dst.a14, .int .u8 h5.dst.a15, .slice h5.opts.A h5.opts.n h5.opts.k, .slice h5.data.A h5.data.n h5.data.k, .int .i64 h6.tos, .int .i64 h6.id, .bool h6.df, .bool h6.mf, .int .i64 h6.off, .int .i64 h6.ttl, .int .i64 h6.proto, .int .i64 h6.src.v, .int .u8 h6.src.a0, .int .u8 h6.src.a1, .int .u8 h6.src.a2, .int .u8 h6.src.a3, .int .u8 h6.src.a4, .int .u8 h6.src.a5, .int .u8 h6.src.a6, .int .u8 h6.src.a7, .int .u8 h6.src.a8, .int .u8 h6.src.a9, .int .u8 h6.src.a10, .int .u8 h6.src.a11, .int .u8 h6.src.a12, .int .u8 h6.src.a13, .int .u8 h6.src.a14, .int .u8 h6.src.a15, .int .i64 h6.dst.v, .int .u8 h6.dst.a0, .int .u8 h6.dst.a1, .int .u8 h6.dst.a2, .int .u8 h6.dst.a3, .int .u8 h6.dst.a4, .int .u8 h6.dst.a5, .int .u8 h6.dst.a6, .int .u8 h6.dst.a7, .int .u8 h6.dst.a8, .int .u8 h6.dst.a9, .int .u8 h6.dst.a10, .int .u8 h6.dst.a11, .int .u8 h6.dst.a12, .int .u8 h6.dst.a13, .int .u8 h6.dst.a14, .int .u8 h6.dst.a15, .slice h6.opts.A h6.opts.n h6.opts.k, .slice h6.data.A h6.data.n h6.data.k] w10 fun w11 =>
  Ip6V.ex fun h7 => CellsAt w11 ⟨g3, 0, none⟩ 0 h7.cells ∧
  Ip6V.ex fun h8 => CellsAt w11 ⟨g4, 0, none⟩ 0 h8.cells ∧
  NewVC w11 (.cells #[.int .i64 0, .int .i64 0, .int .i64 0, .int .i64 0, .int .u8 0, .int .u8 0, .int .u8 0, .int .u8 0, .int .u8 0, .int .u8 0, .int .u8 0, .int .u8 0, .int .u8 0, .int .u8 0, .int .u8 0, .int .u8 0, .int .u8 0, .int .u8 0, .int .u8 0, .int .u8 0, .int .i64 0, .int .u8 0, .int .u8 0, .int .u8 0, .int .u8 0, .int .u8 0, .int .u8 0, .int .u8 0, .int .u8 0, .int .u8 0, .int .u8 0, .int .u8 0, .int .u8 0, .int .u8 0, .int .u8 0, .int .u8 0, .int .u8 0, .slice none 0 0, .bool false, .bool false, .int .i64 0, .int .i64 0, .int .i64 0, .slice none 0 0, .int .i64 0, .int .i64 0, .int .i64 0, .int .i64 0, .int .u8 0, .int .u8 0, .int .u8 0, .int .u8 0, .int .u8 0, .int .u8 0, .int .u8 0, .int .u8 0, .int .u8 0, .int .u8 0, .int .u8 0, .int .u8 0, .int .u8 0, .int .u8 0, .int .u8 0, .int .u8 0, .int .i64 0, .int .u8 0, .int .u8 0, .int .u8 0, .int .u8 0, .int .u8 0, .int .u8 0, .int .u8 0, .int .u8 0, .int .u8 0, .int .u8 0, .int .u8 0, .int .u8 0, .int .u8 0, .int .u8 0, .int .u8 0, .int .u8 0, .slice none 0 0, .bool false, .bool false, .int .i64 0, .int .i64 0, .int .i64 0, .slice none 0 0] 46) fun g7 w12 =>
  Stores ⟨g7, 0, none⟩ 0 [.int .i64 h7.cls, .int .i64 h7.flow, .int .i64 h7.hop, .int .i64 h7.src.v, .int .u8 h7.src.a0, .int .u8 h7.src.a1, .int .u8 h7.src.a2, .int .u8 h7.src.a3, .int .u8 h7.src.a4, .int .u8 h7.src.a5, .int .u8 h7.src.a6, .int .u8 h7.src.a7, .int .u8 h7.src.a8, .int .u8 h7.src.a9, .int .u8 h7.src.a10, .int .u8 h7.src.a11, .int .u8 h7.src.a12, .int .u8 h7.src.a13, .int .u8 h7.src.a14, .int .u8 h7.src.a15, .int .i64 h7.dst.v, .int .u8 h7.dst.a0, .int .u8 h7.dst.a1, .int .u8 h7.dst.a2, .int .u8 h7.dst.a3, .int .u8 h7.dst.a4, .int .u8 h7.dst.a5, .int .u8 h7.dst.a6, .int .u8 h7.dst.a7, .int .u8 h7.dst.a8, .int .u8 h7.dst.a9, .int .u8 h7.dst.a10, .int .u8 h7.dst.a11, .int .u8 h7.dst.a12, .int .u8 h7.dst.a13, .int .u8 h7.dst.a14, .int .u8 h7.dst.a15, .slice h7.exts.A h7.exts.n h7.exts.k, .bool h7.frag.has, .bool h7.frag.more, .int .i64 h7.frag.id, .int .i64 h7.frag.off, .int .i64 h7.next, .slice h7.data.A h7.data.n h7.data.k, .int .i64 h8.cls, .int .i64 h8.flow, .int .i64 h8.hop, .int .i64 h8.src.v, .int .u8 h8.src.a0, .int .u8 h8.src.a1, .int .u8 h8.src.a2, .int .u8 h8.src.a3, .int .u8 h8.src.a4, .int .u8 h8.src.a5, .int .u8 h8.src.a6, .int .u8 h8.src.a7, .int .u8 h8.src.a8, .int .u8 h8.src.a9, .int .u8 h8.src.a10, .int .u8 h8.src.a11, .int .u8 h8.src.a12, .int .u8 h8.src.a13, .int .u8 h8.src.a14, .int .u8 h8.src.a15, .int .i64 h8.dst.v, .int .u8 h8.dst.a0, .int .u8 h8.dst.a1, .int .u8 h8.dst.a2, .int .u8 h8.dst.a3, .int .u8 h8.dst.a4, .int .u8 h8.dst.a5, .int .u8 h8.dst.a6, .int .u8 h8.dst.a7, .int .u8 h8.dst.a8, .int .u8 h8.dst.a9, .int .u8 h8.dst.a10, .int .u8 h8.dst.a11, .int .u8 h8.dst.a12, .int .u8 h8.dst.a13, .int .u8 h8.dst.a14, .int .u8 h8.dst.a15, .slice h8.exts.A h8.exts.n h8.exts.k, .bool h8.frag.has, .bool h8.frag.more, .int .i64 h8.frag.id, .int .i64 h8.frag.off, .int .i64 h8.next, .slice h8.data.A h8.data.n h8.data.k] w12 fun w13 =>
  NewVC w13 (.cells #[.int .i64 0, .int .i64 0, .int .i64 0, .int .i64 0, .int .i64 0, .int .i64 0] 47) fun g8 w14 =>
  Stores ⟨g8, 0, none⟩ 0 [.int .i64 0, .int .i64 0, .int .i64 1, .int .i64 1, .int .i64 0, .int .i64 1] w14 fun w15 =>
  LoopVC (S := Int) (fun s_ w16 K8186 => weirlaw13_SplitLent_L8186 R mtu id g1 g2 g3 g4 x0A x0n x0c x0A1 x0n1 x0c1 x0A2 x0n2 x0c2 x0A3 x0n3 x0c3 g5 g6 g7 g8 s_ w16 K8186) 0 w15)
    (fun ch3 w8 => R (.panicked ch3) w8)))
    (fun ch2 w7 => R (.panicked ch2) w7)))
    (fun ch1 w6 => R (.panicked ch1) w6)))
    (fun ch w5 => R (.panicked ch) w5))
def weirlaw13_SplitLent_H : Hints := [(8186, [(25, .int .i64)]), (32762, [(31, .int .i64)]), (65530, [(30, .slice), (32, .int .i64)]), (2097146, [(34, .slice), (35, .slice), (36, .int .i64)])]
set_option maxRecDepth 100000 in
theorem weirlaw13_SplitLent_of (h : Ip4V) (k : Ip4V) (g : Ip6V) (m : Ip6V) (mtu : Int) (id : Int) (w : World) (R : Ending → World → Prop) (hvc_ : weirlaw13_SplitLent_VC h k g m mtu id w R) :
    Calls Tryz.prog 3 #[h.val, k.val, g.val, m.val, .int .i64 mtu, .int .i64 id] w R :=
  calls_of_wpc callOk mixedOk (H := weirlaw13_SplitLent_H) (args := [h.val, k.val, g.val, m.val, .int .i64 mtu, .int .i64 id]) (fn := Tryz.f3) (c := bodyOf Tryz.f3) Tryz.func3 rfl (Nat.le_of_ble_eq_true rfl)
    (Eq.mp (by kernel_rfl : weirlaw13_SplitLent_VC h k g m mtu id w R = wpc Tryz.prog callF Tryz.f3.ntmps weirlaw13_SplitLent_H 1 (bodyOf Tryz.f3) (argEnv 0 [h.val, k.val, g.val, m.val, .int .i64 mtu, .int .i64 id]) [] w (finish Tryz.prog callF Tryz.f3.results.toList R)) hvc_)
end N6
end Go.Proofs.YteppichfkeknbaaGreatDoor
/- Lists of bytes that were handed out: written full, each with a mark of its own, lengthened by one, two and seventy; that they stand. -/
namespace Go.Eng
open Go Go.RowKit
def mkI (i : Nat) : Int := ((1 + i % 250 : Nat) : Int)
def tlI (i : Nat) : Int := ((251 + i % 5 : Nat) : Int)
def mkB (i : Nat) : List Value := [.int .u8 (mkI i)]
def tlB (i : Nat) : List Value := [.int .u8 (tlI i)]
def tC : Nat → Nat | 0 => 1 | 1 => 2 | _ => 70
/-- What the lists read, once they are lengthened. -/
def ReadsB (w : World) (rows gs : List GR) : Prop :=
  ∀ (j : Nat) (r : GR), rows[j]? = some r → Cells w r.A (reps r.n (mkB j)) ∧ ∀ d, d < 3 → ∃ g : GR, gs[3 * j + d]? = some g ∧ g.n = r.n + tC d ∧ Cells w g.A (reps r.n (mkB j) ++ reps (tC d) (tlB j))
def StoodB (rows gs : List GR) (D : List Fct) (n : Nat) : Prop := ∀ w2, (∀ f ∈ D, f.φ w2) → ∀ (j : Nat) (r : GR), j < n → rows[j]? = some r → Cells w2 r.A (reps r.n (mkB j)) ∧ ∀ d, d < 3 → ∃ g : GR, gs[3 * j + d]? = some g ∧ g.n = r.n + tC d ∧ Cells w2 g.A (reps r.n (mkB j) ++ reps (tC d) (tlB j))
theorem mk_val {i : Nat} (h : i ≤ 4000000000000) : IntKind.u8.wrap (IntKind.i64.wrap (1 + Int.tmod (i : Int) 250)) = mkI i := by
  have e : Int.tmod (i : Int) 250 = ((i % 250 : Nat) : Int) := by rw [Int.tmod_eq_emod_of_nonneg (by omega)]; omega
  unfold mkI
  rw [e, w64 (by omega) (by omega), wu8 (by omega) (by omega)]; omega
theorem tl_val {i : Nat} (h : i ≤ 4000000000000) : IntKind.u8.wrap (IntKind.i64.wrap (251 + Int.tmod (i : Int) 5)) = tlI i := by
  have e : Int.tmod (i : Int) 5 = ((i % 5 : Nat) : Int) := by rw [Int.tmod_eq_emod_of_nonneg (by omega)]; omega
  unfold tlI
  rw [e, w64 (by omega) (by omega), wu8 (by omega) (by omega)]; omega
end Go.Eng
namespace Go.Proofs.YteppichfkeknbaaGreatDoor
namespace N6
open Go.Eng Go.RowKit
theorem tSl : TypeIs Tryz.prog 26 (.slice none 0 0) 1 24 := .of (by kernel_rfl)
section
variable {w w0 : World} {Γ0 : List Fct} {b ln lc : Nat} {lA : Option Addr} {rows : List GR}
theorem tail_spec {i n : Nat} (hi : i ≤ 4000000000000) (hn : n ≤ 70) : Calls Tryz.prog 45 #[.int .i64 (i : Int), .int .i64 (n : Int)] w fun e w' => ∃ A c, e = .returned (.slice A n c) ∧ Sep [Fct.rest w None, Fct.own w.heap.size 5 1 (.slice A n c) n (reps n (tlB i))] w' := by
  refine weirlaw13_tail_of (i : Int) (n : Int) w _ ?_
  unfold weirlaw13_tail_VC
  refine LoopVC.of (fun st w' => st.2.1 ≤ n ∧ Sep [Fct.rest w None, Fct.own w.heap.size 5 1 (.slice st.1 st.2.1 st.2.2) st.2.1 (reps st.2.1 (tlB i))] w') (fun st _ => n - st.2.1) ⟨Nat.zero_le _, (Sep.start0 w).nil _ _ _⟩ ?_
  rintro ⟨A1, n1, c1⟩ w1 ⟨h1, H⟩
  simp only at h1
  show weirlaw13_tail_L28 _ (i : Int) (n : Int) A1 n1 c1 w1 _
  unfold weirlaw13_tail_L28
  rw [tl_val hi]
  refine Br.dec (fun hlt => ?_) fun hge => ?_
  · refine NewVC.sep H fun g1 w2 H => ?_
    have hz := (H.restOf 0 rfl).size
    refine AppVC.sep H 1 Tryz.underlying26 tB rfl (by decide) rfl (Cells.blk0 (H.blk 2 rfl)) rfl (fun v hv => by simp at hv; subst hv; rfl) (show (n1 + 1) * 1 ≤ 140737488355328 by omega) (by decide) hz fun A2 c2 w3 H _ => ?_
    refine ⟨⟨by show n1 + 1 ≤ n; omega, ?_⟩, by show n - (n1 + 1) < n - n1; omega⟩
    have H := H.take 2
    show Sep [_, Fct.own _ _ 1 (.slice A2 (n1 + 1) c2) (n1 + 1) (reps (n1 + 1) (tlB i))] w3
    rw [reps_add, reps_one]
    exact H
  · have : n1 = n := by omega
    subst this
    exact ⟨A1, c1, rfl, H⟩
set_option maxHeartbeats 8000000 in
theorem filled_spec (H : Sep (Γ0 ++ rows.map (rawR b 5 1)) w) (h0 : Γ0[0]? = some (Fct.rest w0 None)) (hb : b ≤ w0.heap.size) (hl : ∀ w', (∀ f ∈ Γ0, f.φ w') → Cells w' lA (rows.map GR.val)) (hlen : rows.length = ln) (hsm : ln ≤ 1900000000000) (hn : ∀ r ∈ rows, r.n ≤ 4000000) :
    Calls Tryz.prog 13 #[.slice lA ln lc] w fun e w' => ∃ (MA : Option Addr) (mc : Nat) (gs : List GR) (D : List Fct), e = .returned (.slice MA (3 * ln) mc) ∧ gs.length = 3 * ln ∧ StoodB rows gs D ln ∧ Sep (Fct.own b 26 1 (.slice MA (3 * ln) mc) (3 * ln) (gs.map GR.val) :: (Γ0 ++ D)) w' := by
  refine weirlaw13_filled_of lA ln lc w _ ?_
  unfold weirlaw13_filled_VC
  have hin : ∀ {i : Nat} {r : GR}, rows[i]? = some r → r.n ≤ 4000000 := fun h => hn _ (List.mem_of_getElem? h)
  have hget : ∀ i, i < ln → ∃ r, rows[i]? = some r := fun i hi => ⟨_, List.getElem?_eq_getElem (by omega)⟩
  have hrest : ∀ {Y : List Fct} {w' : World}, Sep (Γ0 ++ Y) w' → w0.heap.size ≤ w'.heap.size := fun H => (H.restOf 0 (by
    rw [List.getElem?_append_left (List.getElem?_eq_some_iff.1 h0).1]; exact h0)).size
  refine LoopVC.of (fun st w' => ∃ i : Nat, st = (i : Int) ∧ i ≤ ln ∧ Sep (Γ0 ++ (mapI (fullR b 5 1 mkB) 0 (rows.take i) ++ (rows.drop i).map (rawR b 5 1))) w') (fun st _ => ((ln : Int) - st).toNat)
    ⟨0, rfl, Nat.zero_le _, H⟩ ?_
  rintro _ w1 ⟨i, rfl, hi, H⟩
  show weirlaw13_filled_L26 _ lA ln (i : Int) w1 _
  unfold weirlaw13_filled_L26
  refine Br.dec (fun hlt => ?_) fun hge => ?_
  · obtain ⟨r, hr⟩ := hget i (by omega)
    have hrn := hin hr
    have hmk := mk_val (i := i) (by omega)
    have e1 : IntKind.i64.wrap ((i : Int) + 1) = ((i + 1 : Nat) : Int) := by rw [w64 (by omega) (by omega)]; omega
    rw [drop_consA hr, List.map_cons] at H
    obtain ⟨D, hD⟩ : ∃ D, D = mapI (fullR b 5 1 mkB) 0 (rows.take i) := ⟨_, rfl⟩
    obtain ⟨T, hT⟩ : ∃ T, T = (rows.drop (i + 1)).map (rawR b 5 1) := ⟨_, rfl⟩
    rw [← hD, ← hT] at H
    have H := H.focus
    refine LoopVC.of (fun st w' => ∃ (k : Nat) (ys : List Value), st = (k : Int) ∧ k ≤ r.n ∧ ys.length = r.n ∧ (∀ j, j < k → ys[j]? = some (.int .u8 (mkI i))) ∧ Sep (Fct.row b 5 1 r.A r.c r.n ys :: (Γ0 ++ (D ++ T))) w') (fun st _ => ((r.n : Int) - st).toNat)
      ⟨0, r.xs, rfl, Nat.zero_le _, by have := (H.row 0 rfl).1; omega, fun j hj => absurd hj (by omega), H⟩ ?_
    rintro _ w2 ⟨k, ys, rfl, hk, hyl, hy, H⟩
    show weirlaw13_filled_L1682 lA ln (i : Int) _ (k : Int) w2 _
    unfold weirlaw13_filled_L1682
    have hl2 := hl w2 fun f hf => H.mem (List.mem_cons_of_mem _ (List.mem_append_left _ hf))
    refine idx_rows hl2 hr hlen fun a ha => ⟨_, _, _, ha, Br.dec (fun hk1 => ?_) fun hk1 => ?_⟩
    · refine idx_rows hl2 hr hlen fun a ha => ⟨_, _, _, ha, ?_⟩
      rw [hmk]
      have e2 : IntKind.i64.wrap ((k : Int) + 1) = ((k + 1 : Nat) : Int) := by rw [w64 (by omega) (by omega)]; omega
      refine IdxVC.rowSet H 0 rfl (by omega) (by omega) fun a ha => ha _ _ rfl fun w3 H3 => ?_
      refine ⟨⟨k + 1, _, e2, by omega, by simpa using hyl, fun j hj => ?_, H3⟩, by rw [e2]; omega⟩
      by_cases e : j = k
      · subst e; rw [List.getElem?_set_self (by omega)]
      · rw [List.getElem?_set_ne (Ne.symm e)]; exact hy j (by omega)
    · have hkn : k = r.n := by omega
      have hys := full_cells hyl fun j hj => hy j (by omega)
      subst hys
      refine ⟨⟨i + 1, e1, by omega, ?_⟩, by rw [e1]; omega⟩
      rw [take_snocA hr, mapI_snoc, ← hD, ← hT]
      have hli : 0 + (rows.take i).length = i := by rw [List.length_take]; omega
      rw [hli]
      exact H.perm (perm_unfocus (Z := []))
  have hin' : i = ln := by omega
  subst hin'
  rw [List.take_of_length_le (by omega), List.drop_of_length_le (by omega), List.map_nil, List.append_nil] at H
  refine LoopVC.of (fun st w' => ∃ (j : Nat) (D : List Fct) (gs : List GR), st.2 = (j : Int) ∧ j ≤ i ∧ gs.length = 3 * j ∧ st.1.2.1 = 3 * j ∧ StoodB rows gs D j ∧
      Sep (Fct.own b 26 1 (.slice st.1.1 st.1.2.1 st.1.2.2) st.1.2.1 (gs.map GR.val) :: (Γ0 ++ (D ++ mapI (fullR b 5 1 mkB) j (rows.drop j)))) w') (fun st _ => ((i : Int) - st.2).toNat)
    ⟨0, [], [], rfl, Nat.zero_le _, rfl, rfl, (fun w2 _ j r hj => absurd hj (by omega)), (H.nil b 26 1).front⟩ ?_
  rintro ⟨⟨LA, Ln, Lc⟩, _⟩ w4 ⟨j, D, gs, rfl, hj, hgl, hLn, hst, H⟩
  simp only at hLn
  subst hLn
  have H : Sep (Fct.own b 26 1 (.slice LA (3 * j) Lc) (3 * j) (gs.map GR.val) :: (Γ0 ++ (D ++ mapI (fullR b 5 1 mkB) j (rows.drop j)))) w4 := H
  show weirlaw13_filled_L122 _ lA i LA (3 * j) Lc (j : Int) w4 _
  unfold weirlaw13_filled_L122
  refine Br.dec (fun hlt => ?_) fun hge => ?_
  rotate_left
  · have hjn : j = i := by omega
    subst hjn
    rw [List.drop_of_length_le (by omega)] at H
    exact ⟨LA, Lc, gs, D, rfl, hgl, hst, by simpa [mapI] using H⟩
  obtain ⟨r, hr⟩ := hget j (by omega)
  have hrn := hin hr
  have e1 : IntKind.i64.wrap ((j : Int) + 1) = ((j + 1 : Nat) : Int) := by rw [w64 (by omega) (by omega)]; omega
  rw [drop_consA hr] at H
  obtain ⟨R, hR⟩ : ∃ R, R = mapI (fullR b 5 1 mkB) (j + 1) (rows.drop (j + 1)) := ⟨_, rfl⟩
  have H : Sep ((Fct.own b 26 1 (.slice LA (3 * j) Lc) (3 * j) (gs.map GR.val) :: Γ0) ++ (D ++ fullR b 5 1 mkB j r :: R)) w4 := by rw [hR]; exact H
  have H := H.focus
  obtain ⟨Γ1, hΓ1⟩ : ∃ Γ1, Γ1 = Fct.own b 26 1 (.slice LA (3 * j) Lc) (3 * j) (gs.map GR.val) :: (Γ0 ++ (D ++ R)) := ⟨_, rfl⟩
  obtain ⟨bs, hbs⟩ : ∃ bs : Nat → Fct, bs = fun k => baseR b 5 1 r.A r.c r.n (reps r.n (mkB j)) (tlB j) k := ⟨_, rfl⟩
  have H : Sep (bs 0 :: Γ1) w4 := by
    rw [hΓ1, hbs]
    have e : baseR b 5 1 r.A r.c r.n (reps r.n (mkB j)) (tlB j) 0 = fullR b 5 1 mkB j r := by unfold baseR fullR; rw [reps_zero, List.append_nil]; rfl
    simp only
    rw [e]; exact H
  have inΓ : ∀ {Y : List Fct} {w' : World}, Sep (Y ++ Γ1) w' → w0.heap.size ≤ w'.heap.size ∧ Cells w' lA (rows.map GR.val) := fun {Y w'} H => by
    rw [hΓ1] at H
    have H := H.perm (List.perm_append_comm)
    have H : Sep (_ :: (Γ0 ++ (D ++ R)) ++ Y) w' := H
    rw [List.cons_append, List.append_assoc] at H
    exact ⟨hrest H.tail, hl w' fun f hf => H.mem (List.mem_cons_of_mem _ (List.mem_append_left _ hf))⟩
  /- one append of m tails, behind the a of a list -/
  have step : ∀ (k a m : Nat) (Ag : Option Addr) (cg : Nat) (X Y : List Fct) (w2 w3 : World) (A' : Option Addr) (c' b2 : Nat) (F : Option Addr → Nat → Nat → World → Prop), 0 < m → m ≤ 70 → a ≤ 70 → Grown b 5 1 r.A r.c r.n (reps r.n (mkB j)) (tlB j) k a Ag cg X → Sep (bs k :: (X ++ (Y ++ Γ1))) w2 → w2.heap.size ≤ b2 →
      Sep [Fct.rest w2 None, Fct.own b2 5 1 (.slice A' m c') m (reps m (tlB j))] w3 →
      (∀ (k' : Nat) (A2 : Option Addr) (c2 : Nat) (X' : List Fct) (w' : World), k ≤ k' → Grown b 5 1 r.A r.c r.n (reps r.n (mkB j)) (tlB j) k' (a + m) A2 c2 X' → Sep (bs k' :: (X' ++ (Y ++ Γ1))) w' → F A2 (r.n + (a + m)) c2 w') →
      AppVC Tryz.prog #[26, 26] 26 (.slice Ag (r.n + a) cg) (.slice A' m c') w3 F := by
    intro k a m Ag cg X Y w2 w3 A' c' b2 F hm hm70 ha hG H _ Ht hF
    have H3 := H.mades Ht
    have hz3 : b ≤ w3.heap.size := by
      have h1 := inΓ (Y := bs k :: (X ++ Y)) (w' := w2) (by rw [List.cons_append, List.append_assoc]; exact H)
      have h2 := (Ht.restOf 0 rfl).size
      omega
    have H3 : Sep (bs k :: (X ++ ((Y ++ Γ1) ++ [Fct.own b2 5 1 (.slice A' m c') m (reps m (tlB j))]))) w3 := by
      rw [List.cons_append, List.append_assoc] at H3
      exact H3
    rw [hbs] at H3
    refine AppVC.grown hG H3 Tryz.underlying26 tB rfl (by decide) (by rw [reps_len]; rfl) rfl (fun v hv => by simp [tlB] at hv; subst hv; rfl) (own_cells (Ht.own 1 rfl)) hm (by omega) (by decide) hz3 fun k' A2 c2 X' w7 hk' hG' H7 => ?_
    refine hF k' A2 c2 X' w7 hk' hG' ?_
    have H7 : Sep ((bs k' :: (X' ++ (Y ++ Γ1))) ++ [Fct.own b2 5 1 (.slice A' m c') m (reps m (tlB j))]) w7 := by
      rw [List.cons_append, List.append_assoc, hbs]; exact H7
    exact H7.dropEnd
  have hjj : j ≤ 4000000000000 := by omega
  refine DrawVC.sep H (fun w' => Cells w' lA (rows.map GR.val)) fun w5 H => ?_
  have hS := (inΓ (Y := [bs 0]) H).2
  refine ⟨hS, idx_rowsD (S := fun w' => Cells w' lA (rows.map GR.val)) hS (fun w' h => h) hr hlen fun a ha => ⟨_, _, _, ha, ?_⟩⟩
  refine (tail_spec (n := 1) hjj (by decide)).mono ?_
  rintro _ w6 ⟨T1, t1, rfl, Ht1⟩
  refine ⟨_, _, _, rfl, (inΓ (Y := [bs 0]) (H.ext (Ht1.restOf 0 rfl))).2, ?_⟩
  refine step 0 0 1 r.A r.c [] [] w5 w6 T1 t1 _ _ (by decide) (by decide) (by decide) (.base (Nat.le_refl _)) H (Nat.le_refl _) Ht1 fun k1 A1 c1 X1 w7 _ hG1 H => ?_
  have H : Sep (bs k1 :: (X1 ++ Γ1)) w7 := H
  refine ⟨(inΓ (Y := bs k1 :: X1) H).2, DrawVC.sep H (fun w' => Cells w' lA (rows.map GR.val)) fun w8 H => ?_⟩
  have hS := (inΓ (Y := bs k1 :: X1) H).2
  refine ⟨hS, idx_rowsD (S := fun w' => Cells w' lA (rows.map GR.val)) hS (fun w' h => h) hr hlen fun a ha => ⟨_, _, _, ha, ?_⟩⟩
  refine (tail_spec (n := 2) hjj (by decide)).mono ?_
  rintro _ w9 ⟨T2, t2, rfl, Ht2⟩
  refine ⟨_, _, _, rfl, (inΓ (Y := bs k1 :: X1) (H.ext (Ht2.restOf 0 rfl))).2, ?_⟩
  refine step k1 0 2 r.A r.c [] X1 w8 w9 T2 t2 _ _ (by decide) (by decide) (by decide) (.base (Nat.zero_le _)) H (Nat.le_refl _) Ht2 fun k2 A2 c2 X2 w10 hk2 hG2 H => ?_
  have H : Sep (bs k2 :: ([] ++ ((X2 ++ X1) ++ Γ1))) w10 := by rw [List.append_assoc]; exact H
  have hS := (inΓ (Y := bs k2 :: (X2 ++ X1)) H).2
  refine ⟨hS, idx_rows hS hr hlen fun a ha => ⟨_, _, _, ha, ?_⟩⟩
  refine LoopVC.of (fun st w' => ∃ (a k : Nat) (X : List Fct), st.2 = (a : Int) ∧ a ≤ 70 ∧ k2 ≤ k ∧ st.1.2.1 = r.n + a ∧ Grown b 5 1 r.A r.c r.n (reps r.n (mkB j)) (tlB j) k a st.1.1 st.1.2.2 X ∧ Sep (bs k :: (X ++ ((X2 ++ X1) ++ Γ1))) w') (fun st _ => ((70 : Int) - st.2).toNat)
    ⟨0, k2, [], rfl, by decide, Nat.le_refl _, rfl, .base (Nat.zero_le _), H⟩ ?_
  rintro ⟨⟨gA, gn, gc⟩, _⟩ w11 ⟨a, k, X, rfl, haT, hk, hgn, hG, H⟩
  simp only at hgn hG
  subst hgn
  show weirlaw13_filled_L125242 _ LA (3 * j) Lc (j : Int) _ A1 (r.n + (0 + 1)) c1 A2 (r.n + (0 + 2)) c2 gA (r.n + a) gc (a : Int) w11 _
  unfold weirlaw13_filled_L125242
  refine Br.dec (fun ha1 => ?_) fun ha1 => ?_
  · have e2 : IntKind.i64.wrap ((a : Int) + 1) = ((a + 1 : Nat) : Int) := by rw [w64 (by omega) (by omega)]; omega
    refine (tail_spec (n := 1) hjj (by decide)).mono ?_
    rintro _ w12 ⟨T3, t3, rfl, Ht3⟩
    refine ⟨_, _, _, rfl, ?_⟩
    rw [e2]
    refine step k a 1 gA gc X (X2 ++ X1) w11 w12 T3 t3 _ _ (by decide) (by decide) haT hG H (Nat.le_refl _) Ht3 fun k' A3 c3 X' w13 hk' hG' H => ?_
    exact ⟨⟨a + 1, k', X', rfl, by omega, by omega, rfl, hG', H⟩, by simp only; omega⟩
  · have haT' : a = 70 := by omega
    subst haT'
    refine NewVC.sep H fun g1 w14 H => ?_
    obtain ⟨news, hnews⟩ : ∃ news : List GR, news = [⟨A1, r.n + 1, c1, []⟩, ⟨A2, r.n + 2, c2, []⟩, ⟨gA, r.n + 70, gc, []⟩] := ⟨_, rfl⟩
    have hz14 : w0.heap.size ≤ w14.heap.size := (inΓ (Y := bs k :: (X ++ (X2 ++ X1))) (w' := w14) (by
      have := H.dropEnd
      rw [List.cons_append, List.append_assoc]; exact this)).1
    have H : Sep ((bs k :: (X ++ (X2 ++ X1))) ++ Fct.own b 26 1 (.slice LA (3 * j) Lc) (3 * j) (gs.map GR.val) :: ((Γ0 ++ (D ++ R)) ++ [Fct.blk g1 26 (news.map GR.val)])) w14 := by
      have e : (bs k :: (X ++ (X2 ++ X1))) ++ Fct.own b 26 1 (.slice LA (3 * j) Lc) (3 * j) (gs.map GR.val) :: ((Γ0 ++ (D ++ R)) ++ [Fct.blk g1 26 (news.map GR.val)]) = (bs k :: (X ++ ((X2 ++ X1) ++ Γ1))) ++ [Fct.blk g1 26 (news.map GR.val)] := by
        rw [hΓ1]; simp
      rw [e, hnews]; exact H
    have H := H.mid
    have hsrc : Cells w14 (some ⟨g1, 0, none⟩) (news.map GR.val) := Cells.blk0 (H.mem (f := Fct.blk g1 26 (news.map GR.val)) (by simp))
    have hone : ∀ v ∈ news.map GR.val, v.oneCell' = true := fun v hv => by obtain ⟨g, _, rfl⟩ := List.mem_map.1 hv; rfl
    refine AppVC.sep (m := 3) H 0 Tryz.underlying53 tSl rfl (by decide) rfl hsrc (by rw [hnews]; rfl) hone (by omega) (by decide) (by omega) fun A4 c4 w15 H9 _ => ?_
    have H9 : Sep (Fct.own b 26 1 (.slice A4 (3 * j + 3) c4) (3 * j + 3) (gs.map GR.val ++ news.map GR.val) :: ((bs k :: (X ++ (X2 ++ X1))) ++ ((Γ0 ++ (D ++ R)) ++ [Fct.blk g1 26 (news.map GR.val)]))) w15 := H9
    rw [← List.append_assoc, ← List.cons_append] at H9
    have H9 := H9.dropEnd
    refine ⟨⟨j + 1, D ++ (bs k :: (X ++ (X2 ++ X1))), gs ++ news, e1, by omega, by rw [hnews]; simp [hgl]; omega, rfl, ?_, ?_⟩, by simp only [e1]; omega⟩
    · intro w2 hf q r' hq hr'
      rcases Nat.lt_or_ge q j with hqj | hqj
      · obtain ⟨h1, h2⟩ := hst w2 (fun f hf' => hf f (List.mem_append_left _ hf')) q r' hqj hr'
        refine ⟨h1, fun d hd => ?_⟩
        obtain ⟨g, hg, r2⟩ := h2 d hd
        exact ⟨g, by rw [List.getElem?_append_left (by omega)]; exact hg, r2⟩
      · have hqj : q = j := by omega
        subst hqj
        rw [hr] at hr'; injection hr' with hr'; subst hr'
        have hbase : (baseR b 5 1 r.A r.c r.n (reps r.n (mkB q)) (tlB q) k).φ w2 := by
          have := hf _ (List.mem_append_right D (List.mem_cons_self (a := bs k) (l := X ++ (X2 ++ X1))))
          rw [hbs] at this; exact this
        have hX : ∀ f ∈ X ++ (X2 ++ X1), f.φ w2 := fun f hfX => hf f (List.mem_append_right _ (List.mem_cons_of_mem _ hfX))
        refine ⟨?_, fun d hd => ?_⟩
        · have := base_cells (m := 0) hbase (Nat.zero_le _)
          rwa [reps_zero, List.append_nil] at this
        · have hgd : (gs ++ news)[3 * q + d]? = news[d]? := by rw [List.getElem?_append_right (by omega), hgl]; congr 1; omega
          rw [hgd, hnews]
          match d, hd with
          | 0, _ => exact ⟨_, rfl, rfl, (hG1.more (by omega)).cells hbase fun f hf => hX f (List.mem_append_right _ (List.mem_append_right _ hf))⟩
          | 1, _ => exact ⟨_, rfl, rfl, (hG2.more (by omega)).cells hbase fun f hf => hX f (List.mem_append_right _ (List.mem_append_left _ hf))⟩
          | 2, _ => exact ⟨_, rfl, rfl, hG.cells hbase fun f hf => hX f (List.mem_append_left _ hf)⟩
    · rw [List.map_append]
      refine H9.perm (.cons _ ?_)
      rw [← hR]
      exact perm_unfocus
/-- What lies at a place of a list that was lengthened. -/
theorem reads_at {A : Option Addr} {n t i j m : Nat} (h : Cells w A (reps n (mkB i) ++ reps t (tlB i))) (hm : n + t = m) (hj : j < m) {F : Addr → Prop} (hF : ∀ a, w.cell? a = some (.int .u8 (if n ≤ j then tlI i else mkI i)) → F a) : IdxVC A m 1 (j : Int) F := by
  have e : reps n (mkB i) ++ reps t (tlB i) = (List.replicate n (mkI i) ++ List.replicate t (tlI i)).map (Value.int .u8) := by
    rw [List.map_append]; unfold mkB tlB; rw [reps_map, reps_map]
  rw [e] at h
  refine IdxVC.int h (by omega) (by omega) (by simp [hm]) fun a ha => hF a ?_
  rw [ha, Int.toNat_natCast, List.getD_eq_getElem?_getD]
  by_cases hjn : n ≤ j
  · rw [if_pos hjn, List.getElem?_append_right (by simpa using hjn), List.getElem?_replicate, if_pos (by simp; omega)]; rfl
  · rw [if_neg hjn, List.getElem?_append_left (by simp; omega), List.getElem?_replicate, if_pos (by omega)]; rfl
set_option maxHeartbeats 4000000 in
theorem stand_spec {MA : Option Addr} {mn mc : Nat} {gs : List GR} (hl : Cells w lA (rows.map GR.val)) (hm : Cells w MA (gs.map GR.val)) (hlen : rows.length = ln) (hml : gs.length = mn) (hsm : ln ≤ 1900000000000) (hn : ∀ r ∈ rows, r.n ≤ 4000000) (hS : ReadsB w rows gs) :
    Calls Tryz.prog 14 #[.slice lA ln lc, .slice MA mn mc] w fun e w' => w' = w ∧ e = .returned (.bool true) := by
  refine weirlaw13_stand_of lA ln lc MA mn mc w _ ?_
  unfold weirlaw13_stand_VC
  refine LoopVC.of (fun st w' => w' = w ∧ ∃ i : Nat, st = (i : Int) ∧ i ≤ ln) (fun st _ => ((ln : Int) - st).toNat) ⟨rfl, 0, rfl, Nat.zero_le _⟩ ?_
  rintro _ w1 ⟨hw, i, rfl, hi⟩
  subst w1
  show weirlaw13_stand_L26 _ lA ln MA mn (i : Int) w _
  unfold weirlaw13_stand_L26
  refine Br.dec (fun hlt => ?_) fun hge => ⟨rfl, rfl⟩
  obtain ⟨r, hr⟩ : ∃ r, rows[i]? = some r := ⟨_, List.getElem?_eq_getElem (by omega)⟩
  have hrn := hn _ (List.mem_of_getElem? hr)
  obtain ⟨hb, hd⟩ := hS i r hr
  obtain ⟨q0, hq0, n0, c0⟩ := hd 0 (by decide)
  obtain ⟨q1, hq1, n1, c1⟩ := hd 1 (by decide)
  obtain ⟨q2, hq2, n2, c2⟩ := hd 2 (by decide)
  have e3 : IntKind.i64.wrap (3 * (i : Int)) = ((3 * i + 0 : Nat) : Int) := by rw [w64 (by omega) (by omega)]; omega
  have e31 : IntKind.i64.wrap (((3 * i + 0 : Nat) : Int) + 1) = ((3 * i + 1 : Nat) : Int) := by rw [w64 (by omega) (by omega)]; omega
  have e32 : IntKind.i64.wrap (((3 * i + 0 : Nat) : Int) + 2) = ((3 * i + 2 : Nat) : Int) := by rw [w64 (by omega) (by omega)]; omega
  have e33 : IntKind.i64.wrap (((3 * i + 0 : Nat) : Int) + 3) = ((3 * i + 3 : Nat) : Int) := by rw [w64 (by omega) (by omega)]; omega
  have er : ∀ d : Nat, d ≤ 70 → IntKind.i64.wrap ((r.n : Int) + (d : Int)) = ((r.n + d : Nat) : Int) := fun d hd => by rw [w64 (by omega) (by omega)]; omega
  have e1 : IntKind.i64.wrap ((i : Int) + 1) = ((i + 1 : Nat) : Int) := by rw [w64 (by omega) (by omega)]; omega
  rw [e3, e31, e32]
  refine idx_rows hl hr hlen fun a ha => ⟨_, _, _, ha, ?_⟩
  refine idx_rows hm hq0 hml fun a ha => ⟨_, _, _, ha, Br.no (fun x => x (by rw [n0]; exact (er 1 (by decide)).symm)) ?_⟩
  refine idx_rows hm hq1 hml fun a ha => ⟨_, _, _, ha, Br.no (fun x => x (by rw [n1]; exact (er 2 (by decide)).symm)) ?_⟩
  refine idx_rows hm hq2 hml fun a ha => ⟨_, _, _, ha, Br.no (fun x => x (by rw [n2]; exact (er 70 (by decide)).symm)) ?_⟩
  refine LoopVC.of (fun st w' => w' = w ∧ ∃ d : Nat, st = ((3 * i + d : Nat) : Int) ∧ d ≤ 3) (fun st _ => ((3 * i + 3 : Nat) - st : Int).toNat) ⟨rfl, 0, rfl, by decide⟩ ?_
  rintro _ w2 ⟨hw, d, rfl, hd3⟩
  subst w2
  show weirlaw13_stand_L6734 _ lA ln MA mn (i : Int) _ r.n ((3 * i + d : Nat) : Int) w _
  unfold weirlaw13_stand_L6734
  rw [e3, e33]
  refine Br.dec (fun hk => ?_) fun hk => ?_
  rotate_left
  · rw [e1]
    exact ⟨⟨rfl, i + 1, rfl, by omega⟩, by omega⟩
  obtain ⟨g, hg, hgn, hgc⟩ := hd d (by omega)
  have htc : tC d ≤ 70 := by unfold tC; split <;> decide
  have ek : IntKind.i64.wrap (((3 * i + d : Nat) : Int) + 1) = ((3 * i + (d + 1) : Nat) : Int) := by rw [w64 (by omega) (by omega)]; omega
  refine LoopVC.of (fun st w' => w' = w ∧ ∃ j : Nat, st = (j : Int) ∧ j ≤ g.n) (fun st _ => ((g.n : Int) - st).toNat) ⟨rfl, 0, rfl, Nat.zero_le _⟩ ?_
  rintro _ w3 ⟨hw, j, rfl, hj⟩
  subst w3
  show weirlaw13_stand_L430994 _ lA ln MA mn (i : Int) r.n ((3 * i + d : Nat) : Int) _ (j : Int) w _
  unfold weirlaw13_stand_L430994
  rw [tl_val (i := i) (by omega), mk_val (i := i) (by omega)]
  refine idx_rows hm hg hml fun a ha => ⟨_, _, _, ha, Br.dec (fun hjn => ?_) fun hjn => ?_⟩
  rotate_left
  · rw [ek]
    exact ⟨⟨rfl, d + 1, rfl, by omega⟩, by omega⟩
  have ej : IntKind.i64.wrap ((j : Int) + 1) = ((j + 1 : Nat) : Int) := by rw [w64 (by omega) (by omega)]; omega
  refine JoinVC.of (fun m w' => w' = w ∧ m = if r.n ≤ j then tlI i else mkI i) ?_ ?_
  · exact Br.dec (fun h => ⟨rfl, by rw [if_pos (by omega)]⟩) fun h => ⟨rfl, by rw [if_neg (by omega)]⟩
  rintro m w4 ⟨hw, hmv⟩
  subst w4
  unfold weirlaw13_stand_J13791817
  refine idx_rows hm hg hml fun a ha => ⟨_, _, _, ha, ?_⟩
  refine reads_at hgc hgn.symm (by omega) fun a ha => ⟨_, ha, Br.no (fun x => x hmv.symm) ?_⟩
  rw [ej]
  refine Br.dec (fun hjr => ?_) fun hjr => ⟨⟨rfl, j + 1, rfl, by omega⟩, by omega⟩
  refine idx_rows hl hr hlen fun a ha => ⟨_, _, _, ha, ?_⟩
  refine reads_at (t := 0) (by rw [reps_zero, List.append_nil]; exact hb) (Nat.add_zero _) (by omega) fun a ha => ⟨_, ha, Br.no (fun x => x ?_) ⟨⟨rfl, j + 1, rfl, by omega⟩, by omega⟩⟩
  exact hmv.symm
end
end N6
end Go.Proofs.YteppichfkeknbaaGreatDoor
/- Lists of options that were handed out: written full, each with a mark of its own, then lengthened by sixteen. -/
namespace Go.Eng
open Go Go.RowKit
def mkO (i : Nat) : List Value := [.int .i64 (1000 + (i : Int)), .slice none 0 0]
def tlO (i : Nat) : List Value := [.int .i64 (-1 - (i : Int)), .slice none 0 0]
def mkX (i : Nat) : List Value := [.int .i64 (1000 + (i : Int)), .slice none 0 0, .slice none 0 0]
def tlX (i : Nat) : List Value := [.int .i64 (-1 - (i : Int)), .slice none 0 0, .slice none 0 0]
/-- What lists stand on, once each is lengthened by T. -/
def StoodG (mk tl : Nat → List Value) (T : Nat) (rows gs : List GR) (D : List Fct) (n : Nat) : Prop :=
  ∀ w2, (∀ f ∈ D, f.φ w2) → ∀ (j : Nat) (r : GR), j < n → rows[j]? = some r → Cells w2 r.A (reps r.n (mk j)) ∧ ∃ g : GR, gs[j]? = some g ∧ g.n = r.n + T ∧ Cells w2 g.A (reps r.n (mk j) ++ reps T (tl j))
end Go.Eng
namespace Go.Proofs.YteppichfkeknbaaGreatDoor
namespace N6
open Go.Eng Go.RowKit
theorem tOs : TypeIs Tryz.prog 25 (.slice none 0 0) 1 24 := .of (by kernel_rfl)
theorem tXs : TypeIs Tryz.prog 29 (.slice none 0 0) 1 24 := .of (by kernel_rfl)
section
variable {w w0 : World} {Γ0 : List Fct} {b ln lc : Nat} {lA : Option Addr} {rows : List GR}
set_option maxHeartbeats 8000000 in
theorem own4_lists (H : Sep (Γ0 ++ rows.map (rawR b 100 2)) w) (h0 : Γ0[0]? = some (Fct.rest w0 None)) (hb : b ≤ w0.heap.size)
    (hl : ∀ w', (∀ f ∈ Γ0, f.φ w') → ∀ (i : Nat) (r : GR) (F : Addr → Prop), rows[i]? = some r → (∀ a, w'.cell? (a.add 41) = some (.slice r.A r.n r.c) → F a) → IdxVC lA ln 43 (i : Int) F)
    (hlen : rows.length = ln) (hsm : ln ≤ 900000000000) (hn : ∀ r ∈ rows, r.n ≤ 4000000) :
    Calls Tryz.prog 15 #[.slice lA ln lc] w fun e w' => e = .returned (.bool true) ∧ ∃ Δ, Sep (Γ0 ++ Δ) w' := by
  refine weirlaw13_own4_of lA ln lc w _ ?_
  unfold weirlaw13_own4_VC
  have hin : ∀ {i : Nat} {r : GR}, rows[i]? = some r → r.n ≤ 4000000 := fun h => hn _ (List.mem_of_getElem? h)
  have hget : ∀ i, i < ln → ∃ r, rows[i]? = some r := fun i hi => ⟨_, List.getElem?_eq_getElem (by omega)⟩
  have hrest : ∀ {Y : List Fct} {w' : World}, Sep (Γ0 ++ Y) w' → w0.heap.size ≤ w'.heap.size := fun H => (H.restOf 0 (by
    rw [List.getElem?_append_left (List.getElem?_eq_some_iff.1 h0).1]; exact h0)).size
  refine LoopVC.of (fun st w' => ∃ i : Nat, st = (i : Int) ∧ i ≤ ln ∧ Sep (Γ0 ++ (mapI (fullR b 100 2 mkO) 0 (rows.take i) ++ (rows.drop i).map (rawR b 100 2))) w') (fun st _ => ((ln : Int) - st).toNat)
    ⟨0, rfl, Nat.zero_le _, H⟩ ?_
  rintro _ w1 ⟨i, rfl, hi, H⟩
  show weirlaw13_own4_L26 _ lA ln (i : Int) w1 _
  unfold weirlaw13_own4_L26
  refine Br.dec (fun hlt => ?_) fun hge => ?_
  · obtain ⟨r, hr⟩ := hget i (by omega)
    have hrn := hin hr
    have hmk : IntKind.i64.wrap (1000 + (i : Int)) = 1000 + (i : Int) := w64 (by omega) (by omega)
    have e1 : IntKind.i64.wrap ((i : Int) + 1) = ((i + 1 : Nat) : Int) := by rw [w64 (by omega) (by omega)]; omega
    rw [drop_consA hr, List.map_cons] at H
    obtain ⟨D, hD⟩ : ∃ D, D = mapI (fullR b 100 2 mkO) 0 (rows.take i) := ⟨_, rfl⟩
    obtain ⟨T, hT⟩ : ∃ T, T = (rows.drop (i + 1)).map (rawR b 100 2) := ⟨_, rfl⟩
    rw [← hD, ← hT] at H
    have H := H.focus
    refine LoopVC.of (fun st w' => ∃ (k : Nat) (zs : List Value), st = (k : Int) ∧ k ≤ r.n ∧ zs.length = (r.n - k) * 2 ∧ Sep (Fct.row b 100 2 r.A r.c r.n (reps k (mkO i) ++ zs) :: (Γ0 ++ (D ++ T))) w') (fun st _ => ((r.n : Int) - st).toNat)
      ⟨0, r.xs, rfl, Nat.zero_le _, by have := (H.row 0 rfl).1; omega, H⟩ ?_
    rintro _ w2 ⟨k, zs, rfl, hk, hzl, H⟩
    show weirlaw13_own4_L1682 lA ln (i : Int) _ (k : Int) w2 _
    unfold weirlaw13_own4_L1682
    have hl2 := hl w2 fun f hf => H.mem (List.mem_cons_of_mem _ (List.mem_append_left _ hf))
    refine hl2 i r _ hr fun a ha => ⟨_, _, _, ha, Br.dec (fun hk1 => ?_) fun hk1 => ?_⟩
    · refine hl2 i r _ hr fun a ha => ⟨_, _, _, ha, ?_⟩
      rw [hmk]
      have e2 : IntKind.i64.wrap ((k : Int) + 1) = ((k + 1 : Nat) : Int) := by rw [w64 (by omega) (by omega)]; omega
      refine IdxVC.rowSep H 0 rfl (by omega) (by omega) (by decide) fun a ha => ha _ _ rfl (by simp [Value.oneCell']) fun w3 H3 => ?_
      refine ⟨⟨k + 1, zs.drop 2, e2, by omega, by rw [List.length_drop]; omega, ?_⟩, by rw [e2]; omega⟩
      have e3 : splice (reps k (mkO i) ++ zs) (k * 2) (mkO i) = reps (k + 1) (mkO i) ++ zs.drop 2 := by
        have e4 : k * 2 = (reps k (mkO i)).length := by rw [reps_len]; rfl
        rw [e4, splice_front, reps_add, reps_one]; rfl
      rw [← e3]; exact H3
    · have hkn : k = r.n := by omega
      have hz0 : zs = [] := List.eq_nil_of_length_eq_zero (by rw [hzl, hkn]; simp)
      subst hz0
      subst hkn
      refine ⟨⟨i + 1, e1, by omega, ?_⟩, by rw [e1]; omega⟩
      rw [List.append_nil] at H
      rw [take_snocA hr, mapI_snoc, ← hD, ← hT]
      have hli : 0 + (rows.take i).length = i := by rw [List.length_take]; omega
      rw [hli]
      exact H.perm (perm_unfocus (Z := []))
  have hin' : i = ln := by omega
  subst hin'
  rw [List.take_of_length_le (by omega), List.drop_of_length_le (by omega), List.map_nil, List.append_nil] at H
  refine LoopVC.of (fun st w' => ∃ (j : Nat) (D : List Fct) (gs : List GR), st.2 = (j : Int) ∧ j ≤ i ∧ gs.length = j ∧ st.1.2.1 = j ∧ StoodG mkO tlO 16 rows gs D j ∧
      Sep (Fct.own b 25 1 (.slice st.1.1 st.1.2.1 st.1.2.2) st.1.2.1 (gs.map GR.val) :: (Γ0 ++ (D ++ mapI (fullR b 100 2 mkO) j (rows.drop j)))) w') (fun st _ => ((i : Int) - st.2).toNat)
    ⟨0, [], [], rfl, Nat.zero_le _, rfl, rfl, (fun w2 _ j r hj => absurd hj (by omega)), (H.nil b 25 1).front⟩ ?_
  rintro ⟨⟨LA, Ln, Lc⟩, _⟩ w4 ⟨j, D, gs, rfl, hj, hgl, hLn, hst, H⟩
  simp only at hLn
  have hLn := hLn.symm
  subst hLn
  have H : Sep (Fct.own b 25 1 (.slice LA j Lc) j (gs.map GR.val) :: (Γ0 ++ (D ++ mapI (fullR b 100 2 mkO) j (rows.drop j)))) w4 := H
  show weirlaw13_own4_L122 _ lA i LA j Lc (j : Int) w4 _
  unfold weirlaw13_own4_L122
  refine Br.dec (fun hlt => ?_) fun hge => ?_
  · obtain ⟨r, hr⟩ := hget j (by omega)
    have hrn := hin hr
    have htl : IntKind.i64.wrap ((-1) - (j : Int)) = -1 - (j : Int) := w64 (by omega) (by omega)
    have e1 : IntKind.i64.wrap ((j : Int) + 1) = ((j + 1 : Nat) : Int) := by rw [w64 (by omega) (by omega)]; omega
    refine hl _ (fun f hf => H.mem (List.mem_cons_of_mem _ (List.mem_append_left _ hf))) j r _ hr fun a ha => ⟨_, _, _, ha, ?_⟩
    rw [drop_consA hr] at H
    obtain ⟨R, hR⟩ : ∃ R, R = mapI (fullR b 100 2 mkO) (j + 1) (rows.drop (j + 1)) := ⟨_, rfl⟩
    have H : Sep ((Fct.own b 25 1 (.slice LA j Lc) j (gs.map GR.val) :: Γ0) ++ (D ++ fullR b 100 2 mkO j r :: R)) w4 := by rw [hR]; exact H
    have H := H.focus
    obtain ⟨Γ1, hΓ1⟩ : ∃ Γ1, Γ1 = Fct.own b 25 1 (.slice LA j Lc) j (gs.map GR.val) :: (Γ0 ++ (D ++ R)) := ⟨_, rfl⟩
    obtain ⟨bs, hbs⟩ : ∃ bs : Nat → Fct, bs = fun k => baseR b 100 2 r.A r.c r.n (reps r.n (mkO j)) (tlO j) k := ⟨_, rfl⟩
    have H : Sep (bs 0 :: ([] ++ Γ1)) w4 := by
      rw [hΓ1, hbs]
      have e : baseR b 100 2 r.A r.c r.n (reps r.n (mkO j)) (tlO j) 0 = fullR b 100 2 mkO j r := by unfold baseR fullR; rw [reps_zero, List.append_nil]; rfl
      simp only
      rw [e]; exact H
    have szG : ∀ {Y : List Fct} {w' : World}, Sep (Y ++ Γ1) w' → w0.heap.size ≤ w'.heap.size := fun {Y w'} H => by
      rw [hΓ1] at H
      have H := H.perm (List.perm_append_comm)
      have H : Sep (_ :: (Γ0 ++ (D ++ R)) ++ Y) w' := H
      rw [List.cons_append, List.append_assoc] at H
      exact hrest H.tail
    refine LoopVC.of (fun st w' => ∃ (a k : Nat) (X : List Fct), st.2 = (a : Int) ∧ a ≤ 16 ∧ st.1.2.1 = r.n + a ∧ Grown b 100 2 r.A r.c r.n (reps r.n (mkO j)) (tlO j) k a st.1.1 st.1.2.2 X ∧ Sep (bs k :: (X ++ Γ1)) w') (fun st _ => ((16 : Int) - st.2).toNat)
      ⟨0, 0, [], rfl, by decide, rfl, .base (Nat.le_refl _), H⟩ ?_
    rintro ⟨⟨gA, gn, gc⟩, _⟩ w5 ⟨a, k, X, rfl, haT, hgn, hG, H⟩
    simp only at hgn hG
    subst hgn
    show weirlaw13_own4_L31306 LA j Lc (j : Int) _ gA (r.n + a) gc (a : Int) w5 _
    unfold weirlaw13_own4_L31306
    refine Br.dec (fun ha1 => ?_) fun ha1 => ?_
    · rw [htl]
      have e2 : IntKind.i64.wrap ((a : Int) + 1) = ((a + 1 : Nat) : Int) := by rw [w64 (by omega) (by omega)]; omega
      refine NewVC.sep H fun g1 w6 H => ?_
      rw [List.cons_append, List.append_assoc] at H
      have hz6 := szG (Y := bs k :: X) (w' := w6) (by
        have H : Sep ((bs k :: X) ++ (Γ1 ++ [Fct.blk g1 100 (tlO j)])) w6 := H
        rw [← List.append_assoc] at H
        exact H.dropEnd)
      have hsrc : Cells w6 (some ⟨g1, 0, none⟩) (reps 1 (tlO j)) := by
        rw [reps_one]
        exact Cells.blk0 (H.mem (f := Fct.blk g1 100 (tlO j)) (List.mem_cons_of_mem _ (List.mem_append_right _ (List.mem_append_right _ List.mem_cons_self))))
      rw [hbs] at H
      refine AppVC.grown hG H Tryz.underlying25 tO rfl (by decide) (by rw [reps_len]; rfl) rfl (by simp [tlO, Value.oneCell']) hsrc (by decide) (by omega) (by decide) (by omega) fun k' A2 c2 X' w7 hk' hG' H7 => ?_
      refine ⟨⟨a + 1, k', X', e2, by omega, rfl, hG', ?_⟩, by simp only [e2]; omega⟩
      have H7 : Sep ((bs k' :: X') ++ (Γ1 ++ [Fct.blk g1 100 (tlO j)])) w7 := by rw [hbs]; exact H7
      rw [← List.append_assoc] at H7
      exact H7.dropEnd
    · have haT' : a = 16 := by omega
      subst haT'
      refine NewVC.sep H fun g2 w8 H => ?_
      have H : Sep ((bs k :: X) ++ Γ1 ++ [Fct.blk g2 25 [.slice gA (r.n + 16) gc]]) w8 := H
      have hz8 := szG H.dropEnd
      rw [hΓ1, List.append_assoc] at H
      have H : Sep ((bs k :: X) ++ Fct.own b 25 1 (.slice LA j Lc) j (gs.map GR.val) :: ((Γ0 ++ (D ++ R)) ++ [Fct.blk g2 25 [.slice gA (r.n + 16) gc]])) w8 := H
      have H := H.mid
      have hsrc : Cells w8 (some ⟨g2, 0, none⟩) [Value.slice gA (r.n + 16) gc] := Cells.blk0 (H.mem (f := Fct.blk g2 25 [.slice gA (r.n + 16) gc]) (by simp))
      refine AppVC.sep H 0 Tryz.underlying102 tOs rfl (by decide) rfl hsrc rfl (fun v hv => by simp at hv; subst hv; rfl) (by omega) (by decide) (by omega) fun A3 c3 w9 H9 _ => ?_
      have H9 : Sep (Fct.own b 25 1 (.slice A3 (j + 1) c3) (j + 1) (gs.map GR.val ++ [.slice gA (r.n + 16) gc]) :: ((bs k :: X) ++ ((Γ0 ++ (D ++ R)) ++ [Fct.blk g2 25 [.slice gA (r.n + 16) gc]]))) w9 := H9
      rw [← List.append_assoc, ← List.cons_append] at H9
      have H9 := H9.dropEnd
      refine ⟨⟨j + 1, D ++ (bs k :: X), gs ++ [⟨gA, r.n + 16, gc, []⟩], e1, by omega, by simp [hgl], rfl, ?_, ?_⟩, by simp only [e1]; omega⟩
      · intro w2 hf q r' hq hr'
        rcases Nat.lt_or_ge q j with hqj | hqj
        · obtain ⟨h1, g, hg, h2⟩ := hst w2 (fun f hf' => hf f (List.mem_append_left _ hf')) q r' hqj hr'
          exact ⟨h1, g, by rw [List.getElem?_append_left (by omega)]; exact hg, h2⟩
        · have hqj : q = j := by omega
          subst hqj
          rw [hr] at hr'; injection hr' with hr'; subst hr'
          have hbase : (baseR b 100 2 r.A r.c r.n (reps r.n (mkO q)) (tlO q) k).φ w2 := by
            have := hf _ (List.mem_append_right D (List.mem_cons_self (a := bs k) (l := X)))
            rw [hbs] at this; exact this
          refine ⟨?_, ⟨gA, r.n + 16, gc, []⟩, by rw [List.getElem?_append_right (by omega), hgl, Nat.sub_self]; rfl, rfl, hG.cells hbase fun f hfX => hf f (List.mem_append_right _ (List.mem_cons_of_mem _ hfX))⟩
          have := base_cells (m := 0) hbase (Nat.zero_le _)
          rwa [reps_zero, List.append_nil] at this
      · rw [List.map_append]
        refine H9.perm (.cons _ ?_)
        rw [← hR]
        exact perm_unfocus
  have hjn : j = i := by omega
  subst hjn
  refine LoopVC.of (fun st w' => w' = w4 ∧ ∃ q : Nat, st = (q : Int) ∧ q ≤ j) (fun st _ => ((j : Int) - st).toNat) ⟨rfl, 0, rfl, Nat.zero_le _⟩ ?_
  rintro _ w10 ⟨hw, q, rfl, hq⟩
  subst w10
  show weirlaw13_own4_L250 _ lA j LA j (q : Int) w4 _
  unfold weirlaw13_own4_L250
  refine Br.dec (fun hlt => ?_) fun hge => ⟨rfl, _, H.tail⟩
  obtain ⟨r, hr⟩ := hget q (by omega)
  have hrn := hin hr
  obtain ⟨hc1, g, hg, hgn, hc2⟩ := hst w4 (fun f hf => H.mem (List.mem_cons_of_mem _ (List.mem_append_right _ (List.mem_append_left _ hf)))) q r (by omega) hr
  have hl4 := hl w4 fun f hf => H.mem (List.mem_cons_of_mem _ (List.mem_append_left _ hf))
  have hgs : Cells w4 LA (gs.map GR.val) := H.cells 0 rfl
  have hmk : IntKind.i64.wrap (1000 + (q : Int)) = 1000 + (q : Int) := w64 (by omega) (by omega)
  have htl : IntKind.i64.wrap ((-1) - (q : Int)) = -1 - (q : Int) := w64 (by omega) (by omega)
  have e1 : IntKind.i64.wrap ((q : Int) + 1) = ((q + 1 : Nat) : Int) := by rw [w64 (by omega) (by omega)]; omega
  have e16 : IntKind.i64.wrap ((r.n : Int) + 16) = ((r.n + 16 : Nat) : Int) := by rw [w64 (by omega) (by omega)]; omega
  refine hl4 q r _ hr fun a ha => ⟨_, _, _, ha, ?_⟩
  refine LoopVC.of (fun st w' => w' = w4 ∧ ∃ k : Nat, st = (k : Int) ∧ r.n ≤ k ∧ k ≤ r.n + 16) (fun st _ => (((r.n + 16 : Nat) : Int) - st).toNat) ⟨rfl, r.n, rfl, Nat.le_refl _, by omega⟩ ?_
  rintro _ w11 ⟨hw, k, rfl, hk1, hk2⟩
  subst w11
  show weirlaw13_own4_L64074 _ lA j LA j (q : Int) _ r.n (k : Int) w4 _
  unfold weirlaw13_own4_L64074
  rw [htl, e16]
  refine Br.dec (fun hk => ?_) fun hk => ?_
  · have ek : IntKind.i64.wrap ((k : Int) + 1) = ((k + 1 : Nat) : Int) := by rw [w64 (by omega) (by omega)]; omega
    refine idx_rows hgs hg hgl fun a ha => ⟨_, _, _, ha, ?_⟩
    refine idx_el hc2 (u := mkO q) (v := tlO q) rfl rfl (by omega) (by omega) (x := .int .i64 (1000 + (q : Int))) (y := .int .i64 (-1 - (q : Int))) rfl rfl fun a ha => ⟨-1 - (q : Int), by rw [ha, if_neg (by omega)], Br.no (fun x => x rfl) ⟨⟨rfl, k + 1, ek, by omega, by omega⟩, by rw [ek]; omega⟩⟩
  refine LoopVC.of (fun st w' => w' = w4 ∧ ∃ k : Nat, st = (k : Int) ∧ k ≤ r.n) (fun st _ => ((r.n : Int) - st).toNat) ⟨rfl, 0, rfl, Nat.zero_le _⟩ ?_
  rintro _ w12 ⟨hw, k, rfl, hk3⟩
  subst w12
  show weirlaw13_own4_L64078 _ lA j LA j (q : Int) _ r.n (k : Int) w4 _
  unfold weirlaw13_own4_L64078
  rw [hmk, e1]
  have ek : IntKind.i64.wrap ((k : Int) + 1) = ((k + 1 : Nat) : Int) := by rw [w64 (by omega) (by omega)]; omega
  rw [ek]
  refine Br.dec (fun hkn => ?_) fun hkn => ⟨⟨rfl, q + 1, rfl, by omega⟩, by omega⟩
  refine hl4 q r _ hr fun a ha => ⟨_, _, _, ha, ?_⟩
  have hc0 : Cells w4 r.A (reps r.n (mkO q) ++ reps 0 (tlO q)) := by rw [reps_zero, List.append_nil]; exact hc1
  refine idx_el (t := 0) hc0 rfl rfl (by omega) (by omega) (x := .int .i64 (1000 + (q : Int))) (y := .int .i64 (-1 - (q : Int))) rfl rfl fun a ha => ⟨1000 + (q : Int), by rw [ha, if_pos (by omega)], Br.no (fun x => x rfl) ?_⟩
  refine idx_rows hgs hg hgl fun a ha => ⟨_, _, _, ha, ?_⟩
  exact idx_el hc2 (u := mkO q) (v := tlO q) rfl rfl (by omega) (by omega) (x := .int .i64 (1000 + (q : Int))) (y := .int .i64 (-1 - (q : Int))) rfl rfl fun a ha => ⟨1000 + (q : Int), by rw [ha, if_pos (by omega)], Br.no (fun x => x rfl) ⟨⟨rfl, k + 1, rfl, by omega⟩, by omega⟩⟩
end
end N6
end Go.Proofs.YteppichfkeknbaaGreatDoor
/- Lists of extension headers that were handed out: likewise. -/
namespace Go.Proofs.YteppichfkeknbaaGreatDoor
namespace N6
open Go.Eng Go.RowKit
section
variable {w w0 : World} {Γ0 : List Fct} {b ln lc : Nat} {lA : Option Addr} {rows : List GR}
set_option maxHeartbeats 8000000 in
theorem own6_lists (H : Sep (Γ0 ++ rows.map (rawR b 81 3)) w) (h0 : Γ0[0]? = some (Fct.rest w0 None)) (hb : b ≤ w0.heap.size)
    (hl : ∀ w', (∀ f ∈ Γ0, f.φ w') → ∀ (i : Nat) (r : GR) (F : Addr → Prop), rows[i]? = some r → (∀ a, w'.cell? (a.add 37) = some (.slice r.A r.n r.c) → F a) → IdxVC lA ln 44 (i : Int) F)
    (hlen : rows.length = ln) (hsm : ln ≤ 900000000000) (hn : ∀ r ∈ rows, r.n ≤ 4000000) {x : Bool} {R : Ending → World → Prop} (hR : ∀ (w' : World) (Δ : List Fct), Sep (Γ0 ++ Δ) w' → R (.returned (.bool x)) w') :
    LoopVC (S := Int) (fun s_ w6 K250 => weirlaw13_own6_L250 R lA ln x s_ w6 K250) 0 w := by
  have hin : ∀ {i : Nat} {r : GR}, rows[i]? = some r → r.n ≤ 4000000 := fun h => hn _ (List.mem_of_getElem? h)
  have hget : ∀ i, i < ln → ∃ r, rows[i]? = some r := fun i hi => ⟨_, List.getElem?_eq_getElem (by omega)⟩
  have hrest : ∀ {Y : List Fct} {w' : World}, Sep (Γ0 ++ Y) w' → w0.heap.size ≤ w'.heap.size := fun H => (H.restOf 0 (by
    rw [List.getElem?_append_left (List.getElem?_eq_some_iff.1 h0).1]; exact h0)).size
  refine LoopVC.of (fun st w' => ∃ i : Nat, st = (i : Int) ∧ i ≤ ln ∧ Sep (Γ0 ++ (mapI (fullR b 81 3 mkX) 0 (rows.take i) ++ (rows.drop i).map (rawR b 81 3))) w') (fun st _ => ((ln : Int) - st).toNat)
    ⟨0, rfl, Nat.zero_le _, H⟩ ?_
  rintro _ w1 ⟨i, rfl, hi, H⟩
  show weirlaw13_own6_L250 _ lA ln x (i : Int) w1 _
  unfold weirlaw13_own6_L250
  refine Br.dec (fun hlt => ?_) fun hge => ?_
  · obtain ⟨r, hr⟩ := hget i (by omega)
    have hrn := hin hr
    have hmk : IntKind.i64.wrap (1000 + (i : Int)) = 1000 + (i : Int) := w64 (by omega) (by omega)
    have e1 : IntKind.i64.wrap ((i : Int) + 1) = ((i + 1 : Nat) : Int) := by rw [w64 (by omega) (by omega)]; omega
    rw [drop_consA hr, List.map_cons] at H
    obtain ⟨D, hD⟩ : ∃ D, D = mapI (fullR b 81 3 mkX) 0 (rows.take i) := ⟨_, rfl⟩
    obtain ⟨T, hT⟩ : ∃ T, T = (rows.drop (i + 1)).map (rawR b 81 3) := ⟨_, rfl⟩
    rw [← hD, ← hT] at H
    have H := H.focus
    refine LoopVC.of (fun st w' => ∃ (k : Nat) (zs : List Value), st = (k : Int) ∧ k ≤ r.n ∧ zs.length = (r.n - k) * 3 ∧ Sep (Fct.row b 81 3 r.A r.c r.n (reps k (mkX i) ++ zs) :: (Γ0 ++ (D ++ T))) w') (fun st _ => ((r.n : Int) - st).toNat)
      ⟨0, r.xs, rfl, Nat.zero_le _, by have := (H.row 0 rfl).1; omega, H⟩ ?_
    rintro _ w2 ⟨k, zs, rfl, hk, hzl, H⟩
    show weirlaw13_own6_L16018 lA ln (i : Int) _ (k : Int) w2 _
    unfold weirlaw13_own6_L16018
    have hl2 := hl w2 fun f hf => H.mem (List.mem_cons_of_mem _ (List.mem_append_left _ hf))
    refine hl2 i r _ hr fun a ha => ⟨_, _, _, ha, Br.dec (fun hk1 => ?_) fun hk1 => ?_⟩
    · refine hl2 i r _ hr fun a ha => ⟨_, _, _, ha, ?_⟩
      rw [hmk]
      have e2 : IntKind.i64.wrap ((k : Int) + 1) = ((k + 1 : Nat) : Int) := by rw [w64 (by omega) (by omega)]; omega
      refine IdxVC.rowSep H 0 rfl (by omega) (by omega) (by decide) fun a ha => ha _ _ rfl (by simp [Value.oneCell']) fun w3 H3 => ?_
      refine ⟨⟨k + 1, zs.drop 3, e2, by omega, by rw [List.length_drop]; omega, ?_⟩, by rw [e2]; omega⟩
      have e3 : splice (reps k (mkX i) ++ zs) (k * 3) (mkX i) = reps (k + 1) (mkX i) ++ zs.drop 3 := by
        have e4 : k * 3 = (reps k (mkX i)).length := by rw [reps_len]; rfl
        rw [e4, splice_front, reps_add, reps_one]; rfl
      rw [← e3]; exact H3
    · have hkn : k = r.n := by omega
      have hz0 : zs = [] := List.eq_nil_of_length_eq_zero (by rw [hzl, hkn]; simp)
      subst hz0
      subst hkn
      refine ⟨⟨i + 1, e1, by omega, ?_⟩, by rw [e1]; omega⟩
      rw [List.append_nil] at H
      rw [take_snocA hr, mapI_snoc, ← hD, ← hT]
      have hli : 0 + (rows.take i).length = i := by rw [List.length_take]; omega
      rw [hli]
      exact H.perm (perm_unfocus (Z := []))
  have hin' : i = ln := by omega
  subst hin'
  rw [List.take_of_length_le (by omega), List.drop_of_length_le (by omega), List.map_nil, List.append_nil] at H
  refine LoopVC.of (fun st w' => ∃ (j : Nat) (D : List Fct) (gs : List GR), st.2 = (j : Int) ∧ j ≤ i ∧ gs.length = j ∧ st.1.2.1 = j ∧ StoodG mkX tlX 16 rows gs D j ∧
      Sep (Fct.own b 29 1 (.slice st.1.1 st.1.2.1 st.1.2.2) st.1.2.1 (gs.map GR.val) :: (Γ0 ++ (D ++ mapI (fullR b 81 3 mkX) j (rows.drop j)))) w') (fun st _ => ((i : Int) - st.2).toNat)
    ⟨0, [], [], rfl, Nat.zero_le _, rfl, rfl, (fun w2 _ j r hj => absurd hj (by omega)), (H.nil b 29 1).front⟩ ?_
  rintro ⟨⟨LA, Ln, Lc⟩, _⟩ w4 ⟨j, D, gs, rfl, hj, hgl, hLn, hst, H⟩
  simp only at hLn
  have hLn := hLn.symm
  subst hLn
  have H : Sep (Fct.own b 29 1 (.slice LA j Lc) j (gs.map GR.val) :: (Γ0 ++ (D ++ mapI (fullR b 81 3 mkX) j (rows.drop j)))) w4 := H
  show weirlaw13_own6_L1018 _ lA i x LA j Lc (j : Int) w4 _
  unfold weirlaw13_own6_L1018
  refine Br.dec (fun hlt => ?_) fun hge => ?_
  · obtain ⟨r, hr⟩ := hget j (by omega)
    have hrn := hin hr
    have htl : IntKind.i64.wrap ((-1) - (j : Int)) = -1 - (j : Int) := w64 (by omega) (by omega)
    have e1 : IntKind.i64.wrap ((j : Int) + 1) = ((j + 1 : Nat) : Int) := by rw [w64 (by omega) (by omega)]; omega
    refine hl _ (fun f hf => H.mem (List.mem_cons_of_mem _ (List.mem_append_left _ hf))) j r _ hr fun a ha => ⟨_, _, _, ha, ?_⟩
    rw [drop_consA hr] at H
    obtain ⟨R, hR⟩ : ∃ R, R = mapI (fullR b 81 3 mkX) (j + 1) (rows.drop (j + 1)) := ⟨_, rfl⟩
    have H : Sep ((Fct.own b 29 1 (.slice LA j Lc) j (gs.map GR.val) :: Γ0) ++ (D ++ fullR b 81 3 mkX j r :: R)) w4 := by rw [hR]; exact H
    have H := H.focus
    obtain ⟨Γ1, hΓ1⟩ : ∃ Γ1, Γ1 = Fct.own b 29 1 (.slice LA j Lc) j (gs.map GR.val) :: (Γ0 ++ (D ++ R)) := ⟨_, rfl⟩
    obtain ⟨bs, hbs⟩ : ∃ bs : Nat → Fct, bs = fun k => baseR b 81 3 r.A r.c r.n (reps r.n (mkX j)) (tlX j) k := ⟨_, rfl⟩
    have H : Sep (bs 0 :: ([] ++ Γ1)) w4 := by
      rw [hΓ1, hbs]
      have e : baseR b 81 3 r.A r.c r.n (reps r.n (mkX j)) (tlX j) 0 = fullR b 81 3 mkX j r := by unfold baseR fullR; rw [reps_zero, List.append_nil]; rfl
      simp only
      rw [e]; exact H
    have szG : ∀ {Y : List Fct} {w' : World}, Sep (Y ++ Γ1) w' → w0.heap.size ≤ w'.heap.size := fun {Y w'} H => by
      rw [hΓ1] at H
      have H := H.perm (List.perm_append_comm)
      have H : Sep (_ :: (Γ0 ++ (D ++ R)) ++ Y) w' := H
      rw [List.cons_append, List.append_assoc] at H
      exact hrest H.tail
    refine LoopVC.of (fun st w' => ∃ (a k : Nat) (X : List Fct), st.2 = (a : Int) ∧ a ≤ 16 ∧ st.1.2.1 = r.n + a ∧ Grown b 81 3 r.A r.c r.n (reps r.n (mkX j)) (tlX j) k a st.1.1 st.1.2.2 X ∧ Sep (bs k :: (X ++ Γ1)) w') (fun st _ => ((16 : Int) - st.2).toNat)
      ⟨0, 0, [], rfl, by decide, rfl, .base (Nat.le_refl _), H⟩ ?_
    rintro ⟨⟨gA, gn, gc⟩, _⟩ w5 ⟨a, k, X, rfl, haT, hgn, hG, H⟩
    simp only at hgn hG
    subst hgn
    show weirlaw13_own6_L260682 LA j Lc (j : Int) _ gA (r.n + a) gc (a : Int) w5 _
    unfold weirlaw13_own6_L260682
    refine Br.dec (fun ha1 => ?_) fun ha1 => ?_
    · rw [htl]
      have e2 : IntKind.i64.wrap ((a : Int) + 1) = ((a + 1 : Nat) : Int) := by rw [w64 (by omega) (by omega)]; omega
      refine NewVC.sep H fun g1 w6 H => ?_
      rw [List.cons_append, List.append_assoc] at H
      have hz6 := szG (Y := bs k :: X) (w' := w6) (by
        have H : Sep ((bs k :: X) ++ (Γ1 ++ [Fct.blk g1 81 (tlX j)])) w6 := H
        rw [← List.append_assoc] at H
        exact H.dropEnd)
      have hsrc : Cells w6 (some ⟨g1, 0, none⟩) (reps 1 (tlX j)) := by
        rw [reps_one]
        exact Cells.blk0 (H.mem (f := Fct.blk g1 81 (tlX j)) (List.mem_cons_of_mem _ (List.mem_append_right _ (List.mem_append_right _ List.mem_cons_self))))
      rw [hbs] at H
      refine AppVC.grown hG H Tryz.underlying29 tE rfl (by decide) (by rw [reps_len]; rfl) rfl (by simp [tlX, Value.oneCell']) hsrc (by decide) (by omega) (by decide) (by omega) fun k' A2 c2 X' w7 hk' hG' H7 => ?_
      refine ⟨⟨a + 1, k', X', e2, by omega, rfl, hG', ?_⟩, by simp only [e2]; omega⟩
      have H7 : Sep ((bs k' :: X') ++ (Γ1 ++ [Fct.blk g1 81 (tlX j)])) w7 := by rw [hbs]; exact H7
      rw [← List.append_assoc] at H7
      exact H7.dropEnd
    · have haT' : a = 16 := by omega
      subst haT'
      refine NewVC.sep H fun g2 w8 H => ?_
      have H : Sep ((bs k :: X) ++ Γ1 ++ [Fct.blk g2 29 [.slice gA (r.n + 16) gc]]) w8 := H
      have hz8 := szG H.dropEnd
      rw [hΓ1, List.append_assoc] at H
      have H : Sep ((bs k :: X) ++ Fct.own b 29 1 (.slice LA j Lc) j (gs.map GR.val) :: ((Γ0 ++ (D ++ R)) ++ [Fct.blk g2 29 [.slice gA (r.n + 16) gc]])) w8 := H
      have H := H.mid
      have hsrc : Cells w8 (some ⟨g2, 0, none⟩) [Value.slice gA (r.n + 16) gc] := Cells.blk0 (H.mem (f := Fct.blk g2 29 [.slice gA (r.n + 16) gc]) (by simp))
      refine AppVC.sep H 0 Tryz.underlying103 tXs rfl (by decide) rfl hsrc rfl (fun v hv => by simp at hv; subst hv; rfl) (by omega) (by decide) (by omega) fun A3 c3 w9 H9 _ => ?_
      have H9 : Sep (Fct.own b 29 1 (.slice A3 (j + 1) c3) (j + 1) (gs.map GR.val ++ [.slice gA (r.n + 16) gc]) :: ((bs k :: X) ++ ((Γ0 ++ (D ++ R)) ++ [Fct.blk g2 29 [.slice gA (r.n + 16) gc]]))) w9 := H9
      rw [← List.append_assoc, ← List.cons_append] at H9
      have H9 := H9.dropEnd
      refine ⟨⟨j + 1, D ++ (bs k :: X), gs ++ [⟨gA, r.n + 16, gc, []⟩], e1, by omega, by simp [hgl], rfl, ?_, ?_⟩, by simp only [e1]; omega⟩
      · intro w2 hf q r' hq hr'
        rcases Nat.lt_or_ge q j with hqj | hqj
        · obtain ⟨h1, g, hg, h2⟩ := hst w2 (fun f hf' => hf f (List.mem_append_left _ hf')) q r' hqj hr'
          exact ⟨h1, g, by rw [List.getElem?_append_left (by omega)]; exact hg, h2⟩
        · have hqj : q = j := by omega
          subst hqj
          rw [hr] at hr'; injection hr' with hr'; subst hr'
          have hbase : (baseR b 81 3 r.A r.c r.n (reps r.n (mkX q)) (tlX q) k).φ w2 := by
            have := hf _ (List.mem_append_right D (List.mem_cons_self (a := bs k) (l := X)))
            rw [hbs] at this; exact this
          refine ⟨?_, ⟨gA, r.n + 16, gc, []⟩, by rw [List.getElem?_append_right (by omega), hgl, Nat.sub_self]; rfl, rfl, hG.cells hbase fun f hfX => hf f (List.mem_append_right _ (List.mem_cons_of_mem _ hfX))⟩
          have := base_cells (m := 0) hbase (Nat.zero_le _)
          rwa [reps_zero, List.append_nil] at this
      · rw [List.map_append]
        refine H9.perm (.cons _ ?_)
        rw [← hR]
        exact perm_unfocus
  have hjn : j = i := by omega
  subst hjn
  refine LoopVC.of (fun st w' => w' = w4 ∧ ∃ q : Nat, st = (q : Int) ∧ q ≤ j) (fun st _ => ((j : Int) - st).toNat) ⟨rfl, 0, rfl, Nat.zero_le _⟩ ?_
  rintro _ w10 ⟨hw, q, rfl, hq⟩
  subst w10
  show weirlaw13_own6_L2042 _ lA j x LA j (q : Int) w4 _
  unfold weirlaw13_own6_L2042
  refine Br.dec (fun hlt => ?_) fun hge => hR w4 _ H.tail
  obtain ⟨r, hr⟩ := hget q (by omega)
  have hrn := hin hr
  obtain ⟨hc1, g, hg, hgn, hc2⟩ := hst w4 (fun f hf => H.mem (List.mem_cons_of_mem _ (List.mem_append_right _ (List.mem_append_left _ hf)))) q r (by omega) hr
  have hl4 := hl w4 fun f hf => H.mem (List.mem_cons_of_mem _ (List.mem_append_left _ hf))
  have hgs : Cells w4 LA (gs.map GR.val) := H.cells 0 rfl
  have hmk : IntKind.i64.wrap (1000 + (q : Int)) = 1000 + (q : Int) := w64 (by omega) (by omega)
  have htl : IntKind.i64.wrap ((-1) - (q : Int)) = -1 - (q : Int) := w64 (by omega) (by omega)
  have e1 : IntKind.i64.wrap ((q : Int) + 1) = ((q + 1 : Nat) : Int) := by rw [w64 (by omega) (by omega)]; omega
  have e16 : IntKind.i64.wrap ((r.n : Int) + 16) = ((r.n + 16 : Nat) : Int) := by rw [w64 (by omega) (by omega)]; omega
  refine hl4 q r _ hr fun a ha => ⟨_, _, _, ha, ?_⟩
  refine LoopVC.of (fun st w' => w' = w4 ∧ ∃ k : Nat, st = (k : Int) ∧ r.n ≤ k ∧ k ≤ r.n + 16) (fun st _ => (((r.n + 16 : Nat) : Int) - st).toNat) ⟨rfl, r.n, rfl, Nat.le_refl _, by omega⟩ ?_
  rintro _ w11 ⟨hw, k, rfl, hk1, hk2⟩
  subst w11
  show weirlaw13_own6_L522826 _ lA j LA j (q : Int) _ r.n (k : Int) w4 _
  unfold weirlaw13_own6_L522826
  rw [htl, e16]
  refine Br.dec (fun hk => ?_) fun hk => ?_
  · have ek : IntKind.i64.wrap ((k : Int) + 1) = ((k + 1 : Nat) : Int) := by rw [w64 (by omega) (by omega)]; omega
    refine idx_rows hgs hg hgl fun a ha => ⟨_, _, _, ha, ?_⟩
    refine idx_el hc2 (u := mkX q) (v := tlX q) rfl rfl (by omega) (by omega) (x := .int .i64 (1000 + (q : Int))) (y := .int .i64 (-1 - (q : Int))) rfl rfl fun a ha => ⟨-1 - (q : Int), by rw [ha, if_neg (by omega)], Br.no (fun x => x rfl) ⟨⟨rfl, k + 1, ek, by omega, by omega⟩, by rw [ek]; omega⟩⟩
  refine LoopVC.of (fun st w' => w' = w4 ∧ ∃ k : Nat, st = (k : Int) ∧ k ≤ r.n) (fun st _ => ((r.n : Int) - st).toNat) ⟨rfl, 0, rfl, Nat.zero_le _⟩ ?_
  rintro _ w12 ⟨hw, k, rfl, hk3⟩
  subst w12
  show weirlaw13_own6_L522830 _ lA j LA j (q : Int) _ r.n (k : Int) w4 _
  unfold weirlaw13_own6_L522830
  rw [hmk, e1]
  have ek : IntKind.i64.wrap ((k : Int) + 1) = ((k + 1 : Nat) : Int) := by rw [w64 (by omega) (by omega)]; omega
  rw [ek]
  refine Br.dec (fun hkn => ?_) fun hkn => ⟨⟨rfl, q + 1, rfl, by omega⟩, by omega⟩
  refine hl4 q r _ hr fun a ha => ⟨_, _, _, ha, ?_⟩
  have hc0 : Cells w4 r.A (reps r.n (mkX q) ++ reps 0 (tlX q)) := by rw [reps_zero, List.append_nil]; exact hc1
  refine idx_el (t := 0) hc0 rfl rfl (by omega) (by omega) (x := .int .i64 (1000 + (q : Int))) (y := .int .i64 (-1 - (q : Int))) rfl rfl fun a ha => ⟨1000 + (q : Int), by rw [ha, if_pos (by omega)], Br.no (fun x => x rfl) ?_⟩
  refine idx_rows hgs hg hgl fun a ha => ⟨_, _, _, ha, ?_⟩
  exact idx_el hc2 (u := mkX q) (v := tlX q) rfl rfl (by omega) (by omega) (x := .int .i64 (1000 + (q : Int))) (y := .int .i64 (-1 - (q : Int))) rfl rfl fun a ha => ⟨1000 + (q : Int), by rw [ha, if_pos (by omega)], Br.no (fun x => x rfl) ⟨⟨rfl, k + 1, rfl, by omega⟩, by omega⟩⟩
end
end N6
end Go.Proofs.YteppichfkeknbaaGreatDoor
