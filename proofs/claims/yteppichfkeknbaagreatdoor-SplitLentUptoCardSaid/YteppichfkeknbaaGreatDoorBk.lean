/- WRITTEN BY a program of this session (vc.py): for each Go function the condition that is enough for its contract, and the theorem that it is. -/
import Derived.Test.YteppichfkeknbaaGreatDoorProg
import Derived.Test.YteppichfkeknbaaGreatDoorBq
import Derived.Test.YteppichfkeknbaaGreatDoorBg
import Derived.Test.YteppichfkeknbaaGreatDoorBe
import Derived.Test.YteppichfkeknbaaGreatDoorBh
import Derived.Test.YteppichfkeknbaaGreatDoorBj
namespace Go.Proofs.YteppichfkeknbaaGreatDoor
open Go.Eng
namespace N6

set_option maxRecDepth 100000 in
def ip4_out_VC (n : Int) (hi : Int) (w : World) (R : Ending → World → Prop) : Prop :=
  Br (decide (n < 0))
    (R (.returned (.bool true)) w)
    (R (.returned (.bool (decide (hi < n)))) w)
def ip4_out_H : Hints := []
set_option maxRecDepth 100000 in
theorem ip4_out_of (n : Int) (hi : Int) (w : World) (R : Ending → World → Prop) (hvc_ : ip4_out_VC n hi w R) :
    Calls Tryz.prog 72 #[.int .i64 n, .int .i64 hi] w R :=
  calls_of_wpc callOk mixedOk (H := ip4_out_H) (args := [.int .i64 n, .int .i64 hi]) (fn := Tryz.f72) (c := bodyOf Tryz.f72) Tryz.func72 rfl (Nat.le_of_ble_eq_true rfl)
    (Eq.mp (by kernel_rfl : ip4_out_VC n hi w R = wpc Tryz.prog callF Tryz.f72.ntmps ip4_out_H 1 (bodyOf Tryz.f72) (argEnv 0 [.int .i64 n, .int .i64 hi]) [] w (finish Tryz.prog callF Tryz.f72.results.toList R)) hvc_)

set_option maxRecDepth 100000 in
def ip4_four_VC (ip : IPV) (w : World) (R : Ending → World → Prop) : Prop :=
  NewVC w (.cells ip.cells.toArray 24) fun g1 w1 =>
  NewVC w1 (.cells (A16V.z : A16V).cells.toArray 22) fun g2 w2 =>
  DrawVC w2 fun _S1 w3 =>
  SliceVC (some ⟨g2, 0, none⟩) 16 16 1 none (some 4) none fun sA sn sc =>
  SliceVC (some ⟨g1, 1, none⟩) 16 16 1 none (some 4) none fun sA1 sn1 sc1 =>
  CopyVC Tryz.prog #[26, 26] 3 (.slice sA sn sc) (.slice sA1 sn1 sc1) w3 fun _m w4 =>
  ∃ x : Int, w4.cell? ⟨g1, 0, none⟩ = some (.int .i64 x) ∧
  Br (decide (x = 4))
    (A16V.ex fun h => CellsAt w4 ⟨g1, 1, none⟩ 0 h.cells ∧
    A16V.ex fun h1 => CellsAt w4 ⟨g2, 0, none⟩ 0 h1.cells ∧
    R (.returned (.bool (A16V.beq h h1))) w4)
    (R (.returned (.bool false)) w4)
def ip4_four_H : Hints := []
set_option maxRecDepth 100000 in
theorem ip4_four_of (ip : IPV) (w : World) (R : Ending → World → Prop) (hvc_ : ip4_four_VC ip w R) :
    Calls Tryz.prog 73 #[ip.val] w R :=
  calls_of_wpc callOk mixedOk (H := ip4_four_H) (args := [ip.val]) (fn := Tryz.f73) (c := bodyOf Tryz.f73) Tryz.func73 rfl (Nat.le_of_ble_eq_true rfl)
    (Eq.mp (by kernel_rfl : ip4_four_VC ip w R = wpc Tryz.prog callF Tryz.f73.ntmps ip4_four_H 1 (bodyOf Tryz.f73) (argEnv 0 [ip.val]) [] w (finish Tryz.prog callF Tryz.f73.results.toList R)) hvc_)

set_option maxRecDepth 100000 in
def ip4_fragment_VC (mf : Bool) (off : Int) (n : Int) (w : World) (R : Ending → World → Prop) : Prop :=
  Br mf
    (Br (decide (n = 0))
      (R (.returned (.int .i64 66)) w)
      (Br (decide (Int.tmod n 8 ≠ 0))
        (R (.returned (.int .i64 66)) w)
        (Br (decide ((65515 : Int) < IntKind.i64.wrap (off + n)))
    (R (.returned (.int .i64 66)) w)
    (R (.returned (.int .i64 0)) w))))
    (Br (decide ((65515 : Int) < IntKind.i64.wrap (off + n)))
    (R (.returned (.int .i64 66)) w)
    (R (.returned (.int .i64 0)) w))
def ip4_fragment_H : Hints := []
set_option maxRecDepth 100000 in
theorem ip4_fragment_of (mf : Bool) (off : Int) (n : Int) (w : World) (R : Ending → World → Prop) (hvc_ : ip4_fragment_VC mf off n w R) :
    Calls Tryz.prog 75 #[.bool mf, .int .i64 off, .int .i64 n] w R :=
  calls_of_wpc callOk mixedOk (H := ip4_fragment_H) (args := [.bool mf, .int .i64 off, .int .i64 n]) (fn := Tryz.f75) (c := bodyOf Tryz.f75) Tryz.func75 rfl (Nat.le_of_ble_eq_true rfl)
    (Eq.mp (by kernel_rfl : ip4_fragment_VC mf off n w R = wpc Tryz.prog callF Tryz.f75.ntmps ip4_fragment_H 1 (bodyOf Tryz.f75) (argEnv 0 [.bool mf, .int .i64 off, .int .i64 n]) [] w (finish Tryz.prog callF Tryz.f75.results.toList R)) hvc_)

set_option maxRecDepth 100000 in
def ip4_PutOptions_L60 (R : Ending → World → Prop)  (outA1 : Option Addr) (outn1 : Nat) (outc1 : Nat) (w7 : World) (K60 : ((Option Addr × Nat × Nat) → World → Prop)) : Prop :=
  Br (decide ((0 : Int) < Int.tmod (outn1 : Int) 4))
    (NewVC w7 (.cells #[.int .u8 0] 5) fun g3 w8 =>
  AppVC Tryz.prog #[26, 26] 26 (.slice outA1 outn1 outc1) (.slice (some ⟨g3, 0, none⟩) 1 1) w8 fun lA3 ln3 lc3 w9 =>
  K60 (lA3, ln3, lc3) w9)
    (R (.returned (.tuple #[.slice outA1 outn1 outc1, .int .i64 0])) w7)
set_option maxRecDepth 100000 in
def ip4_PutOptions_L58 (R : Ending → World → Prop) (lA : Option Addr) (ln : Nat) (outA : Option Addr) (outn : Nat) (outc : Nat) (t9_ : Int) (w1 : World) (K58 : ((Option Addr × Nat × Nat) × Int → World → Prop)) : Prop :=
  Br (decide (t9_ < (ln : Int)))
    (IdxVC lA ln 2 t9_ fun a =>
  OptV.ex fun h => CellsAt w1 a 0 h.cells ∧
  NewVC w1 (.cells (OptV.z : OptV).cells.toArray 100) fun g1 w2 =>
  Stores ⟨g1, 0, none⟩ 0 h.cells w2 fun w3 =>
  ∃ x : Int, w3.cell? ⟨g1, 0, none⟩ = some (.int .i64 x) ∧
  Br (decide (x < 2))
    (R (.returned (.tuple #[.slice none 0 0, .int .i64 65])) w3)
    (∃ x1 : Int, w3.cell? ⟨g1, 0, none⟩ = some (.int .i64 x1) ∧
    Br (decide ((255 : Int) < x1))
      (R (.returned (.tuple #[.slice none 0 0, .int .i64 65])) w3)
      (∃ (xA : Option Addr) (xn xc : Nat), w3.cell? ⟨g1, 1, none⟩ = some (.slice xA xn xc) ∧
      Br (decide ((38 : Int) < (xn : Int)))
        (R (.returned (.tuple #[.slice none 0 0, .int .i64 65])) w3)
        (∃ (xA1 : Option Addr) (xn1 xc1 : Nat), w3.cell? ⟨g1, 1, none⟩ = some (.slice xA1 xn1 xc1) ∧
        Br (decide ((40 : Int) < IntKind.i64.wrap (IntKind.i64.wrap ((outn : Int) + 2) + (xn1 : Int))))
    (R (.returned (.tuple #[.slice none 0 0, .int .i64 65])) w3)
    (∃ x2 : Int, w3.cell? ⟨g1, 0, none⟩ = some (.int .i64 x2) ∧
  ∃ (xA2 : Option Addr) (xn2 xc2 : Nat), w3.cell? ⟨g1, 1, none⟩ = some (.slice xA2 xn2 xc2) ∧
  NewVC w3 (.cells #[.int .u8 (IntKind.u8.wrap x2), .int .u8 (IntKind.u8.wrap (IntKind.i64.wrap (2 + (xn2 : Int))))] 5) fun g2 w4 =>
  AppVC Tryz.prog #[26, 26] 26 (.slice outA outn outc) (.slice (some ⟨g2, 0, none⟩) 2 2) w4 fun lA1 ln1 lc1 w5 =>
  ∃ (xA3 : Option Addr) (xn3 xc3 : Nat), w5.cell? ⟨g1, 1, none⟩ = some (.slice xA3 xn3 xc3) ∧
  AppVC Tryz.prog #[26, 26] 26 (.slice lA1 ln1 lc1) (.slice xA3 xn3 xc3) w5 fun lA2 ln2 lc2 w6 =>
  K58 ((lA2, ln2, lc2), IntKind.i64.wrap (t9_ + 1)) w6)))))
    (LoopVC (S := (Option Addr × Nat × Nat)) (fun s_ w7 K60 => ip4_PutOptions_L60 R s_.1 s_.2.1 s_.2.2 w7 K60) (outA, outn, outc) w1)
set_option maxRecDepth 100000 in
def ip4_PutOptions_VC (lA : Option Addr) (ln : Nat) (_lc : Nat) (w : World) (R : Ending → World → Prop) : Prop :=
  LoopVC (S := (Option Addr × Nat × Nat) × Int) (fun s_ w1 K58 => ip4_PutOptions_L58 R lA ln s_.1.1 s_.1.2.1 s_.1.2.2 s_.2 w1 K58) ((none, 0, 0), 0) w
def ip4_PutOptions_H : Hints := [(58, [(4, .slice), (9, .int .i64)]), (60, [(4, .slice)])]
set_option maxRecDepth 100000 in
theorem ip4_PutOptions_of (lA : Option Addr) (ln : Nat) (lc : Nat) (w : World) (R : Ending → World → Prop) (hvc_ : ip4_PutOptions_VC lA ln lc w R) :
    Calls Tryz.prog 74 #[.slice lA ln lc] w R :=
  calls_of_wpc callOk mixedOk (H := ip4_PutOptions_H) (args := [.slice lA ln lc]) (fn := Tryz.f74) (c := bodyOf Tryz.f74) Tryz.func74 rfl (Nat.le_of_ble_eq_true rfl)
    (Eq.mp (by kernel_rfl : ip4_PutOptions_VC lA ln lc w R = wpc Tryz.prog callF Tryz.f74.ntmps ip4_PutOptions_H 1 (bodyOf Tryz.f74) (argEnv 0 [.slice lA ln lc]) [] w (finish Tryz.prog callF Tryz.f74.results.toList R)) hvc_)

set_option maxRecDepth 100000 in
def ip4_Check_VC (h : Ip4V) (w : World) (R : Ending → World → Prop) : Prop :=
  NewVC w (.cells h.cells.toArray 28) fun g1 w1 =>
  ∃ x : Int, w1.cell? ⟨g1, 0, none⟩ = some (.int .i64 x) ∧
  Calls Tryz.prog 72 #[.int .i64 x, .int .i64 255] w1 (onRet (fun r_ w2 => ∃ x1 : Bool, r_ = .bool x1 ∧
  Br x1
    (R (.returned (.int .i64 68)) w2)
    (∃ x2 : Int, w2.cell? ⟨g1, 1, none⟩ = some (.int .i64 x2) ∧
    Calls Tryz.prog 72 #[.int .i64 x2, .int .i64 65535] w2 (onRet (fun r_1 w3 => ∃ x3 : Bool, r_1 = .bool x3 ∧
    Br x3
      (R (.returned (.int .i64 68)) w3)
      (∃ x4 : Int, w3.cell? ⟨g1, 4, none⟩ = some (.int .i64 x4) ∧
      Calls Tryz.prog 72 #[.int .i64 x4, .int .i64 65528] w3 (onRet (fun r_2 w4 => ∃ x5 : Bool, r_2 = .bool x5 ∧
      Br x5
        (R (.returned (.int .i64 68)) w4)
        (∃ x6 : Int, w4.cell? ⟨g1, 4, none⟩ = some (.int .i64 x6) ∧
        Br (decide (Int.tmod x6 8 ≠ 0))
          (R (.returned (.int .i64 68)) w4)
          (∃ x7 : Int, w4.cell? ⟨g1, 5, none⟩ = some (.int .i64 x7) ∧
          Calls Tryz.prog 72 #[.int .i64 x7, .int .i64 255] w4 (onRet (fun r_3 w5 => ∃ x8 : Bool, r_3 = .bool x8 ∧
          Br x8
            (R (.returned (.int .i64 68)) w5)
            (∃ x9 : Int, w5.cell? ⟨g1, 6, none⟩ = some (.int .i64 x9) ∧
            Calls Tryz.prog 72 #[.int .i64 x9, .int .i64 255] w5 (onRet (fun r_4 w6 => ∃ x10 : Bool, r_4 = .bool x10 ∧
            Br x10
              (R (.returned (.int .i64 68)) w6)
              (IPV.ex fun h1 => CellsAt w6 ⟨g1, 7, none⟩ 0 h1.cells ∧
              Calls Tryz.prog 73 #[h1.val] w6 (onRet (fun r_5 w7 => ∃ x11 : Bool, r_5 = .bool x11 ∧
              Br (!x11)
                (R (.returned (.int .i64 68)) w7)
                (IPV.ex fun h2 => CellsAt w7 ⟨g1, 24, none⟩ 0 h2.cells ∧
                Calls Tryz.prog 73 #[h2.val] w7 (onRet (fun r_6 w8 => ∃ x12 : Bool, r_6 = .bool x12 ∧
                Br (!x12)
    (R (.returned (.int .i64 68)) w8)
    (∃ (xA : Option Addr) (xn xc : Nat), w8.cell? ⟨g1, 41, none⟩ = some (.slice xA xn xc) ∧
  Calls Tryz.prog 74 #[.slice xA xn xc] w8 (onRet (fun r_7 w9 => ∃ (x0A : Option Addr) (x0n x0c : Nat), ∃ x13 : Int, r_7 = .tuple #[.slice x0A x0n x0c, .int .i64 x13] ∧
  Br (decide (x13 ≠ 0))
    (R (.returned (.int .i64 x13)) w9)
    (∃ (xA1 : Option Addr) (xn1 xc1 : Nat), w9.cell? ⟨g1, 42, none⟩ = some (.slice xA1 xn1 xc1) ∧
  Br (decide ((65535 : Int) < IntKind.i64.wrap (IntKind.i64.wrap (20 + (x0n : Int)) + (xn1 : Int))))
    (R (.returned (.int .i64 63)) w9)
    (∃ x14 : Bool, w9.cell? ⟨g1, 3, none⟩ = some (.bool x14) ∧
  ∃ x15 : Int, w9.cell? ⟨g1, 4, none⟩ = some (.int .i64 x15) ∧
  ∃ (xA2 : Option Addr) (xn2 xc2 : Nat), w9.cell? ⟨g1, 42, none⟩ = some (.slice xA2 xn2 xc2) ∧
  Calls Tryz.prog 75 #[.bool x14, .int .i64 x15, .int .i64 (xn2 : Int)] w9 (onRet (fun r_8 w10 => ∃ x16 : Int, r_8 = .int .i64 x16 ∧
  R (.returned (.int .i64 x16)) w10)
    (fun ch8 w10 => R (.panicked ch8) w10)))))
    (fun ch7 w9 => R (.panicked ch7) w9))))
                  (fun ch6 w8 => R (.panicked ch6) w8))))
                (fun ch5 w7 => R (.panicked ch5) w7))))
              (fun ch4 w6 => R (.panicked ch4) w6))))
            (fun ch3 w5 => R (.panicked ch3) w5)))))
        (fun ch2 w4 => R (.panicked ch2) w4))))
      (fun ch1 w3 => R (.panicked ch1) w3))))
    (fun ch w2 => R (.panicked ch) w2))
def ip4_Check_H : Hints := []
set_option maxRecDepth 100000 in
theorem ip4_Check_of (h : Ip4V) (w : World) (R : Ending → World → Prop) (hvc_ : ip4_Check_VC h w R) :
    Calls Tryz.prog 32 #[h.val] w R :=
  calls_of_wpc callOk mixedOk (H := ip4_Check_H) (args := [h.val]) (fn := Tryz.f32) (c := bodyOf Tryz.f32) Tryz.func32 rfl (Nat.le_of_ble_eq_true rfl)
    (Eq.mp (by kernel_rfl : ip4_Check_VC h w R = wpc Tryz.prog callF Tryz.f32.ntmps ip4_Check_H 1 (bodyOf Tryz.f32) (argEnv 0 [h.val]) [] w (finish Tryz.prog callF Tryz.f32.results.toList R)) hvc_)

set_option maxRecDepth 100000 in
def weirref6_out_VC (n : Int) (hi : Int) (w : World) (R : Ending → World → Prop) : Prop :=
  Br (decide (n < 0))
    (R (.returned (.bool true)) w)
    (R (.returned (.bool (decide (hi < n)))) w)
def weirref6_out_H : Hints := []
set_option maxRecDepth 100000 in
theorem weirref6_out_of (n : Int) (hi : Int) (w : World) (R : Ending → World → Prop) (hvc_ : weirref6_out_VC n hi w R) :
    Calls Tryz.prog 59 #[.int .i64 n, .int .i64 hi] w R :=
  calls_of_wpc callOk mixedOk (H := weirref6_out_H) (args := [.int .i64 n, .int .i64 hi]) (fn := Tryz.f59) (c := bodyOf Tryz.f59) Tryz.func59 rfl (Nat.le_of_ble_eq_true rfl)
    (Eq.mp (by kernel_rfl : weirref6_out_VC n hi w R = wpc Tryz.prog callF Tryz.f59.ntmps weirref6_out_H 1 (bodyOf Tryz.f59) (argEnv 0 [.int .i64 n, .int .i64 hi]) [] w (finish Tryz.prog callF Tryz.f59.results.toList R)) hvc_)

set_option maxRecDepth 100000 in
def weirref6_four_L26 (R : Ending → World → Prop) (g1 : Nat) (i : Int) (w2 : World) (K26 : (Int → World → Prop)) : Prop :=
  Br (decide (i < 16))
    (IdxVC (some ⟨g1, 1, none⟩) 16 1 i fun a =>
  ∃ x : Int, w2.cell? a = some (.int .u8 x) ∧
  Br (decide (x ≠ 0))
    (R (.returned (.bool false)) w2)
    (K26 (IntKind.i64.wrap (i + 1)) w2))
    (∃ x1 : Int, w2.cell? ⟨g1, 0, none⟩ = some (.int .i64 x1) ∧
  R (.returned (.bool (decide (x1 = 4)))) w2)
set_option maxRecDepth 100000 in
def weirref6_four_VC (ip : IPV) (w : World) (R : Ending → World → Prop) : Prop :=
  NewVC w (.cells ip.cells.toArray 24) fun g1 w1 =>
  LoopVC (S := Int) (fun s_ w2 K26 => weirref6_four_L26 R g1 s_ w2 K26) 4 w1
def weirref6_four_H : Hints := [(26, [(3, .int .i64)])]
set_option maxRecDepth 100000 in
theorem weirref6_four_of (ip : IPV) (w : World) (R : Ending → World → Prop) (hvc_ : weirref6_four_VC ip w R) :
    Calls Tryz.prog 60 #[ip.val] w R :=
  calls_of_wpc callOk mixedOk (H := weirref6_four_H) (args := [ip.val]) (fn := Tryz.f60) (c := bodyOf Tryz.f60) Tryz.func60 rfl (Nat.le_of_ble_eq_true rfl)
    (Eq.mp (by kernel_rfl : weirref6_four_VC ip w R = wpc Tryz.prog callF Tryz.f60.ntmps weirref6_four_H 1 (bodyOf Tryz.f60) (argEnv 0 [ip.val]) [] w (finish Tryz.prog callF Tryz.f60.results.toList R)) hvc_)

set_option maxRecDepth 100000 in
def weirref6_frag_VC (mf : Bool) (off : Int) (n : Int) (w : World) (R : Ending → World → Prop) : Prop :=
  Br mf
    (Br (decide (n = 0))
      (R (.returned (.bool true)) w)
      (Br (decide (Int.tmod n 8 ≠ 0))
        (R (.returned (.bool true)) w)
        (R (.returned (.bool (decide ((65515 : Int) < IntKind.i64.wrap (off + n))))) w)))
    (R (.returned (.bool (decide ((65515 : Int) < IntKind.i64.wrap (off + n))))) w)
def weirref6_frag_H : Hints := []
set_option maxRecDepth 100000 in
theorem weirref6_frag_of (mf : Bool) (off : Int) (n : Int) (w : World) (R : Ending → World → Prop) (hvc_ : weirref6_frag_VC mf off n w R) :
    Calls Tryz.prog 62 #[.bool mf, .int .i64 off, .int .i64 n] w R :=
  calls_of_wpc callOk mixedOk (H := weirref6_frag_H) (args := [.bool mf, .int .i64 off, .int .i64 n]) (fn := Tryz.f62) (c := bodyOf Tryz.f62) Tryz.func62 rfl (Nat.le_of_ble_eq_true rfl)
    (Eq.mp (by kernel_rfl : weirref6_frag_VC mf off n w R = wpc Tryz.prog callF Tryz.f62.ntmps weirref6_frag_H 1 (bodyOf Tryz.f62) (argEnv 0 [.bool mf, .int .i64 off, .int .i64 n]) [] w (finish Tryz.prog callF Tryz.f62.results.toList R)) hvc_)

set_option maxRecDepth 100000 in
def weirref6_PutOptions_L60 (R : Ending → World → Prop)  (bA1 : Option Addr) (bn1 : Nat) (bc1 : Nat) (w5 : World) (K60 : ((Option Addr × Nat × Nat) → World → Prop)) : Prop :=
  Br (decide (Int.tmod (bn1 : Int) 4 ≠ 0))
    (NewVC w5 (.cells #[.int .u8 0] 5) fun g2 w6 =>
  AppVC Tryz.prog #[26, 26] 26 (.slice bA1 bn1 bc1) (.slice (some ⟨g2, 0, none⟩) 1 1) w6 fun lA3 ln3 lc3 w7 =>
  K60 (lA3, ln3, lc3) w7)
    (Br (decide ((40 : Int) < (bn1 : Int)))
    (R (.returned (.tuple #[.slice none 0 0, .int .i64 65])) w5)
    (R (.returned (.tuple #[.slice bA1 bn1 bc1, .int .i64 0])) w5))
set_option maxRecDepth 100000 in
def weirref6_PutOptions_L58 (R : Ending → World → Prop) (lA : Option Addr) (ln : Nat) (bA : Option Addr) (bn : Nat) (bc : Nat) (i : Int) (w1 : World) (K58 : ((Option Addr × Nat × Nat) × Int → World → Prop)) : Prop :=
  Br (decide (i < (ln : Int)))
    (IdxVC lA ln 2 i fun a =>
  ∃ (xA : Option Addr) (xn xc : Nat), w1.cell? (a.add 1) = some (.slice xA xn xc) ∧
  IdxVC lA ln 2 i fun a1 =>
  ∃ x : Int, w1.cell? a1 = some (.int .i64 x) ∧
  Br (decide (x < 2))
    (R (.returned (.tuple #[.slice none 0 0, .int .i64 65])) w1)
    (IdxVC lA ln 2 i fun a2 =>
    ∃ x1 : Int, w1.cell? a2 = some (.int .i64 x1) ∧
    Br (decide ((255 : Int) < x1))
      (R (.returned (.tuple #[.slice none 0 0, .int .i64 65])) w1)
      (Br (decide ((38 : Int) < (xn : Int)))
    (R (.returned (.tuple #[.slice none 0 0, .int .i64 65])) w1)
    (IdxVC lA ln 2 i fun a3 =>
  ∃ x2 : Int, w1.cell? a3 = some (.int .i64 x2) ∧
  NewVC w1 (.cells #[.int .u8 (IntKind.u8.wrap x2), .int .u8 (IntKind.u8.wrap (IntKind.i64.wrap ((xn : Int) + 2)))] 5) fun g1 w2 =>
  AppVC Tryz.prog #[26, 26] 26 (.slice bA bn bc) (.slice (some ⟨g1, 0, none⟩) 2 2) w2 fun lA1 ln1 lc1 w3 =>
  IdxVC lA ln 2 i fun a4 =>
  ∃ (xA1 : Option Addr) (xn1 xc1 : Nat), w3.cell? (a4.add 1) = some (.slice xA1 xn1 xc1) ∧
  AppVC Tryz.prog #[26, 26] 26 (.slice lA1 ln1 lc1) (.slice xA1 xn1 xc1) w3 fun lA2 ln2 lc2 w4 =>
  K58 ((lA2, ln2, lc2), IntKind.i64.wrap (i + 1)) w4))))
    (LoopVC (S := (Option Addr × Nat × Nat)) (fun s_ w5 K60 => weirref6_PutOptions_L60 R s_.1 s_.2.1 s_.2.2 w5 K60) (bA, bn, bc) w1)
set_option maxRecDepth 100000 in
def weirref6_PutOptions_VC (lA : Option Addr) (ln : Nat) (_lc : Nat) (w : World) (R : Ending → World → Prop) : Prop :=
  LoopVC (S := (Option Addr × Nat × Nat) × Int) (fun s_ w1 K58 => weirref6_PutOptions_L58 R lA ln s_.1.1 s_.1.2.1 s_.1.2.2 s_.2 w1 K58) ((none, 0, 0), 0) w
def weirref6_PutOptions_H : Hints := [(58, [(4, .slice), (5, .int .i64)]), (60, [(4, .slice)])]
set_option maxRecDepth 100000 in
theorem weirref6_PutOptions_of (lA : Option Addr) (ln : Nat) (lc : Nat) (w : World) (R : Ending → World → Prop) (hvc_ : weirref6_PutOptions_VC lA ln lc w R) :
    Calls Tryz.prog 61 #[.slice lA ln lc] w R :=
  calls_of_wpc callOk mixedOk (H := weirref6_PutOptions_H) (args := [.slice lA ln lc]) (fn := Tryz.f61) (c := bodyOf Tryz.f61) Tryz.func61 rfl (Nat.le_of_ble_eq_true rfl)
    (Eq.mp (by kernel_rfl : weirref6_PutOptions_VC lA ln lc w R = wpc Tryz.prog callF Tryz.f61.ntmps weirref6_PutOptions_H 1 (bodyOf Tryz.f61) (argEnv 0 [.slice lA ln lc]) [] w (finish Tryz.prog callF Tryz.f61.results.toList R)) hvc_)

set_option maxRecDepth 100000 in
def weirref6_Check_VC (h : Ip4V) (w : World) (R : Ending → World → Prop) : Prop :=
  NewVC w (.cells h.cells.toArray 28) fun g1 w1 =>
  ∃ x : Int, w1.cell? ⟨g1, 0, none⟩ = some (.int .i64 x) ∧
  Calls Tryz.prog 59 #[.int .i64 x, .int .i64 255] w1 (onRet (fun r_ w2 => ∃ x1 : Bool, r_ = .bool x1 ∧
  Br x1
    (R (.returned (.int .i64 68)) w2)
    (∃ x2 : Int, w2.cell? ⟨g1, 1, none⟩ = some (.int .i64 x2) ∧
    Calls Tryz.prog 59 #[.int .i64 x2, .int .i64 65535] w2 (onRet (fun r_1 w3 => ∃ x3 : Bool, r_1 = .bool x3 ∧
    Br x3
      (R (.returned (.int .i64 68)) w3)
      (∃ x4 : Int, w3.cell? ⟨g1, 4, none⟩ = some (.int .i64 x4) ∧
      Calls Tryz.prog 59 #[.int .i64 x4, .int .i64 65528] w3 (onRet (fun r_2 w4 => ∃ x5 : Bool, r_2 = .bool x5 ∧
      Br x5
        (R (.returned (.int .i64 68)) w4)
        (∃ x6 : Int, w4.cell? ⟨g1, 4, none⟩ = some (.int .i64 x6) ∧
        Br (decide (Int.tmod x6 8 ≠ 0))
          (R (.returned (.int .i64 68)) w4)
          (∃ x7 : Int, w4.cell? ⟨g1, 5, none⟩ = some (.int .i64 x7) ∧
          Calls Tryz.prog 59 #[.int .i64 x7, .int .i64 255] w4 (onRet (fun r_3 w5 => ∃ x8 : Bool, r_3 = .bool x8 ∧
          Br x8
            (R (.returned (.int .i64 68)) w5)
            (∃ x9 : Int, w5.cell? ⟨g1, 6, none⟩ = some (.int .i64 x9) ∧
            Calls Tryz.prog 59 #[.int .i64 x9, .int .i64 255] w5 (onRet (fun r_4 w6 => ∃ x10 : Bool, r_4 = .bool x10 ∧
            Br x10
              (R (.returned (.int .i64 68)) w6)
              (IPV.ex fun h1 => CellsAt w6 ⟨g1, 7, none⟩ 0 h1.cells ∧
              Calls Tryz.prog 60 #[h1.val] w6 (onRet (fun r_5 w7 => ∃ x11 : Bool, r_5 = .bool x11 ∧
              Br (!x11)
                (R (.returned (.int .i64 68)) w7)
                (IPV.ex fun h2 => CellsAt w7 ⟨g1, 24, none⟩ 0 h2.cells ∧
                Calls Tryz.prog 60 #[h2.val] w7 (onRet (fun r_6 w8 => ∃ x12 : Bool, r_6 = .bool x12 ∧
                Br (!x12)
    (R (.returned (.int .i64 68)) w8)
    (∃ (xA : Option Addr) (xn xc : Nat), w8.cell? ⟨g1, 41, none⟩ = some (.slice xA xn xc) ∧
  Calls Tryz.prog 61 #[.slice xA xn xc] w8 (onRet (fun r_7 w9 => ∃ (x0A : Option Addr) (x0n x0c : Nat), ∃ x13 : Int, r_7 = .tuple #[.slice x0A x0n x0c, .int .i64 x13] ∧
  Br (decide (x13 ≠ 0))
    (R (.returned (.int .i64 x13)) w9)
    (∃ (xA1 : Option Addr) (xn1 xc1 : Nat), w9.cell? ⟨g1, 42, none⟩ = some (.slice xA1 xn1 xc1) ∧
  Br (decide ((65535 : Int) < IntKind.i64.wrap (IntKind.i64.wrap (20 + (x0n : Int)) + (xn1 : Int))))
    (R (.returned (.int .i64 63)) w9)
    (∃ x14 : Bool, w9.cell? ⟨g1, 3, none⟩ = some (.bool x14) ∧
  ∃ x15 : Int, w9.cell? ⟨g1, 4, none⟩ = some (.int .i64 x15) ∧
  ∃ (xA2 : Option Addr) (xn2 xc2 : Nat), w9.cell? ⟨g1, 42, none⟩ = some (.slice xA2 xn2 xc2) ∧
  Calls Tryz.prog 62 #[.bool x14, .int .i64 x15, .int .i64 (xn2 : Int)] w9 (onRet (fun r_8 w10 => ∃ x16 : Bool, r_8 = .bool x16 ∧
  Br x16
    (R (.returned (.int .i64 66)) w10)
    (R (.returned (.int .i64 0)) w10))
    (fun ch8 w10 => R (.panicked ch8) w10)))))
    (fun ch7 w9 => R (.panicked ch7) w9))))
                  (fun ch6 w8 => R (.panicked ch6) w8))))
                (fun ch5 w7 => R (.panicked ch5) w7))))
              (fun ch4 w6 => R (.panicked ch4) w6))))
            (fun ch3 w5 => R (.panicked ch3) w5)))))
        (fun ch2 w4 => R (.panicked ch2) w4))))
      (fun ch1 w3 => R (.panicked ch1) w3))))
    (fun ch w2 => R (.panicked ch) w2))
def weirref6_Check_H : Hints := []
set_option maxRecDepth 100000 in
theorem weirref6_Check_of (h : Ip4V) (w : World) (R : Ending → World → Prop) (hvc_ : weirref6_Check_VC h w R) :
    Calls Tryz.prog 22 #[h.val] w R :=
  calls_of_wpc callOk mixedOk (H := weirref6_Check_H) (args := [h.val]) (fn := Tryz.f22) (c := bodyOf Tryz.f22) Tryz.func22 rfl (Nat.le_of_ble_eq_true rfl)
    (Eq.mp (by kernel_rfl : weirref6_Check_VC h w R = wpc Tryz.prog callF Tryz.f22.ntmps weirref6_Check_H 1 (bodyOf Tryz.f22) (argEnv 0 [h.val]) [] w (finish Tryz.prog callF Tryz.f22.results.toList R)) hvc_)

set_option maxRecDepth 100000 in
def weirref6_add_VC (bA : Option Addr) (bn : Nat) (bc : Nat) (n : Int) (w : World) (R : Ending → World → Prop) : Prop :=
  NewVC w (.cells #[.int .u8 (IntKind.u8.wrap (IntKind.i64.wrap (Int.tdiv n 256))), .int .u8 (IntKind.u8.wrap (Int.tmod n 256))] 5) fun g1 w1 =>
  AppVC Tryz.prog #[26, 26] 26 (.slice bA bn bc) (.slice (some ⟨g1, 0, none⟩) 2 2) w1 fun lA ln lc w2 =>
  R (.returned (.slice lA ln lc)) w2
def weirref6_add_H : Hints := []
set_option maxRecDepth 100000 in
theorem weirref6_add_of (bA : Option Addr) (bn : Nat) (bc : Nat) (n : Int) (w : World) (R : Ending → World → Prop) (hvc_ : weirref6_add_VC bA bn bc n w R) :
    Calls Tryz.prog 82 #[.slice bA bn bc, .int .i64 n] w R :=
  calls_of_wpc callOk mixedOk (H := weirref6_add_H) (args := [.slice bA bn bc, .int .i64 n]) (fn := Tryz.f82) (c := bodyOf Tryz.f82) Tryz.func82 rfl (Nat.le_of_ble_eq_true rfl)
    (Eq.mp (by kernel_rfl : weirref6_add_VC bA bn bc n w R = wpc Tryz.prog callF Tryz.f82.ntmps weirref6_add_H 1 (bodyOf Tryz.f82) (argEnv 0 [.slice bA bn bc, .int .i64 n]) [] w (finish Tryz.prog callF Tryz.f82.results.toList R)) hvc_)

set_option maxRecDepth 100000 in
def weirref6_Serialise_L524282 (R : Ending → World → Prop) (g1 : Nat) (x0A : Option Addr) (x0n : Nat) (x0c : Nat) (lA : Option Addr) (ln : Nat) (lc : Nat) (tailA1 : Option Addr) (tailn1 : Nat) (tailc1 : Nat) (i1 : Int) (w15 : World) (K524282 : ((Option Addr × Nat × Nat) × Int → World → Prop)) : Prop :=
  Br (decide (i1 < 4))
    (IdxVC (some ⟨g1, 25, none⟩) 16 1 i1 fun a1 =>
  ∃ x10 : Int, w15.cell? a1 = some (.int .u8 x10) ∧
  NewVC w15 (.cells #[.int .u8 x10] 5) fun g5 w16 =>
  AppVC Tryz.prog #[26, 26] 26 (.slice tailA1 tailn1 tailc1) (.slice (some ⟨g5, 0, none⟩) 1 1) w16 fun lA2 ln2 lc2 w17 =>
  K524282 ((lA2, ln2, lc2), IntKind.i64.wrap (i1 + 1)) w17)
    (AppVC Tryz.prog #[26, 26] 26 (.slice tailA1 tailn1 tailc1) (.slice x0A x0n x0c) w15 fun lA3 ln3 lc3 w18 =>
  NewVC w18 (.cells #[.slice lA ln lc, .slice lA3 ln3 lc3] 26) fun g6 w19 =>
  Calls Tryz.prog 83 #[.slice (some ⟨g6, 0, none⟩) 2 2] w19 (onRet (fun r_5 w20 => ∃ x11 : Int, r_5 = .int .i64 x11 ∧
  Calls Tryz.prog 82 #[.slice lA ln lc, .int .i64 x11] w20 (onRet (fun r_6 w21 => ∃ (xA5 : Option Addr) (xn5 xc5 : Nat), r_6 = .slice xA5 xn5 xc5 ∧
  AppVC Tryz.prog #[26, 26] 26 (.slice xA5 xn5 xc5) (.slice lA3 ln3 lc3) w21 fun lA4 ln4 lc4 w22 =>
  ∃ (xA6 : Option Addr) (xn6 xc6 : Nat), w22.cell? ⟨g1, 42, none⟩ = some (.slice xA6 xn6 xc6) ∧
  AppVC Tryz.prog #[26, 26] 26 (.slice lA4 ln4 lc4) (.slice xA6 xn6 xc6) w22 fun lA5 ln5 lc5 w23 =>
  R (.returned (.tuple #[.slice lA5 ln5 lc5, .int .i64 0])) w23)
    (fun ch6 w21 => R (.panicked ch6) w21)))
    (fun ch5 w20 => R (.panicked ch5) w20)))
set_option maxRecDepth 100000 in
def weirref6_Serialise_L262138 (R : Ending → World → Prop) (g1 : Nat) (x0A : Option Addr) (x0n : Nat) (x0c : Nat) (lA : Option Addr) (ln : Nat) (lc : Nat) (tailA : Option Addr) (tailn : Nat) (tailc : Nat) (i : Int) (w12 : World) (K262138 : ((Option Addr × Nat × Nat) × Int → World → Prop)) : Prop :=
  Br (decide (i < 4))
    (IdxVC (some ⟨g1, 8, none⟩) 16 1 i fun a =>
  ∃ x9 : Int, w12.cell? a = some (.int .u8 x9) ∧
  NewVC w12 (.cells #[.int .u8 x9] 5) fun g4 w13 =>
  AppVC Tryz.prog #[26, 26] 26 (.slice tailA tailn tailc) (.slice (some ⟨g4, 0, none⟩) 1 1) w13 fun lA1 ln1 lc1 w14 =>
  K262138 ((lA1, ln1, lc1), IntKind.i64.wrap (i + 1)) w14)
    (LoopVC (S := (Option Addr × Nat × Nat) × Int) (fun s_ w15 K524282 => weirref6_Serialise_L524282 R g1 x0A x0n x0c lA ln lc s_.1.1 s_.1.2.1 s_.1.2.2 s_.2 w15 K524282) ((tailA, tailn, tailc), 0) w12)
set_option maxRecDepth 100000 in
def weirref6_Serialise_J255 (R : Ending → World → Prop) (g1 : Nat) (x0A : Option Addr) (x0n : Nat) (x0c : Nat) (word1 : Int) (w5 : World) : Prop :=
  ∃ x5 : Int, w5.cell? ⟨g1, 0, none⟩ = some (.int .i64 x5) ∧
  NewVC w5 (.cells #[.int .u8 (IntKind.u8.wrap (IntKind.i64.wrap (64 + IntKind.i64.wrap (Int.tdiv (IntKind.i64.wrap (20 + (x0n : Int))) 4)))), .int .u8 (IntKind.u8.wrap x5)] 5) fun g2 w6 =>
  ∃ (xA1 : Option Addr) (xn1 xc1 : Nat), w6.cell? ⟨g1, 42, none⟩ = some (.slice xA1 xn1 xc1) ∧
  Calls Tryz.prog 82 #[.slice (some ⟨g2, 0, none⟩) 2 2, .int .i64 (IntKind.i64.wrap (IntKind.i64.wrap (20 + (x0n : Int)) + (xn1 : Int)))] w6 (onRet (fun r_2 w7 => ∃ (xA2 : Option Addr) (xn2 xc2 : Nat), r_2 = .slice xA2 xn2 xc2 ∧
  ∃ x6 : Int, w7.cell? ⟨g1, 1, none⟩ = some (.int .i64 x6) ∧
  Calls Tryz.prog 82 #[.slice xA2 xn2 xc2, .int .i64 x6] w7 (onRet (fun r_3 w8 => ∃ (xA3 : Option Addr) (xn3 xc3 : Nat), r_3 = .slice xA3 xn3 xc3 ∧
  Calls Tryz.prog 82 #[.slice xA3 xn3 xc3, .int .i64 word1] w8 (onRet (fun r_4 w9 => ∃ (xA4 : Option Addr) (xn4 xc4 : Nat), r_4 = .slice xA4 xn4 xc4 ∧
  ∃ x7 : Int, w9.cell? ⟨g1, 5, none⟩ = some (.int .i64 x7) ∧
  ∃ x8 : Int, w9.cell? ⟨g1, 6, none⟩ = some (.int .i64 x8) ∧
  NewVC w9 (.cells #[.int .u8 (IntKind.u8.wrap x7), .int .u8 (IntKind.u8.wrap x8)] 5) fun g3 w10 =>
  AppVC Tryz.prog #[26, 26] 26 (.slice xA4 xn4 xc4) (.slice (some ⟨g3, 0, none⟩) 2 2) w10 fun lA ln lc w11 =>
  LoopVC (S := (Option Addr × Nat × Nat) × Int) (fun s_ w12 K262138 => weirref6_Serialise_L262138 R g1 x0A x0n x0c lA ln lc s_.1.1 s_.1.2.1 s_.1.2.2 s_.2 w12 K262138) ((none, 0, 0), 0) w11)
    (fun ch4 w9 => R (.panicked ch4) w9)))
    (fun ch3 w8 => R (.panicked ch3) w8)))
    (fun ch2 w7 => R (.panicked ch2) w7))
set_option maxRecDepth 100000 in
def weirref6_Serialise_J127 (R : Ending → World → Prop) (g1 : Nat) (x0A : Option Addr) (x0n : Nat) (x0c : Nat) (word : Int) (w4 : World) : Prop :=
  JoinVC (S := Int) (fun J255 =>
      ∃ x4 : Bool, w4.cell? ⟨g1, 3, none⟩ = some (.bool x4) ∧
      Br x4
        (J255 (IntKind.i64.wrap (word + 8192)) w4)
        (J255 word w4))
    (fun s_ w5 => weirref6_Serialise_J255 R g1 x0A x0n x0c s_ w5)
set_option maxRecDepth 100000 in
def weirref6_Serialise_VC (h : Ip4V) (w : World) (R : Ending → World → Prop) : Prop :=
  NewVC w (.cells h.cells.toArray 28) fun g1 w1 =>
  Ip4V.ex fun h1 => CellsAt w1 ⟨g1, 0, none⟩ 0 h1.cells ∧
  Calls Tryz.prog 22 #[h1.val] w1 (onRet (fun r_ w2 => ∃ x : Int, r_ = .int .i64 x ∧
  Br (decide (x ≠ 0))
    (R (.returned (.tuple #[.slice none 0 0, .int .i64 x])) w2)
    (∃ (xA : Option Addr) (xn xc : Nat), w2.cell? ⟨g1, 41, none⟩ = some (.slice xA xn xc) ∧
  Calls Tryz.prog 61 #[.slice xA xn xc] w2 (onRet (fun r_1 w3 => ∃ (x0A : Option Addr) (x0n x0c : Nat), ∃ x1 : Int, r_1 = .tuple #[.slice x0A x0n x0c, .int .i64 x1] ∧
  ∃ x2 : Int, w3.cell? ⟨g1, 4, none⟩ = some (.int .i64 x2) ∧
  JoinVC (S := Int) (fun J127 =>
      ∃ x3 : Bool, w3.cell? ⟨g1, 2, none⟩ = some (.bool x3) ∧
      Br x3
        (J127 (IntKind.i64.wrap (IntKind.i64.wrap (Int.tdiv x2 8) + 16384)) w3)
        (J127 (IntKind.i64.wrap (Int.tdiv x2 8)) w3))
    (fun s_ w4 => weirref6_Serialise_J127 R g1 x0A x0n x0c s_ w4))
    (fun ch1 w3 => R (.panicked ch1) w3))))
    (fun ch w2 => R (.panicked ch) w2))
def weirref6_Serialise_H : Hints := [(127, [(8, .int .i64)]), (255, [(8, .int .i64)]), (262138, [(10, .slice), (11, .int .i64)]), (524282, [(10, .slice), (12, .int .i64)])]
set_option maxRecDepth 100000 in
theorem weirref6_Serialise_of (h : Ip4V) (w : World) (R : Ending → World → Prop) (hvc_ : weirref6_Serialise_VC h w R) :
    Calls Tryz.prog 63 #[h.val] w R :=
  calls_of_wpc callOk mixedOk (H := weirref6_Serialise_H) (args := [h.val]) (fn := Tryz.f63) (c := bodyOf Tryz.f63) Tryz.func63 rfl (Nat.le_of_ble_eq_true rfl)
    (Eq.mp (by kernel_rfl : weirref6_Serialise_VC h w R = wpc Tryz.prog callF Tryz.f63.ntmps weirref6_Serialise_H 1 (bodyOf Tryz.f63) (argEnv 0 [h.val]) [] w (finish Tryz.prog callF Tryz.f63.results.toList R)) hvc_)
end N6
end Go.Proofs.YteppichfkeknbaaGreatDoor
/- Chapter 6, writing: options and small functions, both programs. -/
namespace Go.Proofs.YteppichfkeknbaaGreatDoor
namespace N6
open Go.Eng Go.RowKit
section
variable {w : World} {Γ : List Fct}
theorem out4_spec {k hi : Int} : Calls Tryz.prog 72 #[.int .i64 k, .int .i64 hi] w fun e w' => w = w' ∧ e = .returned (.bool (decide (k < 0 ∨ hi < k))) := by
  refine ip4_out_of k hi w _ ?_
  unfold ip4_out_VC
  refine Br.dec (fun h => ⟨rfl, by rw [decide_eq_true (.inl h)]⟩) fun h => ⟨rfl, ?_⟩
  by_cases h2 : hi < k
  · rw [decide_eq_true h2, decide_eq_true (.inr h2)]
  · rw [decide_eq_false h2, decide_eq_false (by omega)]
theorem refOut4_spec {k hi : Int} : Calls Tryz.prog 59 #[.int .i64 k, .int .i64 hi] w fun e w' => w = w' ∧ e = .returned (.bool (decide (k < 0 ∨ hi < k))) := by
  refine weirref6_out_of k hi w _ ?_
  unfold weirref6_out_VC
  refine Br.dec (fun h => ⟨rfl, by rw [decide_eq_true (.inl h)]⟩) fun h => ⟨rfl, ?_⟩
  by_cases h2 : hi < k
  · rw [decide_eq_true h2, decide_eq_true (.inr h2)]
  · rw [decide_eq_false h2, decide_eq_false (by omega)]
theorem frag4_spec {mf : Bool} {off : Int} {n : Nat} (ho : 0 ≤ off ∧ off ≤ 65528) (hn : n ≤ 4000000) : Calls Tryz.prog 75 #[.bool mf, .int .i64 off, .int .i64 n] w fun e w' => w = w' ∧ e = .returned (.int .i64 (if frag4 mf off n then 66 else 0)) := by
  refine ip4_fragment_of mf off n w _ ?_
  unfold ip4_fragment_VC
  have e8 : Int.tmod (n : Int) 8 = ((n % 8 : Nat) : Int) := tmod_nat _ 8
  rw [e8, w64 (by omega) (by omega)]
  have yes : frag4 mf off n → (w = w ∧ Ending.returned (.int .i64 66) = .returned (.int .i64 (if frag4 mf off n then 66 else 0))) := fun h => ⟨rfl, by rw [if_pos h]⟩
  have last : ¬ (mf = true ∧ (n = 0 ∨ n % 8 ≠ 0)) → Br (decide ((65515 : Int) < off + n)) (w = w ∧ Ending.returned (.int .i64 66) = .returned (.int .i64 (if frag4 mf off n then 66 else 0))) (w = w ∧ Ending.returned (.int .i64 0) = .returned (.int .i64 (if frag4 mf off n then 66 else 0))) := fun h =>
    Br.dec (fun h2 => yes (.inr h2)) fun h2 => ⟨rfl, by rw [if_neg (fun x => x.elim h h2)]⟩
  cases hm : mf with
  | true =>
    rw [hm] at yes last
    exact Br.t rfl (Br.dec (fun h0 => yes (.inl ⟨rfl, .inl (by omega)⟩)) fun h0 => Br.dec (fun h1 => yes (.inl ⟨rfl, .inr (by omega)⟩)) fun h1 => last fun h => by rcases h.2 with h | h <;> omega)
  | false =>
    rw [hm] at last
    exact Br.f rfl (last fun h => by cases h.1)
theorem refFrag4_spec {mf : Bool} {off : Int} {n : Nat} (ho : 0 ≤ off ∧ off ≤ 65528) (hn : n ≤ 4000000) : Calls Tryz.prog 62 #[.bool mf, .int .i64 off, .int .i64 n] w fun e w' => w = w' ∧ e = .returned (.bool (decide (frag4 mf off n))) := by
  refine weirref6_frag_of mf off n w _ ?_
  unfold weirref6_frag_VC
  have e8 : Int.tmod (n : Int) 8 = ((n % 8 : Nat) : Int) := tmod_nat _ 8
  rw [e8, w64 (by omega) (by omega)]
  have last : ¬ (mf = true ∧ (n = 0 ∨ n % 8 ≠ 0)) → decide ((65515 : Int) < off + n) = decide (frag4 mf off n) := fun h => by
    by_cases h2 : (65515 : Int) < off + n
    · rw [decide_eq_true h2, decide_eq_true (.inr h2)]
    · rw [decide_eq_false h2, decide_eq_false (fun x => x.elim h h2)]
  cases hm : mf with
  | true =>
    rw [hm] at last
    exact Br.t rfl (Br.dec (fun h0 => ⟨rfl, by rw [decide_eq_true (.inl ⟨rfl, .inl (by omega)⟩)]⟩) fun h0 => Br.dec (fun h1 => ⟨rfl, by rw [decide_eq_true (.inl ⟨rfl, .inr (by omega)⟩)]⟩) fun h1 => ⟨rfl, by rw [last fun h => by rcases h.2 with h | h <;> omega]⟩)
  | false =>
    rw [hm] at last
    exact Br.f rfl ⟨rfl, by rw [last fun h => by cases h.1]⟩
theorem four4_spec {p : IPV} : Calls Tryz.prog 73 #[p.val] w fun e w' => Ext w w' ∧ e = .returned (.bool (decide (four4 p))) := by
  refine ip4_four_of p w _ ?_
  unfold ip4_four_VC
  refine NewVC.sep (Sep.start0 w) fun g1 w1 H => NewVC.sep H fun g2 w2 H => DrawVC.sep H (fun _ => True) fun w3 H => ⟨trivial, ?_⟩
  refine ⟨by decide, by decide, by decide, by decide, ?_⟩
  refine CopyVC.sep H 2 Tryz.underlying26 (by kernel_rfl) rfl (xs := [.int .u8 p.a0, .int .u8 p.a1, .int .u8 p.a2, .int .u8 p.a3]) ((Cells.of_blk (H.blk 1 rfl) 1).take 4) rfl (Nat.le_refl 4) (by decide) (by intro v hv; simp at hv; rcases hv with rfl | rfl | rfl | rfl <;> rfl) fun w4 H => ?_
  refine ⟨_, H.cell 1 rfl 0 rfl, Br.dec (fun h4 => ?_) fun h4 => ⟨H.restOf 0 rfl, by rw [decide_eq_false fun x => h4 x.1]⟩⟩
  let a : A16V := ⟨p.a0, p.a1, p.a2, p.a3, p.a4, p.a5, p.a6, p.a7, p.a8, p.a9, p.a10, p.a11, p.a12, p.a13, p.a14, p.a15⟩
  let b : A16V := ⟨p.a0, p.a1, p.a2, p.a3, 0, 0, 0, 0, 0, 0, 0, 0, 0, 0, 0, 0⟩
  have hb1 := H.blk 1 rfl
  refine A16V.of a ⟨⟨hb1.cell 1, hb1.cell 2, hb1.cell 3, hb1.cell 4, hb1.cell 5, hb1.cell 6, hb1.cell 7, hb1.cell 8, hb1.cell 9, hb1.cell 10, hb1.cell 11, hb1.cell 12, hb1.cell 13, hb1.cell 14, hb1.cell 15, hb1.cell 16, trivial⟩, A16V.of b ⟨H.at 2 rfl, H.restOf 0 rfl, ?_⟩⟩
  have : A16V.beq a b = decide (four4 p) := by
    unfold A16V.beq four4
    rw [Bool.eq_iff_iff]
    simp [a, b, h4]
  rw [this]
theorem refFour4_spec {p : IPV} : Calls Tryz.prog 60 #[p.val] w fun e w' => Ext w w' ∧ e = .returned (.bool (decide (four4 p))) := by
  refine weirref6_four_of p w _ ?_
  unfold weirref6_four_VC
  refine NewVC.sep (Sep.start0 w) fun g1 w1 H => ?_
  have hE := H.restOf 0 rfl
  refine LoopVC.of (fun st w' => w1 = w' ∧ ∃ i : Nat, st = (i : Int) ∧ 4 ≤ i ∧ i ≤ 16 ∧ ∀ j, 4 ≤ j → j < i → p.bytes.getD j 0 = 0) (fun st _ => (16 - st).toNat) ⟨rfl, 4, rfl, Nat.le_refl _, by decide, by omega⟩ ?_
  rintro _ _ ⟨rfl, i, rfl, hi4, hi, hz⟩
  unfold weirref6_four_L26
  refine Br.dec (fun hlt => ?_) fun hge => ?_
  · refine IdxVC.int (xs := p.bytes) (n := 16) ((Cells.of_blk (H.blk 1 rfl) 1).take 16) (by omega) hlt rfl fun a hc => ⟨_, hc, ?_⟩
    rw [Int.toNat_natCast]
    refine Br.dec (fun hne => ⟨hE, ?_⟩) fun heq => ?_
    · rw [decide_eq_false]
      rintro ⟨_, h4, h5, h6, h7, h8, h9, h10, h11, h12, h13, h14, h15⟩
      apply hne
      match i, hi4, hlt with
      | 4, _, _ => exact h4
      | 5, _, _ => exact h5
      | 6, _, _ => exact h6
      | 7, _, _ => exact h7
      | 8, _, _ => exact h8
      | 9, _, _ => exact h9
      | 10, _, _ => exact h10
      | 11, _, _ => exact h11
      | 12, _, _ => exact h12
      | 13, _, _ => exact h13
      | 14, _, _ => exact h14
      | 15, _, _ => exact h15
      | i + 16, _, h => exact absurd h (by omega)
    · rw [w64 (by omega) (by omega)]
      refine ⟨⟨rfl, i + 1, by omega, by omega, by omega, fun j h1 h2 => ?_⟩, by omega⟩
      by_cases e : j = i
      · subst e; omega
      · exact hz j h1 (by omega)
  · have hi16 : i = 16 := by omega
    subst hi16
    refine ⟨_, H.cell 1 rfl 0 rfl, hE, ?_⟩
    by_cases h4 : p.v = 4
    · rw [decide_eq_true h4, decide_eq_true]
      exact ⟨h4, hz 4 (by decide) (by decide), hz 5 (by decide) (by decide), hz 6 (by decide) (by decide), hz 7 (by decide) (by decide), hz 8 (by decide) (by decide), hz 9 (by decide) (by decide), hz 10 (by decide) (by decide), hz 11 (by decide) (by decide), hz 12 (by decide) (by decide), hz 13 (by decide) (by decide), hz 14 (by decide) (by decide), hz 15 (by decide) (by decide)⟩
    · rw [decide_eq_false h4, decide_eq_false fun x => h4 x.1]
/-- The zeros behind the options, one by one. -/
theorem pad_step {n k : Nat} (hk : k ≤ pad4 n) : (n + k) % 4 = 0 ↔ k = pad4 n := by unfold pad4 at *; omega
set_option maxHeartbeats 1000000 in
theorem putOpts4_spec {s : Sl} {rs : List OptR} (hO : OptsAt w s rs) : Calls Tryz.prog 74 #[.slice s.A s.n s.k] w (Made w (putOpts4 (rs.map OptR.d))) := by
  refine ip4_PutOptions_of s.A s.n s.k w _ ?_
  unfold ip4_PutOptions_VC
  have hsmall := hO.small
  have hl : (rs.map OptR.d).length = s.n := by simp [hO.len]
  refine LoopVC.of (fun st w' => ∃ (i : Nat) (out : List Int), st.2 = i ∧ i ≤ s.n ∧ opt4F (rs.map OptR.d) i = some out ∧ out.length ≤ 40 ∧ Sep [Fct.rest w None, ownB w.heap.size (.slice st.1.1 st.1.2.1 st.1.2.2) st.1.2.1 out] w') (fun st _ => ((s.n : Int) - st.2).toNat)
    ⟨0, [], rfl, Nat.zero_le _, rfl, Nat.zero_le _, (Sep.start0 w).nil _ _ _⟩ ?_
  rintro ⟨⟨A1, n1, c1⟩, _⟩ w1 ⟨i, out, rfl, hi, hf, hlen, H⟩
  simp only at H
  show ip4_PutOptions_L58 _ s.A s.n A1 n1 c1 (i : Int) w1 _
  unfold ip4_PutOptions_L58
  have hn1 := ownB_len H 1 rfl
  refine Br.dec (fun hlt => ?_) fun hge => ?_
  · have hlt : i < s.n := by omega
    refine (hO.ext (H.restOf 0 rfl)).idx rfl hlt fun a r hr hc _ => ?_
    have hB := hO.each r (List.mem_of_getElem? hr)
    have hds := hB.small
    have hdl := hB.len
    have hrd : (rs.map OptR.d)[i]? = some r.d := by rw [List.getElem?_map, hr]; rfl
    refine OptV.of r.v ⟨hc, ?_⟩
    refine NewVC.sep H fun g1 w2 H => ?_
    refine Stores.sep H 2 rfl r.v.one (Nat.le_refl 2) (splice_all rfl) fun w3 H => ?_
    have bad : opt4B r.d = none → Made w (putOpts4 (rs.map OptR.d)) (.returned (.tuple #[.slice none 0 0, .int .i64 65])) w3 := fun hb => Made.err (H.restOf 0 rfl) (putOpts4_none hf hrd hb)
    have hb0 : (r.v.kind < 2 ∨ 255 < r.v.kind ∨ 38 < r.v.data.n) → opt4B r.d = none := fun h => by
      unfold opt4B; rw [if_pos (show r.d.kind < 2 ∨ 255 < r.d.kind ∨ 38 < r.d.data.length from (show r.v.kind < 2 ∨ 255 < r.v.kind ∨ 38 < r.data.length by omega))]
    refine ⟨_, H.cell 2 rfl 0 rfl, Br.dec (fun h1 => bad (hb0 (by omega))) fun h1 => ⟨_, H.cell 2 rfl 0 rfl, Br.dec (fun h2 => bad (hb0 (by omega))) fun h2 => ⟨_, _, _, H.cell 2 rfl 1 rfl, Br.dec (fun h3 => bad (hb0 (by omega))) fun h3 => ⟨_, _, _, H.cell 2 rfl 1 rfl, ?_⟩⟩⟩⟩
    have hf1 : opt4F (rs.map OptR.d) (i + 1) = some (out ++ (r.v.kind :: ((r.v.data.n + 2 : Nat) : Int) :: r.data)) := by
      rw [opt4F_step hf hrd]
      unfold opt4B
      rw [if_neg (show ¬ (r.d.kind < 2 ∨ 255 < r.d.kind ∨ 38 < r.d.data.length) from (show ¬ (r.v.kind < 2 ∨ 255 < r.v.kind ∨ 38 < r.data.length) by omega))]
      show some (out ++ (r.v.kind :: ((r.data.length + 2 : Nat) : Int) :: r.data)) = _
      rw [hdl]
    rw [w64 (n := (n1 : Int) + 2) (by omega) (by omega), w64 (by omega) (by omega)]
    refine Br.dec (fun h4 => Made.err (H.restOf 0 rfl) (putOpts4_long hf1 (by omega) (by simp; omega))) fun h4 => ⟨_, H.cell 2 rfl 0 rfl, _, _, _, H.cell 2 rfl 1 rfl, ?_⟩
    rw [wu8 (n := r.v.kind) (by omega) (by omega), w64 (by omega) (by omega), wu8 (by omega) (by omega)]
    refine NewVC.sep H fun g2 w4 H => ?_
    refine appB H 1 rfl (m := 2) (ys := [r.v.kind, 2 + (r.v.data.n : Int)]) (by simpa using Cells.of_blk (H.blk 3 rfl) 0) rfl (by omega) (H.restOf 0 rfl).size fun A2 c2 w5 H _ => ⟨_, _, _, H.cell 2 rfl 1 rfl, ?_⟩
    refine appB H 1 rfl (ys := r.data) (hB.ext (H.restOf 0 rfl)).cells hdl (by omega) (H.restOf 0 rfl).size fun A3 c3 w6 H _ => ?_
    rw [w64 (by omega) (by omega)]
    refine ⟨⟨i + 1, (out ++ [r.v.kind, 2 + (r.v.data.n : Int)]) ++ r.data, by show (i : Int) + 1 = _; omega, by omega, ?_, by simp; omega, H.take 2⟩, by show ((s.n : Int) - ((i : Int) + 1)).toNat < ((s.n : Int) - (i : Int)).toNat; omega⟩
    rw [hf1]
    simp
    omega
  · have hin : i = s.n := by omega
    subst hin
    have hpo : putOpts4 (rs.map OptR.d) = (out ++ List.replicate (pad4 n1) 0, 0) := by
      unfold putOpts4; rw [hl, hf]; simp only; rw [if_neg (by omega), hn1]
    refine LoopVC.of (fun st w' => ∃ k : Nat, k ≤ pad4 n1 ∧ st.2.1 = n1 + k ∧ Sep [Fct.rest w None, ownB w.heap.size (.slice st.1 st.2.1 st.2.2) st.2.1 (out ++ List.replicate k 0)] w') (fun st _ => n1 + pad4 n1 - st.2.1) ⟨0, Nat.zero_le _, rfl, by simpa using H⟩ ?_
    rintro ⟨A2, n2, c2⟩ w7 ⟨k, hk, hn2, H⟩
    simp only at hn2 H
    subst hn2
    show ip4_PutOptions_L60 _ A2 (n1 + k) c2 w7 _
    unfold ip4_PutOptions_L60
    have hp := pad4_lt n1
    have e4 : Int.tmod ((n1 + k : Nat) : Int) 4 = (((n1 + k) % 4 : Nat) : Int) := tmod_nat _ 4
    rw [e4]
    have hps := pad_step hk
    refine Br.dec (fun hlt => ?_) fun hge => ?_
    · refine NewVC.sep H fun g3 w8 H => ?_
      refine appB H 1 rfl (m := 1) (ys := [0]) (by simpa using Cells.of_blk (H.blk 2 rfl) 0) rfl (by omega) (H.restOf 0 rfl).size fun A3 c3 w9 H _ => ?_
      refine ⟨⟨k + 1, by omega, rfl, ?_⟩, by show n1 + pad4 n1 - (n1 + k + 1) < n1 + pad4 n1 - (n1 + k); omega⟩
      have H := H.take 2
      rw [List.replicate_succ', ← List.append_assoc]
      exact H
    · have : k = pad4 n1 := hps.1 (by omega)
      rw [this] at H ⊢
      exact Made.ok hpo H
set_option maxHeartbeats 1000000 in
theorem refPutOpts4_spec {s : Sl} {rs : List OptR} (hO : OptsAt w s rs) : Calls Tryz.prog 61 #[.slice s.A s.n s.k] w (Made w (putOpts4 (rs.map OptR.d))) := by
  refine weirref6_PutOptions_of s.A s.n s.k w _ ?_
  unfold weirref6_PutOptions_VC
  have hsmall := hO.small
  have hl : (rs.map OptR.d).length = s.n := by simp [hO.len]
  refine LoopVC.of (fun st w' => ∃ (i : Nat) (out : List Int), st.2 = i ∧ i ≤ s.n ∧ opt4F (rs.map OptR.d) i = some out ∧ out.length ≤ 40 * i ∧ Sep [Fct.rest w None, ownB w.heap.size (.slice st.1.1 st.1.2.1 st.1.2.2) st.1.2.1 out] w') (fun st _ => ((s.n : Int) - st.2).toNat)
    ⟨0, [], rfl, Nat.zero_le _, rfl, Nat.zero_le _, (Sep.start0 w).nil _ _ _⟩ ?_
  rintro ⟨⟨A1, n1, c1⟩, _⟩ w1 ⟨i, out, rfl, hi, hf, hlen, H⟩
  simp only at H
  show weirref6_PutOptions_L58 _ s.A s.n A1 n1 c1 (i : Int) w1 _
  unfold weirref6_PutOptions_L58
  have hn1 := ownB_len H 1 rfl
  refine Br.dec (fun hlt => ?_) fun hge => ?_
  · have hlt : i < s.n := by omega
    obtain ⟨r, hr⟩ : ∃ r, rs[i]? = some r := ⟨rs[i]'(by rw [hO.len]; exact hlt), List.getElem?_eq_getElem _⟩
    have hB := hO.each r (List.mem_of_getElem? hr)
    have hds := hB.small
    have hdl := hB.len
    have hrd : (rs.map OptR.d)[i]? = some r.d := by rw [List.getElem?_map, hr]; rfl
    have look : ∀ {w'}, Ext w w' → ∀ F : Addr → Prop, (∀ a, w'.cell? a = some (.int .i64 r.v.kind) → w'.cell? (a.add 1) = some (.slice r.v.data.A r.v.data.n r.v.data.k) → F a) → IdxVC s.A s.n 2 (i : Int) F := fun hE F hF =>
      (hO.ext hE).idx rfl hlt fun a r' hr' hc _ => by
        rw [hr] at hr'; injection hr' with hr'; subst hr'
        exact hF a (by simpa [add_zero] using hc.1) hc.2.1
    have bad : opt4B r.d = none → Made w (putOpts4 (rs.map OptR.d)) (.returned (.tuple #[.slice none 0 0, .int .i64 65])) w1 := fun hb => Made.err (H.restOf 0 rfl) (putOpts4_none hf hrd hb)
    have hb0 : (r.v.kind < 2 ∨ 255 < r.v.kind ∨ 38 < r.v.data.n) → opt4B r.d = none := fun h => by
      unfold opt4B; rw [if_pos (show r.d.kind < 2 ∨ 255 < r.d.kind ∨ 38 < r.d.data.length from (show r.v.kind < 2 ∨ 255 < r.v.kind ∨ 38 < r.data.length by omega))]
    refine look (H.restOf 0 rfl) _ fun a _ hc1 => ⟨_, _, _, hc1, look (H.restOf 0 rfl) _ fun a1 hc0 _ => ⟨_, hc0, Br.dec (fun h1 => bad (hb0 (by omega))) fun h1 => ?_⟩⟩
    refine look (H.restOf 0 rfl) _ fun a2 hc0 _ => ⟨_, hc0, Br.dec (fun h2 => bad (hb0 (by omega))) fun h2 => Br.dec (fun h3 => bad (hb0 (by omega))) fun h3 => ?_⟩
    refine look (H.restOf 0 rfl) _ fun a3 hc0 _ => ⟨_, hc0, ?_⟩
    have hf1 : opt4F (rs.map OptR.d) (i + 1) = some (out ++ (r.v.kind :: ((r.v.data.n + 2 : Nat) : Int) :: r.data)) := by
      rw [opt4F_step hf hrd]
      unfold opt4B
      rw [if_neg (show ¬ (r.d.kind < 2 ∨ 255 < r.d.kind ∨ 38 < r.d.data.length) from (show ¬ (r.v.kind < 2 ∨ 255 < r.v.kind ∨ 38 < r.data.length) by omega))]
      show some (out ++ (r.v.kind :: ((r.data.length + 2 : Nat) : Int) :: r.data)) = _
      rw [hdl]
    rw [wu8 (n := r.v.kind) (by omega) (by omega), w64 (by omega) (by omega), wu8 (by omega) (by omega)]
    refine NewVC.sep H fun g2 w4 H => ?_
    refine appB H 1 rfl (m := 2) (ys := [r.v.kind, (r.v.data.n : Int) + 2]) (by simpa using Cells.of_blk (H.blk 2 rfl) 0) rfl (by omega) (H.restOf 0 rfl).size fun A2 c2 w5 H _ => ?_
    refine look (H.restOf 0 rfl) _ fun a4 _ hc1 => ⟨_, _, _, hc1, ?_⟩
    refine appB H 1 rfl (ys := r.data) (hB.ext (H.restOf 0 rfl)).cells hdl (by omega) (H.restOf 0 rfl).size fun A3 c3 w6 H _ => ?_
    rw [w64 (by omega) (by omega)]
    refine ⟨⟨i + 1, (out ++ [r.v.kind, (r.v.data.n : Int) + 2]) ++ r.data, by show (i : Int) + 1 = _; omega, by omega, ?_, by simp; omega, H.take 2⟩, by show ((s.n : Int) - ((i : Int) + 1)).toNat < ((s.n : Int) - (i : Int)).toNat; omega⟩
    rw [hf1]
    simp
  · have hin : i = s.n := by omega
    subst hin
    refine LoopVC.of (fun st w' => ∃ k : Nat, k ≤ pad4 n1 ∧ st.2.1 = n1 + k ∧ Sep [Fct.rest w None, ownB w.heap.size (.slice st.1 st.2.1 st.2.2) st.2.1 (out ++ List.replicate k 0)] w') (fun st _ => n1 + pad4 n1 - st.2.1) ⟨0, Nat.zero_le _, rfl, by simpa using H⟩ ?_
    rintro ⟨A2, n2, c2⟩ w7 ⟨k, hk, hn2, H⟩
    simp only at hn2 H
    subst hn2
    show weirref6_PutOptions_L60 _ A2 (n1 + k) c2 w7 _
    unfold weirref6_PutOptions_L60
    have hp := pad4_lt n1
    have e4 : Int.tmod ((n1 + k : Nat) : Int) 4 = (((n1 + k) % 4 : Nat) : Int) := tmod_nat _ 4
    rw [e4]
    have hps := pad_step hk
    refine Br.dec (fun hlt => ?_) fun hge => ?_
    · refine NewVC.sep H fun g3 w8 H => ?_
      refine appB H 1 rfl (m := 1) (ys := [0]) (by simpa using Cells.of_blk (H.blk 2 rfl) 0) rfl (by omega) (H.restOf 0 rfl).size fun A3 c3 w9 H _ => ?_
      refine ⟨⟨k + 1, by omega, rfl, ?_⟩, by show n1 + pad4 n1 - (n1 + k + 1) < n1 + pad4 n1 - (n1 + k); omega⟩
      have H := H.take 2
      rw [List.replicate_succ', ← List.append_assoc]
      exact H
    · have : k = pad4 n1 := hps.1 (by omega)
      rw [this] at H ⊢
      refine Br.dec (fun hbig => Made.err (H.restOf 0 rfl) ?_) fun hsm => Made.ok (out := out ++ List.replicate (pad4 n1) 0) ?_ H
      · unfold putOpts4; rw [hl, hf]; simp only; rw [if_pos (by omega)]
      · unfold putOpts4; rw [hl, hf]; simp only; rw [if_neg (by omega), hn1]
end
end N6
end Go.Proofs.YteppichfkeknbaaGreatDoor
/- Chapter 6, writing: Check and Serialise, both programs. -/
namespace Go.Eng
open Go Go.RowKit
section
variable {w0 w : World} {Γ : List Fct}
theorem Sep.fresh {g t : Nat} {cs : List Value} (H : Sep Γ w) (j i : Nat) (hne : j ≠ i) (hj : Γ[j]? = some (Fct.rest w0 None)) (hi : Γ[i]? = some (Fct.blk g t cs)) : w0.heap.size ≤ g :=
  Nat.le_of_not_lt fun hlt => H.apart j i _ _ hne hj hi g ⟨hlt, id⟩ rfl
/-- A block of the call's own as a row. -/
theorem Sep.blkOwn {g e b n c : Nat} {cs : List Value} (H : Sep Γ w) (i : Nat) (hi : Γ[i]? = some (Fct.blk g e cs)) (hb : b ≤ g) (hc : cs.length = c) (hn : n ≤ c) (hm : c ≤ maxLen) : Sep (Γ.set i (Fct.own b e 1 (.slice (some ⟨g, 0, none⟩) n c) n (cs.take n))) w :=
  H.weaken i hi (own_of_blk (H.blk i hi) hb hc hn hm) fun k hk => by
    have hk : (Value.slice (some ⟨g, 0, none⟩) n c).ownBlock = some k := hk
    simp [Value.ownBlock] at hk
    exact hk.symm
end
end Go.Eng
namespace Go.Proofs.YteppichfkeknbaaGreatDoor
namespace N6
open Go.Eng Go.RowKit
section
variable {w : World} {Γ : List Fct} {b n c m : Nat} {A : Option Addr} {xs : List Int}
section
variable {h : Ip4V} {os : List OptR} {data : List Int}
theorem ip4_src {g : Nat} {w' : World} (hb : Blk w' g 28 h.cells) : CellsAt w' ⟨g, 7, none⟩ 0 h.src.cells := ⟨hb.cell 7, hb.cell 8, hb.cell 9, hb.cell 10, hb.cell 11, hb.cell 12, hb.cell 13, hb.cell 14, hb.cell 15, hb.cell 16, hb.cell 17, hb.cell 18, hb.cell 19, hb.cell 20, hb.cell 21, hb.cell 22, hb.cell 23, trivial⟩
theorem ip4_dst {g : Nat} {w' : World} (hb : Blk w' g 28 h.cells) : CellsAt w' ⟨g, 24, none⟩ 0 h.dst.cells := ⟨hb.cell 24, hb.cell 25, hb.cell 26, hb.cell 27, hb.cell 28, hb.cell 29, hb.cell 30, hb.cell 31, hb.cell 32, hb.cell 33, hb.cell 34, hb.cell 35, hb.cell 36, hb.cell 37, hb.cell 38, hb.cell 39, hb.cell 40, trivial⟩
theorem bad4_iff : bad4 (h.d os data) ↔ (h.tos < 0 ∨ 255 < h.tos ∨ h.id < 0 ∨ 65535 < h.id ∨ h.off < 0 ∨ 65528 < h.off ∨ h.off % 8 ≠ 0 ∨ h.ttl < 0 ∨ 255 < h.ttl ∨ h.proto < 0 ∨ 255 < h.proto ∨ ¬ four4 h.src ∨ ¬ four4 h.dst) := Iff.rfl
set_option maxHeartbeats 2000000 in
theorem check4_spec (hA : Ip4At w h os data) : Calls Tryz.prog 32 #[h.val] w fun e w' => Ext w w' ∧ e = .returned (.int .i64 (check4S (h.d os data))) := by
  refine ip4_Check_of h w _ ?_
  unfold ip4_Check_VC
  have hD := hA.data
  have hdl := hD.len
  have hds := hD.small
  have fb := bad4_iff (h := h) (os := os) (data := data)
  obtain ⟨d, hd⟩ : ∃ d, h.d os data = d := ⟨_, rfl⟩
  have e_opts : d.opts = os.map OptR.d := by rw [← hd]; rfl
  have e_data : d.data = data := by rw [← hd]; rfl
  have e_mf : d.mf = h.mf := by rw [← hd]; rfl
  have e_off : d.off = h.off := by rw [← hd]; rfl
  rw [hd] at fb ⊢
  have bad : bad4 d → ∀ {w'}, Ext w w' → (Ext w w' ∧ Ending.returned (.int .i64 68) = .returned (.int .i64 (check4S d))) := fun hb w' hE => ⟨hE, by unfold check4S; rw [if_pos hb]⟩
  refine NewVC.sep (Sep.start0 w) fun g1 w1 H => ⟨_, H.cell 1 rfl 0 rfl, ?_⟩
  refine out4_spec.mono ?_
  rintro _ _ ⟨rfl, rfl⟩
  refine ⟨_, rfl, Br.dec (fun h1 => bad (fb.2 (by omega)) (H.restOf 0 rfl)) fun h1 => ⟨_, H.cell 1 rfl 1 rfl, ?_⟩⟩
  refine out4_spec.mono ?_
  rintro _ _ ⟨rfl, rfl⟩
  refine ⟨_, rfl, Br.dec (fun h2 => bad (fb.2 (by omega)) (H.restOf 0 rfl)) fun h2 => ⟨_, H.cell 1 rfl 4 rfl, ?_⟩⟩
  refine out4_spec.mono ?_
  rintro _ _ ⟨rfl, rfl⟩
  refine ⟨_, rfl, Br.dec (fun h3 => bad (fb.2 (by omega)) (H.restOf 0 rfl)) fun h3 => ⟨_, H.cell 1 rfl 4 rfl, ?_⟩⟩
  rw [Int.tmod_eq_emod_of_nonneg (by omega)]
  refine Br.dec (fun h4 => bad (fb.2 (by omega)) (H.restOf 0 rfl)) fun h4 => ⟨_, H.cell 1 rfl 5 rfl, ?_⟩
  refine out4_spec.mono ?_
  rintro _ _ ⟨rfl, rfl⟩
  refine ⟨_, rfl, Br.dec (fun h5 => bad (fb.2 (by omega)) (H.restOf 0 rfl)) fun h5 => ⟨_, H.cell 1 rfl 6 rfl, ?_⟩⟩
  refine out4_spec.mono ?_
  rintro _ _ ⟨rfl, rfl⟩
  refine ⟨_, rfl, Br.dec (fun h6 => bad (fb.2 (by omega)) (H.restOf 0 rfl)) fun h6 => IPV.of h.src ⟨ip4_src (H.blk 1 rfl), ?_⟩⟩
  refine four4_spec.mono ?_
  rintro _ w7 ⟨hE7, rfl⟩
  have H := H.ext hE7
  refine ⟨_, rfl, ?_⟩
  by_cases h7 : four4 h.src
  case neg => rw [decide_eq_false h7]; exact Br.t rfl (bad (fb.2 (by simp [h7])) (H.restOf 0 rfl))
  rw [decide_eq_true h7]
  refine Br.f rfl (IPV.of h.dst ⟨ip4_dst (H.blk 1 rfl), ?_⟩)
  refine four4_spec.mono ?_
  rintro _ w8 ⟨hE8, rfl⟩
  have H := H.ext hE8
  refine ⟨_, rfl, ?_⟩
  by_cases h8 : four4 h.dst
  case neg => rw [decide_eq_false h8]; exact Br.t rfl (bad (fb.2 (by simp [h8])) (H.restOf 0 rfl))
  rw [decide_eq_true h8]
  have hok : ¬ bad4 d := fun x => by have := fb.1 x; simp only [h7, h8, not_true, or_false] at this; omega
  refine Br.f rfl ⟨_, _, _, H.cell 1 rfl 41 rfl, ?_⟩
  refine (putOpts4_spec (hA.opts.ext (H.restOf 0 rfl))).mono ?_
  rintro _ w9 ⟨PA, pc, rfl, H9⟩
  have H := H.made H9
  rw [← e_opts] at H ⊢
  have hpl := putOpts4_len d.opts
  refine ⟨_, _, _, _, rfl, Br.dec (fun hne => ⟨H.restOf 0 rfl, by unfold check4S; rw [if_neg hok, if_pos hne]⟩) fun heq => ⟨_, _, _, H.cell 1 rfl 42 rfl, ?_⟩⟩
  rw [w64 (n := 20 + (((putOpts4 d.opts).1.length : Nat) : Int)) (by omega) (by omega), w64 (by omega) (by omega)]
  refine Br.dec (fun hbig => ⟨H.restOf 0 rfl, by unfold check4S; rw [if_neg hok, if_neg heq, if_pos (by rw [e_data]; omega)]⟩) fun hsm => ⟨_, H.cell 1 rfl 3 rfl, _, H.cell 1 rfl 4 rfl, _, _, _, H.cell 1 rfl 42 rfl, ?_⟩
  refine (frag4_spec (by omega) hds).mono ?_
  rintro _ _ ⟨rfl, rfl⟩
  have hck : check4S d = if frag4 h.mf h.off h.data.n then 66 else 0 := by
    unfold check4S
    rw [if_neg hok, if_neg heq, if_neg (show ¬ (65535 < 20 + (putOpts4 d.opts).1.length + d.data.length) by rw [e_data]; omega), e_mf, e_off, e_data, hdl]
  rw [hck]
  exact ⟨_, rfl, H.restOf 0 rfl, rfl⟩
set_option maxHeartbeats 2000000 in
theorem refCheck4_spec (hA : Ip4At w h os data) : Calls Tryz.prog 22 #[h.val] w fun e w' => Ext w w' ∧ e = .returned (.int .i64 (check4S (h.d os data))) := by
  refine weirref6_Check_of h w _ ?_
  unfold weirref6_Check_VC
  have hD := hA.data
  have hdl := hD.len
  have hds := hD.small
  have fb := bad4_iff (h := h) (os := os) (data := data)
  obtain ⟨d, hd⟩ : ∃ d, h.d os data = d := ⟨_, rfl⟩
  have e_opts : d.opts = os.map OptR.d := by rw [← hd]; rfl
  have e_data : d.data = data := by rw [← hd]; rfl
  have e_mf : d.mf = h.mf := by rw [← hd]; rfl
  have e_off : d.off = h.off := by rw [← hd]; rfl
  rw [hd] at fb ⊢
  have bad : bad4 d → ∀ {w'}, Ext w w' → (Ext w w' ∧ Ending.returned (.int .i64 68) = .returned (.int .i64 (check4S d))) := fun hb w' hE => ⟨hE, by unfold check4S; rw [if_pos hb]⟩
  refine NewVC.sep (Sep.start0 w) fun g1 w1 H => ⟨_, H.cell 1 rfl 0 rfl, ?_⟩
  refine refOut4_spec.mono ?_
  rintro _ _ ⟨rfl, rfl⟩
  refine ⟨_, rfl, Br.dec (fun h1 => bad (fb.2 (by omega)) (H.restOf 0 rfl)) fun h1 => ⟨_, H.cell 1 rfl 1 rfl, ?_⟩⟩
  refine refOut4_spec.mono ?_
  rintro _ _ ⟨rfl, rfl⟩
  refine ⟨_, rfl, Br.dec (fun h2 => bad (fb.2 (by omega)) (H.restOf 0 rfl)) fun h2 => ⟨_, H.cell 1 rfl 4 rfl, ?_⟩⟩
  refine refOut4_spec.mono ?_
  rintro _ _ ⟨rfl, rfl⟩
  refine ⟨_, rfl, Br.dec (fun h3 => bad (fb.2 (by omega)) (H.restOf 0 rfl)) fun h3 => ⟨_, H.cell 1 rfl 4 rfl, ?_⟩⟩
  rw [Int.tmod_eq_emod_of_nonneg (by omega)]
  refine Br.dec (fun h4 => bad (fb.2 (by omega)) (H.restOf 0 rfl)) fun h4 => ⟨_, H.cell 1 rfl 5 rfl, ?_⟩
  refine refOut4_spec.mono ?_
  rintro _ _ ⟨rfl, rfl⟩
  refine ⟨_, rfl, Br.dec (fun h5 => bad (fb.2 (by omega)) (H.restOf 0 rfl)) fun h5 => ⟨_, H.cell 1 rfl 6 rfl, ?_⟩⟩
  refine refOut4_spec.mono ?_
  rintro _ _ ⟨rfl, rfl⟩
  refine ⟨_, rfl, Br.dec (fun h6 => bad (fb.2 (by omega)) (H.restOf 0 rfl)) fun h6 => IPV.of h.src ⟨ip4_src (H.blk 1 rfl), ?_⟩⟩
  refine refFour4_spec.mono ?_
  rintro _ w7 ⟨hE7, rfl⟩
  have H := H.ext hE7
  refine ⟨_, rfl, ?_⟩
  by_cases h7 : four4 h.src
  case neg => rw [decide_eq_false h7]; exact Br.t rfl (bad (fb.2 (by simp [h7])) (H.restOf 0 rfl))
  rw [decide_eq_true h7]
  refine Br.f rfl (IPV.of h.dst ⟨ip4_dst (H.blk 1 rfl), ?_⟩)
  refine refFour4_spec.mono ?_
  rintro _ w8 ⟨hE8, rfl⟩
  have H := H.ext hE8
  refine ⟨_, rfl, ?_⟩
  by_cases h8 : four4 h.dst
  case neg => rw [decide_eq_false h8]; exact Br.t rfl (bad (fb.2 (by simp [h8])) (H.restOf 0 rfl))
  rw [decide_eq_true h8]
  have hok : ¬ bad4 d := fun x => by have := fb.1 x; simp only [h7, h8, not_true, or_false] at this; omega
  refine Br.f rfl ⟨_, _, _, H.cell 1 rfl 41 rfl, ?_⟩
  refine (refPutOpts4_spec (hA.opts.ext (H.restOf 0 rfl))).mono ?_
  rintro _ w9 ⟨PA, pc, rfl, H9⟩
  have H := H.made H9
  rw [← e_opts] at H ⊢
  have hpl := putOpts4_len d.opts
  refine ⟨_, _, _, _, rfl, Br.dec (fun hne => ⟨H.restOf 0 rfl, by unfold check4S; rw [if_neg hok, if_pos hne]⟩) fun heq => ⟨_, _, _, H.cell 1 rfl 42 rfl, ?_⟩⟩
  rw [w64 (n := 20 + (((putOpts4 d.opts).1.length : Nat) : Int)) (by omega) (by omega), w64 (by omega) (by omega)]
  refine Br.dec (fun hbig => ⟨H.restOf 0 rfl, by unfold check4S; rw [if_neg hok, if_neg heq, if_pos (by rw [e_data]; omega)]⟩) fun hsm => ⟨_, H.cell 1 rfl 3 rfl, _, H.cell 1 rfl 4 rfl, _, _, _, H.cell 1 rfl 42 rfl, ?_⟩
  refine (refFrag4_spec (by omega) hds).mono ?_
  rintro _ _ ⟨rfl, rfl⟩
  have hck : check4S d = if frag4 h.mf h.off h.data.n then 66 else 0 := by
    unfold check4S
    rw [if_neg hok, if_neg heq, if_neg (by rw [e_data]; omega), e_mf, e_off, e_data, hdl]
  rw [hck]
  refine ⟨_, rfl, Br.dec (fun hf => ⟨H.restOf 0 rfl, by rw [if_pos hf]⟩) fun hf => ⟨H.restOf 0 rfl, by rw [if_neg hf]⟩⟩
end
end
end N6
end Go.Proofs.YteppichfkeknbaaGreatDoor
/- Chapter 6, writing: Serialise, both programs. -/
namespace Go.Proofs.YteppichfkeknbaaGreatDoor
namespace N6
open Go.Eng Go.RowKit
section
variable {w : World} {Γ : List Fct} {b n c m : Nat} {A : Option Addr} {xs : List Int} {h : Ip4V} {os : List OptR} {data : List Int}
structure Ok4 (h : Ip4V) (os : List OptR) (data : List Int) : Prop where
  tos : 0 ≤ h.tos ∧ h.tos ≤ 255
  id : 0 ≤ h.id ∧ h.id ≤ 65535
  off : 0 ≤ h.off ∧ h.off ≤ 65528
  off8 : h.off % 8 = 0
  ttl : 0 ≤ h.ttl ∧ h.ttl ≤ 255
  proto : 0 ≤ h.proto ∧ h.proto ≤ 255
  src : four4 h.src
  dst : four4 h.dst
  opts : (putOpts4 (os.map OptR.d)).2 = 0
  tot : tot4 (h.d os data) ≤ 65535
theorem Ok4.of (hc : check4S (h.d os data) = 0) : Ok4 h os data := by
  obtain ⟨h1, h2, h3, -⟩ := check4S_ok hc
  rw [bad4_iff] at h1
  exact ⟨by omega, by omega, by omega, by omega, by omega, by omega, Classical.byContradiction fun e => h1 (by simp [e]), Classical.byContradiction fun e => h1 (by simp [e]), h2, h3⟩
theorem front4_bts (_hA : Ip4At w h os data) (ho : Ok4 h os data) : Bts (front4 (h.d os data)) := by
  have hw : 0 ≤ word4 (h.d os data) ∧ word4 (h.d os data) < 65536 := by
    have := ho.off
    show 0 ≤ h.off / 8 + (if h.df = true then 16384 else 0) + (if h.mf = true then 8192 else 0) ∧ h.off / 8 + (if h.df = true then 16384 else 0) + (if h.mf = true then 8192 else 0) < 65536
    split <;> split <;> omega
  have h1 := ho.tos
  have h2 := ho.id
  have h3 := ho.ttl
  have h4 := ho.proto
  have h5 := ho.tot
  have h6 := putOpts4_len (h.d os data).opts
  have e1 : (h.d os data).tos = h.tos := rfl
  have e2 : (h.d os data).id = h.id := rfl
  have e3 : (h.d os data).ttl = h.ttl := rfl
  have e4 : (h.d os data).proto = h.proto := rfl
  unfold front4
  rw [e1, e2, e3, e4]
  exact bts_cons (by omega) (by omega) (bts_cons (by omega) (by omega) (bts_cons (by omega) (by omega) (bts_cons (by omega) (by omega) (bts_cons (by omega) (by omega) (bts_cons (by omega) (by omega) (bts_cons (by omega) (by omega) (bts_cons (by omega) (by omega) (bts_cons (by omega) (by omega) (bts_cons (by omega) (by omega) bts_nil)))))))))
theorem ip4B_bts {p : IPV} (hp : Bts p.bytes) : Bts (ip4B p) := fun x hx => hp x (by
  simp only [ip4B, List.mem_cons, List.not_mem_nil, or_false] at hx
  simp only [IPV.bytes, List.mem_cons, List.not_mem_nil, or_false]
  rcases hx with rfl | rfl | rfl | rfl <;> simp)
theorem back4_bts (hA : Ip4At w h os data) : Bts (back4 (h.d os data)) :=
  (ip4B_bts hA.src).append ((ip4B_bts hA.dst).append (putOpts4_bts fun o ho => by
    obtain ⟨r, hr, rfl⟩ := List.mem_map.1 ho
    exact (hA.opts.each r hr).bts))
theorem back4_len (d : Ip4D) : (back4 d).length = 8 + (putOpts4 d.opts).1.length := by
  unfold back4 ip4B; simp; omega
theorem add4_spec {k : Int} (ho : w.ownsRow b 5 1 (.slice A n c) n (xs.map (.int .u8))) (hb : b ≤ w.heap.size) (hn : n ≤ 1000000) (hk : 0 ≤ k ∧ k ≤ 65535) :
    Calls Tryz.prog 82 #[.slice A n c, .int .i64 k] w fun e w' => ∃ A2 c2, e = .returned (.slice A2 (n + 2) c2) ∧
      Sep [Fct.rest w (fun j => (Value.slice A n c).ownBlock = some j), ownB b (.slice A2 (n + 2) c2) (n + 2) (xs ++ [k / 256, k % 256])] w' := by
  refine weirref6_add_of A n c k w _ ?_
  unfold weirref6_add_VC
  rw [Int.tdiv_eq_ediv_of_nonneg hk.1, w64 (by omega) (by omega), wu8 (by omega) (by omega), Int.tmod_eq_emod_of_nonneg hk.1, wu8 (by omega) (by omega)]
  have H := Sep.begin (f := ownB b (.slice A n c) n xs) (M := fun j => (Value.slice A n c).ownBlock = some j) ho (fun _ e => e) fun j hj => (ho.lt j hj).2
  refine NewVC.sep H fun g1 w1 H => ?_
  refine appB H 1 rfl (m := 2) (ys := [k / 256, k % 256]) (by simpa using Cells.of_blk (H.blk 2 rfl) 0) rfl (by omega) (by have := (H.restOf 0 rfl).size; omega) fun A2 c2 w2 H _ => ?_
  exact ⟨A2, c2, rfl, H.take 2⟩
set_option maxHeartbeats 4000000 in
theorem refSerialise4_spec (hA : Ip4At w h os data) : Calls Tryz.prog 63 #[h.val] w (Made w (ser4S (h.d os data))) := by
  refine weirref6_Serialise_of h w _ ?_
  unfold weirref6_Serialise_VC
  have hD := hA.data
  have hdl := hD.len
  have hds := hD.small
  have okw := fun hc => Ok4.of (h := h) (os := os) (data := data) hc
  have hfB := fun hc => front4_bts hA (okw hc)
  have hbB := back4_bts hA
  obtain ⟨d, hd⟩ : ∃ d, h.d os data = d := ⟨_, rfl⟩
  have e_opts : d.opts = os.map OptR.d := by rw [← hd]; rfl
  have e_data : d.data = data := by rw [← hd]; rfl
  have e_tos : d.tos = h.tos := by rw [← hd]; rfl
  have e_id : d.id = h.id := by rw [← hd]; rfl
  have e_df : d.df = h.df := by rw [← hd]; rfl
  have e_mf : d.mf = h.mf := by rw [← hd]; rfl
  have e_off : d.off = h.off := by rw [← hd]; rfl
  have e_ttl : d.ttl = h.ttl := by rw [← hd]; rfl
  have e_proto : d.proto = h.proto := by rw [← hd]; rfl
  have e_src : d.src = h.src := by rw [← hd]; rfl
  have e_dst : d.dst = h.dst := by rw [← hd]; rfl
  rw [hd] at okw hfB hbB
  refine NewVC.sep (Sep.start0 w) fun g1 w1 H => Ip4V.of h ⟨H.at 1 rfl, ?_⟩
  refine (refCheck4_spec (hA.ext (H.restOf 0 rfl))).mono ?_
  rintro _ w2 ⟨hE2, rfl⟩
  have H := H.ext hE2
  rw [hd]
  refine ⟨_, rfl, Br.dec (fun hne => Made.err (H.restOf 0 rfl) (by unfold ser4S; rw [if_pos hne])) fun heq => ⟨_, _, _, H.cell 1 rfl 41 rfl, ?_⟩⟩
  have hck : check4S d = 0 := by omega
  have ok := okw hck
  have hfB := hfB hck
  refine (refPutOpts4_spec (hA.opts.ext (H.restOf 0 rfl))).mono ?_
  rintro _ w3 ⟨PA, pc, rfl, H3⟩
  have H := (H.made H3).lower 2 rfl (b' := w.heap.size) (H.restOf 0 rfl).size
  rw [← e_opts] at H ⊢
  have hpl := putOpts4_len d.opts
  have htot := ok.tot
  have ok_tos := ok.tos
  have ok_id := ok.id
  have ok_off := ok.off
  have ok_off8 := ok.off8
  have ok_ttl := ok.ttl
  have ok_proto := ok.proto
  rw [hd] at htot
  have etot : tot4 d = 20 + (putOpts4 d.opts).1.length + h.data.n := by unfold tot4; rw [e_data, hdl]
  obtain ⟨O, hO⟩ : ∃ O, (putOpts4 d.opts).1 = O := ⟨_, rfl⟩
  rw [hO] at H hpl etot ⊢
  refine ⟨_, _, _, _, rfl, _, H.cell 1 rfl 4 rfl, ?_⟩
  rw [Int.tdiv_eq_ediv_of_nonneg ok_off.1, w64 (n := h.off / 8) (by omega) (by omega), w64 (n := h.off / 8 + 16384) (by omega) (by omega)]
  refine JoinVC.of (fun st w' => w3 = w' ∧ st = h.off / 8 + (if h.df = true then 16384 else 0)) ?_ ?_
  · refine ⟨_, H.cell 1 rfl 2 rfl, ?_⟩
    cases h.df with
    | true => exact Br.t rfl ⟨rfl, rfl⟩
    | false => exact Br.f rfl ⟨rfl, by simp⟩
  rintro _ _ ⟨rfl, rfl⟩
  unfold weirref6_Serialise_J127
  have hw1 : 0 ≤ h.off / 8 + (if h.df = true then 16384 else 0) ∧ h.off / 8 + (if h.df = true then 16384 else 0) ≤ 30000 := by split <;> omega
  have ew : word4 d = h.off / 8 + (if h.df = true then 16384 else 0) + (if h.mf = true then 8192 else 0) := by unfold word4; rw [e_off, e_df, e_mf]
  have hw2 : 0 ≤ word4 d ∧ word4 d ≤ 65535 := by rw [ew]; split <;> omega
  refine JoinVC.of (fun st w' => w3 = w' ∧ st = word4 d) ?_ ?_
  · refine ⟨_, H.cell 1 rfl 3 rfl, ?_⟩
    rw [w64 (by omega) (by omega), ew]
    cases h.mf with
    | true => exact Br.t rfl ⟨rfl, rfl⟩
    | false => exact Br.f rfl ⟨rfl, by simp⟩
  rintro _ _ ⟨rfl, rfl⟩
  unfold weirref6_Serialise_J255
  have et4 : Int.tdiv (20 + (O.length : Int)) 4 = (((20 + O.length) / 4 : Nat) : Int) := by
    have := tdiv_nat (20 + O.length) 4
    rw [show (20 + (O.length : Int)) = ((20 + O.length : Nat) : Int) by omega]; exact this
  refine ⟨_, H.cell 1 rfl 0 rfl, ?_⟩
  rw [w64 (n := 20 + (O.length : Int)) (by omega) (by omega), et4, w64 (n := (((20 + O.length) / 4 : Nat) : Int)) (by omega) (by omega), w64 (n := 64 + (((20 + O.length) / 4 : Nat) : Int)) (by omega) (by omega), wu8 (by omega) (by omega), wu8 (n := h.tos) (by omega) (by omega)]
  refine NewVC.sep H fun g2 w6 H => ⟨_, _, _, H.cell 1 rfl 42 rfl, ?_⟩
  rw [w64 (n := 20 + (O.length : Int) + (h.data.n : Int)) (by omega) (by omega)]
  have hg2 := H.fresh 0 3 (by decide) rfl rfl
  have H : Sep [Fct.rest w None, Fct.blk g1 28 h.cells, ownB w.heap.size (.slice PA O.length pc) O.length O, ownB w.heap.size (.slice (some ⟨g2, 0, none⟩) 2 2) 2 [64 + (((20 + O.length) / 4 : Nat) : Int), h.tos]] w6 :=
    H.blkOwn 3 rfl hg2 (c := 2) rfl (Nat.le_refl 2) (by simp only [maxLen]; omega)
  refine (add4_spec (k := 20 + (O.length : Int) + (h.data.n : Int)) (H.own 3 rfl) (H.restOf 0 rfl).size (by omega) (by omega)).mono ?_
  rintro _ w7 ⟨A7, c7, rfl, H7⟩
  have H := H.call 3 rfl (fun k hk => hk) H7
  refine ⟨_, _, _, rfl, _, H.cell 1 rfl 1 rfl, ?_⟩
  refine (add4_spec (k := h.id) (H.own 3 rfl) (H.restOf 0 rfl).size (by omega) (by omega)).mono ?_
  rintro _ w8 ⟨A8, c8, rfl, H8⟩
  have H := H.call 3 rfl (fun k hk => hk) H8
  refine ⟨_, _, _, rfl, ?_⟩
  refine (add4_spec (k := word4 d) (H.own 3 rfl) (H.restOf 0 rfl).size (by omega) (by omega)).mono ?_
  rintro _ w9 ⟨A9, c9, rfl, H9⟩
  have H := H.call 3 rfl (fun k hk => hk) H9
  refine ⟨_, _, _, rfl, _, H.cell 1 rfl 5 rfl, _, H.cell 1 rfl 6 rfl, ?_⟩
  rw [wu8 (n := h.ttl) (by omega) (by omega), wu8 (n := h.proto) (by omega) (by omega)]
  refine NewVC.sep H fun g3 w10 H => ?_
  refine appB H 3 rfl (m := 2) (ys := [h.ttl, h.proto]) (by simpa using Cells.of_blk (H.blk 4 rfl) 0) rfl (by omega) (H.restOf 0 rfl).size fun A10 c10 w11 H _ => ?_
  have hfd : [64 + (((20 + O.length) / 4 : Nat) : Int), h.tos] ++ [(20 + (O.length : Int) + (h.data.n : Int)) / 256, (20 + (O.length : Int) + (h.data.n : Int)) % 256] ++ [h.id / 256, h.id % 256] ++ [word4 d / 256, word4 d % 256] ++ [h.ttl, h.proto] = front4 d := by
    unfold front4
    rw [hO, e_tos, e_id, e_ttl, e_proto, etot]
    simp
  rw [hfd] at H
  have H : Sep [Fct.rest w None, Fct.blk g1 28 h.cells, ownB w.heap.size (.slice PA O.length pc) O.length O, ownB w.heap.size (.slice A10 10 c10) 10 (front4 d), ownB w.heap.size (.slice none 0 0) 0 []] w11 := (H.take 4).nil _ _ _
  refine LoopVC.of (fun st w' => ∃ i : Nat, st.2 = (i : Int) ∧ i ≤ 4 ∧ st.1.2.1 = i ∧ Sep [Fct.rest w None, Fct.blk g1 28 h.cells, ownB w.heap.size (.slice PA O.length pc) O.length O, ownB w.heap.size (.slice A10 10 c10) 10 (front4 d), ownB w.heap.size (.slice st.1.1 st.1.2.1 st.1.2.2) st.1.2.1 ((ip4B h.src).take i)] w') (fun st _ => (4 - st.2).toNat) ⟨0, rfl, by decide, rfl, H⟩ ?_
  rintro ⟨⟨A1, n1, c1⟩, _⟩ w12 ⟨i, rfl, hi, hn1, H⟩
  simp only at hn1 H
  subst hn1
  show weirref6_Serialise_L262138 _ g1 PA O.length pc A10 10 c10 A1 n1 c1 (n1 : Int) w12 _
  unfold weirref6_Serialise_L262138
  refine Br.dec (fun hlt => ?_) fun hge => ?_
  · refine IdxVC.int (xs := h.src.bytes) (n := 16) ((Cells.of_blk (H.blk 1 rfl) 8).take 16) (by omega) (by omega) rfl fun a hc => ⟨_, hc, ?_⟩
    refine NewVC.sep H fun g4 w13 H => ?_
    refine appB H 4 rfl (m := 1) (ys := [h.src.bytes.getD n1 0]) (by simpa using Cells.of_blk (H.blk 5 rfl) 0) rfl (by omega) (H.restOf 0 rfl).size fun A2 c2 w14 H _ => ?_
    rw [w64 (by omega) (by omega)]
    refine ⟨⟨n1 + 1, rfl, by omega, rfl, ?_⟩, by show (4 - ((n1 : Int) + 1)).toNat < (4 - (n1 : Int)).toNat; omega⟩
    have et := take_snoc (ip4B h.src) n1 (by show n1 < 4; omega)
    have eg : (ip4B h.src).getD n1 0 = h.src.bytes.getD n1 0 := by
      match n1, hlt with
      | 0, _ => rfl
      | 1, _ => rfl
      | 2, _ => rfl
      | 3, _ => rfl
      | k + 4, hk => exact absurd hk (by omega)
    rw [eg] at et
    rw [et]
    exact H.take 5
  have h4 : n1 = 4 := by omega
  subst h4
  have es : (ip4B h.src).take 4 = ip4B h.src := rfl
  rw [es] at H
  refine LoopVC.of (fun st w' => ∃ i : Nat, st.2 = (i : Int) ∧ i ≤ 4 ∧ st.1.2.1 = 4 + i ∧ Sep [Fct.rest w None, Fct.blk g1 28 h.cells, ownB w.heap.size (.slice PA O.length pc) O.length O, ownB w.heap.size (.slice A10 10 c10) 10 (front4 d), ownB w.heap.size (.slice st.1.1 st.1.2.1 st.1.2.2) st.1.2.1 (ip4B h.src ++ (ip4B h.dst).take i)] w') (fun st _ => (4 - st.2).toNat) ⟨0, rfl, by decide, rfl, by simpa using H⟩ ?_
  rintro ⟨⟨A5, n5, c5⟩, _⟩ w15 ⟨j, rfl, hj, hn5, H⟩
  simp only at hn5 H
  subst hn5
  show weirref6_Serialise_L524282 _ g1 PA O.length pc A10 10 c10 A5 (4 + j) c5 (j : Int) w15 _
  unfold weirref6_Serialise_L524282
  refine Br.dec (fun hlt => ?_) fun hge => ?_
  · refine IdxVC.int (xs := h.dst.bytes) (n := 16) ((Cells.of_blk (H.blk 1 rfl) 25).take 16) (by omega) (by omega) rfl fun a hc => ⟨_, hc, ?_⟩
    refine NewVC.sep H fun g4 w13 H => ?_
    refine appB H 4 rfl (m := 1) (ys := [h.dst.bytes.getD j 0]) (by simpa using Cells.of_blk (H.blk 5 rfl) 0) rfl (by omega) (H.restOf 0 rfl).size fun A2 c2 w14 H _ => ?_
    rw [w64 (by omega) (by omega)]
    refine ⟨⟨j + 1, rfl, by omega, rfl, ?_⟩, by show (4 - ((j : Int) + 1)).toNat < (4 - (j : Int)).toNat; omega⟩
    have et := take_snoc (ip4B h.dst) j (by show j < 4; omega)
    have eg : (ip4B h.dst).getD j 0 = h.dst.bytes.getD j 0 := by
      match j, hlt with
      | 0, _ => rfl
      | 1, _ => rfl
      | 2, _ => rfl
      | 3, _ => rfl
      | k + 4, hk => exact absurd hk (by omega)
    rw [eg] at et
    rw [et, ← List.append_assoc]
    exact H.take 5
  have h4 : j = 4 := by omega
  subst h4
  have ed : (ip4B h.dst).take 4 = ip4B h.dst := rfl
  rw [ed] at H
  refine appB H 4 rfl (ys := O) (H.cells 2 rfl) rfl (by omega) (H.restOf 0 rfl).size fun A6 c6 w18 H _ => ?_
  have hbk : ip4B h.src ++ ip4B h.dst ++ O = back4 d := by unfold back4; rw [e_src, e_dst, hO, List.append_assoc]
  rw [hbk] at H
  have hbl : (back4 d).length = 4 + 4 + O.length := by rw [back4_len, hO]
  refine NewVC.sep H fun g6 w19 H => ?_
  let ps : List PartV := [⟨A10, 10, c10, front4 d⟩, ⟨A6, 4 + 4 + O.length, c6, back4 d⟩]
  have hps : PartsAt w19 (some ⟨g6, 0, none⟩) ps := by
    refine ⟨by simpa [ps, PartV.val] using Cells.of_blk (H.blk 5 rfl) 0, fun p hp => ?_⟩
    simp only [ps, List.mem_cons, List.not_mem_nil, or_false] at hp
    rcases hp with rfl | rfl
    · exact ⟨H.cells 3 rfl, rfl, hfB, by show 10 ≤ 70000; decide⟩
    · exact ⟨H.cells 4 rfl, hbl, hbB, by show 4 + 4 + O.length ≤ 70000; omega⟩
  refine (refCheck_spec (m := 2) hps rfl (by decide)).mono ?_
  rintro _ _ ⟨rfl, rfl⟩
  have hgr : groundS ps = front4 d ++ back4 d := by simp [groundS, ps]
  have hzB : Bts ([0, 0] : List Int) := fun x hx => by simp at hx; omega
  have hs4 : 65535 - sumS (front4 d ++ back4 d) = sum4 d := by unfold sum4; rw [sum_gap (by simp [front4])]
  have hsb := foldS_bound (rawS_bound (hfB.append hbB) true).1
  have hs4b : 0 ≤ sum4 d ∧ sum4 d ≤ 65535 := by rw [← hs4]; unfold sumS; omega
  rw [hgr, hs4]
  refine ⟨_, rfl, ?_⟩
  refine (add4_spec (k := sum4 d) (H.own 3 rfl) (H.restOf 0 rfl).size (by omega) hs4b).mono ?_
  rintro _ w21 ⟨A11, c11, rfl, H11⟩
  have H := H.call 3 rfl (fun k hk => hk) H11
  refine ⟨_, _, _, rfl, ?_⟩
  refine appB H 3 rfl (ys := back4 d) (H.cells 4 rfl) hbl (by omega) (H.restOf 0 rfl).size fun A12 c12 w22 H _ => ⟨_, _, _, H.cell 1 rfl 42 rfl, ?_⟩
  refine appB H 3 rfl (ys := data) (hD.ext (H.restOf 0 rfl)).cells hdl (by omega) (H.restOf 0 rfl).size fun A13 c13 w23 H _ => ?_
  refine Made.ok (out := ((front4 d ++ [sum4 d / 256, sum4 d % 256]) ++ back4 d) ++ data) ?_ (((H.del 1).del 1).take 2)
  unfold ser4S
  rw [if_neg heq, e_data]
  simp
end
end N6
end Go.Proofs.YteppichfkeknbaaGreatDoor
