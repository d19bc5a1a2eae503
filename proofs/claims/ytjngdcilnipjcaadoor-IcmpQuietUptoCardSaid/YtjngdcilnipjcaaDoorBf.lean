/- WRITTEN BY a program of this session (vc.py): for each Go function the condition that is enough for its contract, and the theorem that it is. -/
import Derived.Test.YtjngdcilnipjcaaDoorProg
import Derived.Test.YtjngdcilnipjcaaDoorBq
namespace Go.Proofs.YtjngdcilnipjcaaDoor
open Go.Eng
def bodyOf (fn : Func) : Code := match fn.body with | some c => c | none => .skip
def callF (f : Nat) : Bool := Nat.ble 6 f && Nat.ble f 118
theorem callAll : ((List.range 119).all fun f => !(callF f) || callableB Tryd.prog f) = true := by kernel_rfl
theorem callOk : ∀ f, callF f = true → callableB Tryd.prog f = true := by
  intro f hf
  have h := List.all_eq_true.1 callAll f (by simp [callF] at hf; simp; omega)
  simpa [hf] using h
theorem mixedOk : Tryd.prog.follows .mixedOrders = true := by kernel_rfl

set_option maxRecDepth 100000 in
def weirlaw8_laid_J3 (R : Ending → World → Prop)  (bA1 : Option Addr) (bn1 : Nat) (bc1 : Nat) (w1 : World) : Prop :=
  AppVC Tryd.prog #[22, 22] 22 (.slice none 0 0) (.slice bA1 bn1 bc1) w1 fun lA ln lc w2 =>
  NewVC w2 (.cells #[.int .u8 201, .int .u8 202, .int .u8 203, .int .u8 204, .int .u8 205] 5) fun g1 w3 =>
  AppVC Tryd.prog #[22, 22] 22 (.slice lA ln lc) (.slice (some ⟨g1, 0, none⟩) 5 5) w3 fun lA1 ln1 lc1 w4 =>
  SliceVC lA1 ln1 lc1 1 none (some (bn1 : Int)) none fun sA1 sn1 sc1 =>
  R (.returned (.tuple #[.slice sA1 sn1 sc1, .slice lA1 ln1 lc1])) w4
set_option maxRecDepth 100000 in
def weirlaw8_laid_VC (bA : Option Addr) (bn : Nat) (bc : Nat) (w : World) (R : Ending → World → Prop) : Prop :=
  JoinVC (S := (Option Addr × Nat × Nat)) (fun J3 =>
      Br (decide ((66000 : Int) < (bn : Int)))
        (SliceVC bA bn bc 1 none (some 66000) none fun sA sn sc =>
        J3 (sA, sn, sc) w)
        (J3 (bA, bn, bc) w))
    (fun s w1 => weirlaw8_laid_J3 R s.1 s.2.1 s.2.2 w1)
def weirlaw8_laid_H : Hints := [(3, [(0, .slice)])]
set_option maxRecDepth 100000 in
theorem weirlaw8_laid_of (bA : Option Addr) (bn : Nat) (bc : Nat) (w : World) (R : Ending → World → Prop) (h : weirlaw8_laid_VC bA bn bc w R) :
    Calls Tryd.prog 14 #[.slice bA bn bc] w R :=
  calls_of_wpc callOk mixedOk (H := weirlaw8_laid_H) (args := [.slice bA bn bc]) (fn := Tryd.f14) (c := bodyOf Tryd.f14) Tryd.func14 rfl (Nat.le_of_ble_eq_true rfl)
    (Eq.mp (by kernel_rfl : weirlaw8_laid_VC bA bn bc w R = wpc Tryd.prog callF Tryd.f14.ntmps weirlaw8_laid_H 1 (bodyOf Tryd.f14) (argEnv 0 [.slice bA bn bc]) [] w (finish Tryd.prog callF Tryd.f14.results.toList R)) h)

set_option maxRecDepth 100000 in
def weirlaw8_copied_VC (bA : Option Addr) (bn : Nat) (bc : Nat) (w : World) (R : Ending → World → Prop) : Prop :=
  AppVC Tryd.prog #[22, 22] 22 (.slice none 0 0) (.slice bA bn bc) w fun lA ln lc w1 =>
  R (.returned (.slice lA ln lc)) w1
def weirlaw8_copied_H : Hints := []
set_option maxRecDepth 100000 in
theorem weirlaw8_copied_of (bA : Option Addr) (bn : Nat) (bc : Nat) (w : World) (R : Ending → World → Prop) (h : weirlaw8_copied_VC bA bn bc w R) :
    Calls Tryd.prog 15 #[.slice bA bn bc] w R :=
  calls_of_wpc callOk mixedOk (H := weirlaw8_copied_H) (args := [.slice bA bn bc]) (fn := Tryd.f15) (c := bodyOf Tryd.f15) Tryd.func15 rfl (Nat.le_of_ble_eq_true rfl)
    (Eq.mp (by kernel_rfl : weirlaw8_copied_VC bA bn bc w R = wpc Tryd.prog callF Tryd.f15.ntmps weirlaw8_copied_H 1 (bodyOf Tryd.f15) (argEnv 0 [.slice bA bn bc]) [] w (finish Tryd.prog callF Tryd.f15.results.toList R)) h)

set_option maxRecDepth 100000 in
def weirlaw8_same_L58 (R : Ending → World → Prop) (aA : Option Addr) (an : Nat) (bA : Option Addr) (bn : Nat) (i : Int) (w1 : World) (K58 : (Int → World → Prop)) : Prop :=
  Br (decide (i < (an : Int)))
    (DrawVC w1 fun S1 w2 =>
  IdxVC aA an 1 i fun a =>
  ∃ x : Int, (∀ w' : World, S1 w' → w'.cell? a = some (.int .u8 x)) ∧
  IdxVC bA bn 1 i fun a1 =>
  ∃ x1 : Int, (∀ w' : World, S1 w' → w'.cell? a1 = some (.int .u8 x1)) ∧
  Br (decide (x ≠ x1))
    (R (.returned (.bool false)) w2)
    (K58 (IntKind.i64.wrap (i + 1)) w2))
    (R (.returned (.bool true)) w1)
set_option maxRecDepth 100000 in
def weirlaw8_same_VC (aA : Option Addr) (an : Nat) (_ac : Nat) (bA : Option Addr) (bn : Nat) (_bc : Nat) (w : World) (R : Ending → World → Prop) : Prop :=
  Br (decide ((an : Int) ≠ (bn : Int)))
    (R (.returned (.bool false)) w)
    (LoopVC (S := Int) (fun s w1 K58 => weirlaw8_same_L58 R aA an bA bn s w1 K58) 0 w)
def weirlaw8_same_H : Hints := [(58, [(5, .int .i64)])]
set_option maxRecDepth 100000 in
theorem weirlaw8_same_of (aA : Option Addr) (an : Nat) (ac : Nat) (bA : Option Addr) (bn : Nat) (bc : Nat) (w : World) (R : Ending → World → Prop) (h : weirlaw8_same_VC aA an ac bA bn bc w R) :
    Calls Tryd.prog 18 #[.slice aA an ac, .slice bA bn bc] w R :=
  calls_of_wpc callOk mixedOk (H := weirlaw8_same_H) (args := [.slice aA an ac, .slice bA bn bc]) (fn := Tryd.f18) (c := bodyOf Tryd.f18) Tryd.func18 rfl (Nat.le_of_ble_eq_true rfl)
    (Eq.mp (by kernel_rfl : weirlaw8_same_VC aA an ac bA bn bc w R = wpc Tryd.prog callF Tryd.f18.ntmps weirlaw8_same_H 1 (bodyOf Tryd.f18) (argEnv 0 [.slice aA an ac, .slice bA bn bc]) [] w (finish Tryd.prog callF Tryd.f18.results.toList R)) h)

set_option maxRecDepth 100000 in
def icmp_PutND_L122 (R : Ending → World → Prop) (g1 : Nat) (g2 : Nat) (g3 : Nat) (g4 : Nat) (t76_ : Int) (w41 : World) (K122 : (Int → World → Prop)) : Prop :=
  Br (decide (t76_ < 3))
    (IdxVC (some ⟨g4, 0, none⟩) 3 2 t76_ fun a =>
  ∃ x02 : Bool, ∃ x110 : Int, CellsAt w41 a 0 [.bool x02, .int .i64 x110] ∧
  NewVC w41 (.cells #[.bool false, .int .i64 0] 103) fun g5 w42 =>
  SetVC w42 ⟨g5, 0, none⟩ (.bool x02) fun w43 =>
  SetVC w43 ⟨g5, 1, none⟩ (.int .i64 x110) fun w44 =>
  ∃ x24 : Bool, w44.cell? ⟨g5, 0, none⟩ = some (.bool x24) ∧
  Br x24
    (∃ x25 : Int, w44.cell? ⟨g3, 3, none⟩ = some (.int .i64 x25) ∧
    ∃ x26 : Int, w44.cell? ⟨g5, 1, none⟩ = some (.int .i64 x26) ∧
    SetVC w44 ⟨g3, 3, none⟩ (.int .i64 (bitv .or .i64 x25 x26)) fun w45 =>
    K122 (IntKind.i64.wrap (t76_ + 1)) w45)
    (K122 (IntKind.i64.wrap (t76_ + 1)) w44))
    (∃ x27 : Bool, w41.cell? ⟨g1, 21, none⟩ = some (.bool x27) ∧
  Br x27
    (∃ (xA : Option Addr) (xn xc : Nat), w41.cell? ⟨g3, 4, none⟩ = some (.slice xA xn xc) ∧
    ∃ x28 : Int, w41.cell? ⟨g1, 0, none⟩ = some (.int .i64 x28) ∧
    NewVC w41 (.cells #[.int .u8 (IntKind.u8.wrap x28), .int .u8 1] 5) fun g6 w46 =>
    AppVC Tryd.prog #[22, 22] 22 (.slice xA xn xc) (.slice (some ⟨g6, 0, none⟩) 2 2) w46 fun lA1 ln1 lc1 w47 =>
    SetVC w47 ⟨g3, 4, none⟩ (.slice lA1 ln1 lc1) fun w48 =>
    DrawVC w48 fun S2 w49 =>
    ∃ (xA1 : Option Addr) (xn1 xc1 : Nat), (∀ w' : World, S2 w' → w'.cell? ⟨g3, 4, none⟩ = some (.slice xA1 xn1 xc1)) ∧
    SliceVC (some ⟨g1, 22, none⟩) 6 6 1 none none none fun sA1 sn1 sc1 =>
    AppVC Tryd.prog #[22, 22] 22 (.slice xA1 xn1 xc1) (.slice sA1 sn1 sc1) w49 fun lA2 ln2 lc2 w50 =>
    S2 w50 ∧
    SetVC w50 ⟨g3, 4, none⟩ (.slice lA2 ln2 lc2) fun w51 =>
    ∃ x03 : Int, ∃ x112 : Int, ∃ x29 : Int, ∃ x33 : Int, ∃ (x4A : Option Addr) (x4n x4c : Nat), CellsAt w51 ⟨g3, 0, none⟩ 0 [.int .i64 x03, .int .i64 x112, .int .i64 x29, .int .i64 x33, .slice x4A x4n x4c] ∧
  SetVC w51 ⟨g2, 0, none⟩ (.int .i64 x03) fun w52 =>
  SetVC w52 ⟨g2, 1, none⟩ (.int .i64 x112) fun w53 =>
  SetVC w53 ⟨g2, 2, none⟩ (.int .i64 x29) fun w54 =>
  SetVC w54 ⟨g2, 3, none⟩ (.int .i64 x33) fun w55 =>
  SetVC w55 ⟨g2, 4, none⟩ (.slice x4A x4n x4c) fun w56 =>
  ∃ res05 : Int, ∃ res15 : Int, ∃ res25 : Int, ∃ res35 : Int, ∃ (res4A5 : Option Addr) (res4n5 res4c5 : Nat), CellsAt w56 ⟨g2, 0, none⟩ 0 [.int .i64 res05, .int .i64 res15, .int .i64 res25, .int .i64 res35, .slice res4A5 res4n5 res4c5] ∧
  R (.returned (.tuple #[.agg #[.int .i64 res05, .int .i64 res15, .int .i64 res25, .int .i64 res35, .slice res4A5 res4n5 res4c5], .int .i64 0])) w56)
    (∃ x04 : Int, ∃ x113 : Int, ∃ x210 : Int, ∃ x34 : Int, ∃ (x4A1 : Option Addr) (x4n1 x4c1 : Nat), CellsAt w41 ⟨g3, 0, none⟩ 0 [.int .i64 x04, .int .i64 x113, .int .i64 x210, .int .i64 x34, .slice x4A1 x4n1 x4c1] ∧
  SetVC w41 ⟨g2, 0, none⟩ (.int .i64 x04) fun w57 =>
  SetVC w57 ⟨g2, 1, none⟩ (.int .i64 x113) fun w58 =>
  SetVC w58 ⟨g2, 2, none⟩ (.int .i64 x210) fun w59 =>
  SetVC w59 ⟨g2, 3, none⟩ (.int .i64 x34) fun w60 =>
  SetVC w60 ⟨g2, 4, none⟩ (.slice x4A1 x4n1 x4c1) fun w61 =>
  ∃ res06 : Int, ∃ res16 : Int, ∃ res26 : Int, ∃ res36 : Int, ∃ (res4A6 : Option Addr) (res4n6 res4c6 : Nat), CellsAt w61 ⟨g2, 0, none⟩ 0 [.int .i64 res06, .int .i64 res16, .int .i64 res26, .int .i64 res36, .slice res4A6 res4n6 res4c6] ∧
  R (.returned (.tuple #[.agg #[.int .i64 res06, .int .i64 res16, .int .i64 res26, .int .i64 res36, .slice res4A6 res4n6 res4c6], .int .i64 0])) w61))
def icmp_PutND_D14 (R : Ending → World → Prop) (w39 : World) (g1 : Nat) (g2 : Nat) (g3 : Nat) : Prop :=
  ∃ x19 : Bool, w39.cell? ⟨g1, 18, none⟩ = some (.bool x19) ∧
  ∃ x20 : Bool, w39.cell? ⟨g1, 19, none⟩ = some (.bool x20) ∧
  ∃ x23 : Bool, w39.cell? ⟨g1, 20, none⟩ = some (.bool x23) ∧
  NewVC w39 (.cells #[.bool x19, .int .i64 2147483648, .bool x20, .int .i64 1073741824, .bool x23, .int .i64 536870912] 103) fun g4 w40 =>
  LoopVC (S := Int) (fun s w41 K122 => icmp_PutND_L122 R g1 g2 g3 g4 s w41 K122) 0 w40
set_option maxRecDepth 100000 in
def icmp_PutND_J207 (R : Ending → World → Prop) (g1 : Nat) (g2 : Nat) (t34_ : Bool) (w15 : World) : Prop :=
  Br t34_
    (SetVC w15 ⟨g2, 0, none⟩ (.int .i64 0) fun w16 =>
    SetVC w16 ⟨g2, 1, none⟩ (.int .i64 0) fun w17 =>
    SetVC w17 ⟨g2, 2, none⟩ (.int .i64 0) fun w18 =>
    SetVC w18 ⟨g2, 3, none⟩ (.int .i64 0) fun w19 =>
    SetVC w19 ⟨g2, 4, none⟩ (.slice none 0 0) fun w20 =>
    ∃ res02 : Int, ∃ res12 : Int, ∃ res22 : Int, ∃ res32 : Int, ∃ (res4A2 : Option Addr) (res4n2 res4c2 : Nat), CellsAt w20 ⟨g2, 0, none⟩ 0 [.int .i64 res02, .int .i64 res12, .int .i64 res22, .int .i64 res32, .slice res4A2 res4n2 res4c2] ∧
  R (.returned (.tuple #[.agg #[.int .i64 res02, .int .i64 res12, .int .i64 res22, .int .i64 res32, .slice res4A2 res4n2 res4c2], .int .i64 1])) w20)
    (∃ x7 : Int, w15.cell? ⟨g1, 1, none⟩ = some (.int .i64 x7) ∧
    Br (decide (x7 ≠ 6))
      (SetVC w15 ⟨g2, 0, none⟩ (.int .i64 0) fun w21 =>
    SetVC w21 ⟨g2, 1, none⟩ (.int .i64 0) fun w22 =>
    SetVC w22 ⟨g2, 2, none⟩ (.int .i64 0) fun w23 =>
    SetVC w23 ⟨g2, 3, none⟩ (.int .i64 0) fun w24 =>
    SetVC w24 ⟨g2, 4, none⟩ (.slice none 0 0) fun w25 =>
    ∃ res03 : Int, ∃ res13 : Int, ∃ res23 : Int, ∃ res33 : Int, ∃ (res4A3 : Option Addr) (res4n3 res4c3 : Nat), CellsAt w25 ⟨g2, 0, none⟩ 0 [.int .i64 res03, .int .i64 res13, .int .i64 res23, .int .i64 res33, .slice res4A3 res4n3 res4c3] ∧
  R (.returned (.tuple #[.agg #[.int .i64 res03, .int .i64 res13, .int .i64 res23, .int .i64 res33, .slice res4A3 res4n3 res4c3], .int .i64 86])) w25)
      (∃ x01 : Int, ∃ x12 : Int, ∃ x22 : Int, ∃ x32 : Int, ∃ x42 : Int, ∃ x52 : Int, ∃ x61 : Int, ∃ x71 : Int, ∃ x8 : Int, ∃ x9 : Int, ∃ x10 : Int, ∃ x111 : Int, ∃ x121 : Int, ∃ x13 : Int, ∃ x14 : Int, ∃ x15 : Int, ∃ x16 : Int, CellsAt w15 ⟨g1, 1, none⟩ 0 [.int .i64 x01, .int .u8 x12, .int .u8 x22, .int .u8 x32, .int .u8 x42, .int .u8 x52, .int .u8 x61, .int .u8 x71, .int .u8 x8, .int .u8 x9, .int .u8 x10, .int .u8 x111, .int .u8 x121, .int .u8 x13, .int .u8 x14, .int .u8 x15, .int .u8 x16] ∧
      Calls Tryd.prog 47 #[.agg #[.int .i64 x01, .int .u8 x12, .int .u8 x22, .int .u8 x32, .int .u8 x42, .int .u8 x52, .int .u8 x61, .int .u8 x71, .int .u8 x8, .int .u8 x9, .int .u8 x10, .int .u8 x111, .int .u8 x121, .int .u8 x13, .int .u8 x14, .int .u8 x15, .int .u8 x16]] w15 (onRet (fun r_ w26 => ∃ x17 : Bool, r_ = .bool x17 ∧
      Br x17
      (SetVC w26 ⟨g2, 0, none⟩ (.int .i64 0) fun w27 =>
      SetVC w27 ⟨g2, 1, none⟩ (.int .i64 0) fun w28 =>
      SetVC w28 ⟨g2, 2, none⟩ (.int .i64 0) fun w29 =>
      SetVC w29 ⟨g2, 3, none⟩ (.int .i64 0) fun w30 =>
      SetVC w30 ⟨g2, 4, none⟩ (.slice none 0 0) fun w31 =>
      ∃ res04 : Int, ∃ res14 : Int, ∃ res24 : Int, ∃ res34 : Int, ∃ (res4A4 : Option Addr) (res4n4 res4c4 : Nat), CellsAt w31 ⟨g2, 0, none⟩ 0 [.int .i64 res04, .int .i64 res14, .int .i64 res24, .int .i64 res34, .slice res4A4 res4n4 res4c4] ∧
  R (.returned (.tuple #[.agg #[.int .i64 res04, .int .i64 res14, .int .i64 res24, .int .i64 res34, .slice res4A4 res4n4 res4c4], .int .i64 86])) w31)
      (DrawVC w26 fun S1 w32 =>
  ∃ x18 : Int, (∀ w' : World, S1 w' → w'.cell? ⟨g1, 0, none⟩ = some (.int .i64 x18)) ∧
  SliceVC (some ⟨g1, 2, none⟩) 16 16 1 none none none fun sA sn sc =>
  (AppVC Tryd.prog #[22, 22] 22 (.slice none 0 0) (.slice sA sn sc) w32 fun lA ln lc w33 =>
  S1 w33 ∧
  NewVC w33 (.cells #[.int .i64 0, .int .i64 0, .int .i64 0, .int .i64 0, .slice none 0 0] 24) fun g3 w34 =>
  S1 w34 ∧
  SetVC w34 ⟨g3, 0, none⟩ (.int .i64 6) fun w35 =>
  SetVC w35 ⟨g3, 1, none⟩ (.int .i64 (IntKind.i64.wrap (IntKind.i64.wrap (135 + x18) - 1))) fun w36 =>
  SetVC w36 ⟨g3, 2, none⟩ (.int .i64 0) fun w37 =>
  SetVC w37 ⟨g3, 3, none⟩ (.int .i64 0) fun w38 =>
  SetVC w38 ⟨g3, 4, none⟩ (.slice lA ln lc) fun w39 =>
  icmp_PutND_D14 R w39 g1 g2 g3) ∧
  (NewVC w32 (.cells #[.int .i64 0, .int .i64 0, .int .i64 0, .int .i64 0, .slice none 0 0] 24) fun g7 w62 =>
  S1 w62 ∧
  AppVC Tryd.prog #[22, 22] 22 (.slice none 0 0) (.slice sA sn sc) w62 fun lA3 ln3 lc3 w63 =>
  S1 w63 ∧
  SetVC w63 ⟨g7, 0, none⟩ (.int .i64 6) fun w64 =>
  SetVC w64 ⟨g7, 1, none⟩ (.int .i64 (IntKind.i64.wrap (IntKind.i64.wrap (135 + x18) - 1))) fun w65 =>
  SetVC w65 ⟨g7, 2, none⟩ (.int .i64 0) fun w66 =>
  SetVC w66 ⟨g7, 3, none⟩ (.int .i64 0) fun w67 =>
  SetVC w67 ⟨g7, 4, none⟩ (.slice lA3 ln3 lc3) fun w68 =>
  icmp_PutND_D14 R w68 g1 g2 g7)))
        (fun ch w26 => R (.panicked ch) w26))))
set_option maxRecDepth 100000 in
def icmp_PutND_J51 (R : Ending → World → Prop) (g1 : Nat) (g2 : Nat) (t17_ : Bool) (w9 : World) : Prop :=
  Br t17_
    (SetVC w9 ⟨g2, 0, none⟩ (.int .i64 0) fun w10 =>
    SetVC w10 ⟨g2, 1, none⟩ (.int .i64 0) fun w11 =>
    SetVC w11 ⟨g2, 2, none⟩ (.int .i64 0) fun w12 =>
    SetVC w12 ⟨g2, 3, none⟩ (.int .i64 0) fun w13 =>
    SetVC w13 ⟨g2, 4, none⟩ (.slice none 0 0) fun w14 =>
    ∃ res01 : Int, ∃ res11 : Int, ∃ res21 : Int, ∃ res31 : Int, ∃ (res4A1 : Option Addr) (res4n1 res4c1 : Nat), CellsAt w14 ⟨g2, 0, none⟩ 0 [.int .i64 res01, .int .i64 res11, .int .i64 res21, .int .i64 res31, .slice res4A1 res4n1 res4c1] ∧
  R (.returned (.tuple #[.agg #[.int .i64 res01, .int .i64 res11, .int .i64 res21, .int .i64 res31, .slice res4A1 res4n1 res4c1], .int .i64 1])) w14)
    (JoinVC (S := Bool) (fun J207 =>
        ∃ x6 : Bool, w9.cell? ⟨g1, 21, none⟩ = some (.bool x6) ∧
        Br (!x6)
          (∃ x0 : Int, ∃ x11 : Int, ∃ x21 : Int, ∃ x31 : Int, ∃ x41 : Int, ∃ x51 : Int, CellsAt w9 ⟨g1, 22, none⟩ 0 [.int .u8 x0, .int .u8 x11, .int .u8 x21, .int .u8 x31, .int .u8 x41, .int .u8 x51] ∧
          J207 (!(((decide (x0 = 0)) && ((decide (x11 = 0)) && ((decide (x21 = 0)) && ((decide (x31 = 0)) && ((decide (x41 = 0)) && ((decide (x51 = 0)) && true)))))))) w9)
          (J207 false w9))
      (fun s w15 => icmp_PutND_J207 R g1 g2 s w15))
set_option maxRecDepth 100000 in
def icmp_PutND_J12 (R : Ending → World → Prop) (g1 : Nat) (g2 : Nat) (t7_ : Bool) (w3 : World) : Prop :=
  Br t7_
    (SetVC w3 ⟨g2, 0, none⟩ (.int .i64 0) fun w4 =>
    SetVC w4 ⟨g2, 1, none⟩ (.int .i64 0) fun w5 =>
    SetVC w5 ⟨g2, 2, none⟩ (.int .i64 0) fun w6 =>
    SetVC w6 ⟨g2, 3, none⟩ (.int .i64 0) fun w7 =>
    SetVC w7 ⟨g2, 4, none⟩ (.slice none 0 0) fun w8 =>
    ∃ res0 : Int, ∃ res1 : Int, ∃ res2 : Int, ∃ res3 : Int, ∃ (res4A : Option Addr) (res4n res4c : Nat), CellsAt w8 ⟨g2, 0, none⟩ 0 [.int .i64 res0, .int .i64 res1, .int .i64 res2, .int .i64 res3, .slice res4A res4n res4c] ∧
  R (.returned (.tuple #[.agg #[.int .i64 res0, .int .i64 res1, .int .i64 res2, .int .i64 res3, .slice res4A res4n res4c], .int .i64 1])) w8)
    (JoinVC (S := Bool) (fun J51 =>
        ∃ x2 : Int, w3.cell? ⟨g1, 0, none⟩ = some (.int .i64 x2) ∧
        Br (decide (x2 = 1))
          (∃ x3 : Bool, w3.cell? ⟨g1, 18, none⟩ = some (.bool x3) ∧
          Br x3
            (J51 true w3)
            (∃ x4 : Bool, w3.cell? ⟨g1, 19, none⟩ = some (.bool x4) ∧
            Br x4
              (J51 true w3)
              (∃ x5 : Bool, w3.cell? ⟨g1, 20, none⟩ = some (.bool x5) ∧
              J51 x5 w3)))
          (J51 false w3))
      (fun s w9 => icmp_PutND_J51 R g1 g2 s w9))
set_option maxRecDepth 100000 in
def icmp_PutND_VC (n_Kind : Int) (n_TargetV : Int) (n_TargetA0_ : Int) (n_TargetA1_ : Int) (n_TargetA2_ : Int) (n_TargetA3_ : Int) (n_TargetA4_ : Int) (n_TargetA5_ : Int) (n_TargetA6_ : Int) (n_TargetA7_ : Int) (n_TargetA8_ : Int) (n_TargetA9_ : Int) (n_TargetA10_ : Int) (n_TargetA11_ : Int) (n_TargetA12_ : Int) (n_TargetA13_ : Int) (n_TargetA14_ : Int) (n_TargetA15_ : Int) (n_Router : Bool) (n_Solicited : Bool) (n_Override : Bool) (n_HasMac : Bool) (n_Mac0_ : Int) (n_Mac1_ : Int) (n_Mac2_ : Int) (n_Mac3_ : Int) (n_Mac4_ : Int) (n_Mac5_ : Int) (w : World) (R : Ending → World → Prop) : Prop :=
  NewVC w (.cells #[.int .i64 n_Kind, .int .i64 n_TargetV, .int .u8 n_TargetA0_, .int .u8 n_TargetA1_, .int .u8 n_TargetA2_, .int .u8 n_TargetA3_, .int .u8 n_TargetA4_, .int .u8 n_TargetA5_, .int .u8 n_TargetA6_, .int .u8 n_TargetA7_, .int .u8 n_TargetA8_, .int .u8 n_TargetA9_, .int .u8 n_TargetA10_, .int .u8 n_TargetA11_, .int .u8 n_TargetA12_, .int .u8 n_TargetA13_, .int .u8 n_TargetA14_, .int .u8 n_TargetA15_, .bool n_Router, .bool n_Solicited, .bool n_Override, .bool n_HasMac, .int .u8 n_Mac0_, .int .u8 n_Mac1_, .int .u8 n_Mac2_, .int .u8 n_Mac3_, .int .u8 n_Mac4_, .int .u8 n_Mac5_] 35) fun g1 w1 =>
  NewVC w1 (.cells #[.int .i64 0, .int .i64 0, .int .i64 0, .int .i64 0, .slice none 0 0] 24) fun g2 w2 =>
  JoinVC (S := Bool) (fun J12 =>
      ∃ x : Int, w2.cell? ⟨g1, 0, none⟩ = some (.int .i64 x) ∧
      Br (decide (x ≠ 1))
        (∃ x1 : Int, w2.cell? ⟨g1, 0, none⟩ = some (.int .i64 x1) ∧
        J12 (decide (x1 ≠ 2)) w2)
        (J12 false w2))
    (fun s w3 => icmp_PutND_J12 R g1 g2 s w3)
def icmp_PutND_H : Hints := [(12, [(7, .bool)]), (51, [(17, .bool)]), (207, [(34, .bool)]), (122, [(76, .int .i64)])]
set_option maxRecDepth 100000 in
theorem icmp_PutND_of (n_Kind : Int) (n_TargetV : Int) (n_TargetA0_ : Int) (n_TargetA1_ : Int) (n_TargetA2_ : Int) (n_TargetA3_ : Int) (n_TargetA4_ : Int) (n_TargetA5_ : Int) (n_TargetA6_ : Int) (n_TargetA7_ : Int) (n_TargetA8_ : Int) (n_TargetA9_ : Int) (n_TargetA10_ : Int) (n_TargetA11_ : Int) (n_TargetA12_ : Int) (n_TargetA13_ : Int) (n_TargetA14_ : Int) (n_TargetA15_ : Int) (n_Router : Bool) (n_Solicited : Bool) (n_Override : Bool) (n_HasMac : Bool) (n_Mac0_ : Int) (n_Mac1_ : Int) (n_Mac2_ : Int) (n_Mac3_ : Int) (n_Mac4_ : Int) (n_Mac5_ : Int) (w : World) (R : Ending → World → Prop) (h : icmp_PutND_VC n_Kind n_TargetV n_TargetA0_ n_TargetA1_ n_TargetA2_ n_TargetA3_ n_TargetA4_ n_TargetA5_ n_TargetA6_ n_TargetA7_ n_TargetA8_ n_TargetA9_ n_TargetA10_ n_TargetA11_ n_TargetA12_ n_TargetA13_ n_TargetA14_ n_TargetA15_ n_Router n_Solicited n_Override n_HasMac n_Mac0_ n_Mac1_ n_Mac2_ n_Mac3_ n_Mac4_ n_Mac5_ w R) :
    Calls Tryd.prog 19 #[.agg #[.int .i64 n_Kind, .int .i64 n_TargetV, .int .u8 n_TargetA0_, .int .u8 n_TargetA1_, .int .u8 n_TargetA2_, .int .u8 n_TargetA3_, .int .u8 n_TargetA4_, .int .u8 n_TargetA5_, .int .u8 n_TargetA6_, .int .u8 n_TargetA7_, .int .u8 n_TargetA8_, .int .u8 n_TargetA9_, .int .u8 n_TargetA10_, .int .u8 n_TargetA11_, .int .u8 n_TargetA12_, .int .u8 n_TargetA13_, .int .u8 n_TargetA14_, .int .u8 n_TargetA15_, .bool n_Router, .bool n_Solicited, .bool n_Override, .bool n_HasMac, .int .u8 n_Mac0_, .int .u8 n_Mac1_, .int .u8 n_Mac2_, .int .u8 n_Mac3_, .int .u8 n_Mac4_, .int .u8 n_Mac5_]] w R :=
  calls_of_wpc callOk mixedOk (H := icmp_PutND_H) (args := [.agg #[.int .i64 n_Kind, .int .i64 n_TargetV, .int .u8 n_TargetA0_, .int .u8 n_TargetA1_, .int .u8 n_TargetA2_, .int .u8 n_TargetA3_, .int .u8 n_TargetA4_, .int .u8 n_TargetA5_, .int .u8 n_TargetA6_, .int .u8 n_TargetA7_, .int .u8 n_TargetA8_, .int .u8 n_TargetA9_, .int .u8 n_TargetA10_, .int .u8 n_TargetA11_, .int .u8 n_TargetA12_, .int .u8 n_TargetA13_, .int .u8 n_TargetA14_, .int .u8 n_TargetA15_, .bool n_Router, .bool n_Solicited, .bool n_Override, .bool n_HasMac, .int .u8 n_Mac0_, .int .u8 n_Mac1_, .int .u8 n_Mac2_, .int .u8 n_Mac3_, .int .u8 n_Mac4_, .int .u8 n_Mac5_]]) (fn := Tryd.f19) (c := bodyOf Tryd.f19) Tryd.func19 rfl (Nat.le_of_ble_eq_true rfl)
    (Eq.mp (by kernel_rfl : icmp_PutND_VC n_Kind n_TargetV n_TargetA0_ n_TargetA1_ n_TargetA2_ n_TargetA3_ n_TargetA4_ n_TargetA5_ n_TargetA6_ n_TargetA7_ n_TargetA8_ n_TargetA9_ n_TargetA10_ n_TargetA11_ n_TargetA12_ n_TargetA13_ n_TargetA14_ n_TargetA15_ n_Router n_Solicited n_Override n_HasMac n_Mac0_ n_Mac1_ n_Mac2_ n_Mac3_ n_Mac4_ n_Mac5_ w R = wpc Tryd.prog callF Tryd.f19.ntmps icmp_PutND_H 1 (bodyOf Tryd.f19) (argEnv 0 [.agg #[.int .i64 n_Kind, .int .i64 n_TargetV, .int .u8 n_TargetA0_, .int .u8 n_TargetA1_, .int .u8 n_TargetA2_, .int .u8 n_TargetA3_, .int .u8 n_TargetA4_, .int .u8 n_TargetA5_, .int .u8 n_TargetA6_, .int .u8 n_TargetA7_, .int .u8 n_TargetA8_, .int .u8 n_TargetA9_, .int .u8 n_TargetA10_, .int .u8 n_TargetA11_, .int .u8 n_TargetA12_, .int .u8 n_TargetA13_, .int .u8 n_TargetA14_, .int .u8 n_TargetA15_, .bool n_Router, .bool n_Solicited, .bool n_Override, .bool n_HasMac, .int .u8 n_Mac0_, .int .u8 n_Mac1_, .int .u8 n_Mac2_, .int .u8 n_Mac3_, .int .u8 n_Mac4_, .int .u8 n_Mac5_]]) [] w (finish Tryd.prog callF Tryd.f19.results.toList R)) h)

set_option maxRecDepth 100000 in
def weirref8_PutND_L65494 (R : Ending → World → Prop) (g1 : Nat) (g2 : Nat) (g4 : Nat) (i1 : Int) (w86 : World) (K65494 : (Int → World → Prop)) : Prop :=
  Br (decide (i1 < 6))
    (DrawVC w86 fun S2 w87 =>
  ∃ (xA2 : Option Addr) (xn2 xc2 : Nat), (∀ w' : World, S2 w' → w'.cell? ⟨g4, 4, none⟩ = some (.slice xA2 xn2 xc2)) ∧
  IdxVC (some ⟨g1, 22, none⟩) 6 1 i1 fun a1 =>
  ∃ x64 : Int, (∀ w' : World, S2 w' → w'.cell? a1 = some (.int .u8 x64)) ∧
  NewVC w87 (.cells #[.int .u8 x64] 5) fun g7 w88 =>
  S2 w88 ∧
  AppVC Tryd.prog #[22, 22] 22 (.slice xA2 xn2 xc2) (.slice (some ⟨g7, 0, none⟩) 1 1) w88 fun lA2 ln2 lc2 w89 =>
  S2 w89 ∧
  SetVC w89 ⟨g4, 4, none⟩ (.slice lA2 ln2 lc2) fun w90 =>
  K65494 (IntKind.i64.wrap (i1 + 1)) w90)
    (∃ x017 : Int, ∃ x120 : Int, ∃ x217 : Int, ∃ x317 : Int, ∃ (x4A12 : Option Addr) (x4n12 x4c12 : Nat), CellsAt w86 ⟨g4, 0, none⟩ 0 [.int .i64 x017, .int .i64 x120, .int .i64 x217, .int .i64 x317, .slice x4A12 x4n12 x4c12] ∧
  SetVC w86 ⟨g2, 0, none⟩ (.int .i64 x017) fun w91 =>
  SetVC w91 ⟨g2, 1, none⟩ (.int .i64 x120) fun w92 =>
  SetVC w92 ⟨g2, 2, none⟩ (.int .i64 x217) fun w93 =>
  SetVC w93 ⟨g2, 3, none⟩ (.int .i64 x317) fun w94 =>
  SetVC w94 ⟨g2, 4, none⟩ (.slice x4A12 x4n12 x4c12) fun w95 =>
  ∃ res012 : Int, ∃ res112 : Int, ∃ res212 : Int, ∃ res312 : Int, ∃ (res4A12 : Option Addr) (res4n12 res4c12 : Nat), CellsAt w95 ⟨g2, 0, none⟩ 0 [.int .i64 res012, .int .i64 res112, .int .i64 res212, .int .i64 res312, .slice res4A12 res4n12 res4c12] ∧
  R (.returned (.tuple #[.agg #[.int .i64 res012, .int .i64 res112, .int .i64 res212, .int .i64 res312, .slice res4A12 res4n12 res4c12], .int .i64 0])) w95)
set_option maxRecDepth 100000 in
def weirref8_PutND_L4090 (R : Ending → World → Prop) (g1 : Nat) (g2 : Nat) (g4 : Nat) (i : Int) (w78 : World) (K4090 : (Int → World → Prop)) : Prop :=
  Br (decide (i < 16))
    (DrawVC w78 fun S1 w79 =>
  ∃ (xA : Option Addr) (xn xc : Nat), (∀ w' : World, S1 w' → w'.cell? ⟨g4, 4, none⟩ = some (.slice xA xn xc)) ∧
  IdxVC (some ⟨g1, 2, none⟩) 16 1 i fun a =>
  ∃ x60 : Int, (∀ w' : World, S1 w' → w'.cell? a = some (.int .u8 x60)) ∧
  NewVC w79 (.cells #[.int .u8 x60] 5) fun g5 w80 =>
  S1 w80 ∧
  AppVC Tryd.prog #[22, 22] 22 (.slice xA xn xc) (.slice (some ⟨g5, 0, none⟩) 1 1) w80 fun lA ln lc w81 =>
  S1 w81 ∧
  SetVC w81 ⟨g4, 4, none⟩ (.slice lA ln lc) fun w82 =>
  K4090 (IntKind.i64.wrap (i + 1)) w82)
    (∃ x62 : Bool, w78.cell? ⟨g1, 21, none⟩ = some (.bool x62) ∧
  Br x62
    (∃ (xA1 : Option Addr) (xn1 xc1 : Nat), w78.cell? ⟨g4, 4, none⟩ = some (.slice xA1 xn1 xc1) ∧
    ∃ x63 : Int, w78.cell? ⟨g1, 0, none⟩ = some (.int .i64 x63) ∧
    NewVC w78 (.cells #[.int .u8 (IntKind.u8.wrap x63), .int .u8 1] 5) fun g6 w83 =>
    AppVC Tryd.prog #[22, 22] 22 (.slice xA1 xn1 xc1) (.slice (some ⟨g6, 0, none⟩) 2 2) w83 fun lA1 ln1 lc1 w84 =>
    SetVC w84 ⟨g4, 4, none⟩ (.slice lA1 ln1 lc1) fun w85 =>
    LoopVC (S := Int) (fun s w86 K65494 => weirref8_PutND_L65494 R g1 g2 g4 s w86 K65494) 0 w85)
    (∃ x018 : Int, ∃ x122 : Int, ∃ x218 : Int, ∃ x318 : Int, ∃ (x4A13 : Option Addr) (x4n13 x4c13 : Nat), CellsAt w78 ⟨g4, 0, none⟩ 0 [.int .i64 x018, .int .i64 x122, .int .i64 x218, .int .i64 x318, .slice x4A13 x4n13 x4c13] ∧
  SetVC w78 ⟨g2, 0, none⟩ (.int .i64 x018) fun w96 =>
  SetVC w96 ⟨g2, 1, none⟩ (.int .i64 x122) fun w97 =>
  SetVC w97 ⟨g2, 2, none⟩ (.int .i64 x218) fun w98 =>
  SetVC w98 ⟨g2, 3, none⟩ (.int .i64 x318) fun w99 =>
  SetVC w99 ⟨g2, 4, none⟩ (.slice x4A13 x4n13 x4c13) fun w100 =>
  ∃ res013 : Int, ∃ res113 : Int, ∃ res213 : Int, ∃ res313 : Int, ∃ (res4A13 : Option Addr) (res4n13 res4c13 : Nat), CellsAt w100 ⟨g2, 0, none⟩ 0 [.int .i64 res013, .int .i64 res113, .int .i64 res213, .int .i64 res313, .slice res4A13 res4n13 res4c13] ∧
  R (.returned (.tuple #[.agg #[.int .i64 res013, .int .i64 res113, .int .i64 res213, .int .i64 res313, .slice res4A13 res4n13 res4c13], .int .i64 0])) w100))
set_option maxRecDepth 100000 in
def weirref8_PutND_J255 (R : Ending → World → Prop) (g1 : Nat) (g2 : Nat) (g4 : Nat)  (w77 : World) : Prop :=
  LoopVC (S := Int) (fun s w78 K4090 => weirref8_PutND_L4090 R g1 g2 g4 s w78 K4090) 0 w77
set_option maxRecDepth 100000 in
def weirref8_PutND_J127 (R : Ending → World → Prop) (g1 : Nat) (g2 : Nat) (g4 : Nat)  (w75 : World) : Prop :=
  JoinVC (S := Unit) (fun J255 =>
      ∃ x58 : Bool, w75.cell? ⟨g1, 20, none⟩ = some (.bool x58) ∧
      Br x58
        (∃ x59 : Int, w75.cell? ⟨g4, 3, none⟩ = some (.int .i64 x59) ∧
        SetVC w75 ⟨g4, 3, none⟩ (.int .i64 (IntKind.i64.wrap (x59 + 536870912))) fun w76 =>
        J255 () w76)
        (J255 () w75))
    (fun _ w77 => weirref8_PutND_J255 R g1 g2 g4 w77)
set_option maxRecDepth 100000 in
def weirref8_PutND_J63 (R : Ending → World → Prop) (g1 : Nat) (g2 : Nat) (g4 : Nat)  (w73 : World) : Prop :=
  JoinVC (S := Unit) (fun J127 =>
      ∃ x56 : Bool, w73.cell? ⟨g1, 19, none⟩ = some (.bool x56) ∧
      Br x56
        (∃ x57 : Int, w73.cell? ⟨g4, 3, none⟩ = some (.int .i64 x57) ∧
        SetVC w73 ⟨g4, 3, none⟩ (.int .i64 (IntKind.i64.wrap (x57 + 1073741824))) fun w74 =>
        J127 () w74)
        (J127 () w73))
    (fun _ w75 => weirref8_PutND_J127 R g1 g2 g4 w75)
set_option maxRecDepth 100000 in
def weirref8_PutND_J7 (R : Ending → World → Prop) (g1 : Nat) (g2 : Nat) (g3 : Nat)  (w59 : World) : Prop :=
  ∃ x015 : Int, ∃ x117 : Int, ∃ x215 : Int, ∃ x315 : Int, ∃ x46 : Int, ∃ x55 : Int, ∃ x61 : Int, ∃ x71 : Int, ∃ x81 : Int, ∃ x91 : Int, ∃ x101 : Int, ∃ x118 : Int, ∃ x121 : Int, ∃ x131 : Int, ∃ x141 : Int, ∃ x151 : Int, ∃ x161 : Int, CellsAt w59 ⟨g1, 1, none⟩ 0 [.int .i64 x015, .int .u8 x117, .int .u8 x215, .int .u8 x315, .int .u8 x46, .int .u8 x55, .int .u8 x61, .int .u8 x71, .int .u8 x81, .int .u8 x91, .int .u8 x101, .int .u8 x118, .int .u8 x121, .int .u8 x131, .int .u8 x141, .int .u8 x151, .int .u8 x161] ∧
  Calls Tryd.prog 53 #[.agg #[.int .i64 x015, .int .u8 x117, .int .u8 x215, .int .u8 x315, .int .u8 x46, .int .u8 x55, .int .u8 x61, .int .u8 x71, .int .u8 x81, .int .u8 x91, .int .u8 x101, .int .u8 x118, .int .u8 x121, .int .u8 x131, .int .u8 x141, .int .u8 x151, .int .u8 x161]] w59 (onRet (fun r_ w60 => ∃ x47 : Bool, r_ = .bool x47 ∧
  Br (!x47)
    (∃ x016 : Int, ∃ x119 : Int, ∃ x216 : Int, ∃ x316 : Int, ∃ (x4A11 : Option Addr) (x4n11 x4c11 : Nat), CellsAt w60 ⟨g3, 0, none⟩ 0 [.int .i64 x016, .int .i64 x119, .int .i64 x216, .int .i64 x316, .slice x4A11 x4n11 x4c11] ∧
    SetVC w60 ⟨g2, 0, none⟩ (.int .i64 x016) fun w61 =>
    SetVC w61 ⟨g2, 1, none⟩ (.int .i64 x119) fun w62 =>
    SetVC w62 ⟨g2, 2, none⟩ (.int .i64 x216) fun w63 =>
    SetVC w63 ⟨g2, 3, none⟩ (.int .i64 x316) fun w64 =>
    SetVC w64 ⟨g2, 4, none⟩ (.slice x4A11 x4n11 x4c11) fun w65 =>
    ∃ res011 : Int, ∃ res111 : Int, ∃ res211 : Int, ∃ res311 : Int, ∃ (res4A11 : Option Addr) (res4n11 res4c11 : Nat), CellsAt w65 ⟨g2, 0, none⟩ 0 [.int .i64 res011, .int .i64 res111, .int .i64 res211, .int .i64 res311, .slice res4A11 res4n11 res4c11] ∧
  R (.returned (.tuple #[.agg #[.int .i64 res011, .int .i64 res111, .int .i64 res211, .int .i64 res311, .slice res4A11 res4n11 res4c11], .int .i64 86])) w65)
    (∃ x48 : Int, w60.cell? ⟨g1, 0, none⟩ = some (.int .i64 x48) ∧
  NewVC w60 (.cells #[.int .i64 0, .int .i64 0, .int .i64 0, .int .i64 0, .slice none 0 0] 24) fun g4 w66 =>
  SetVC w66 ⟨g4, 0, none⟩ (.int .i64 6) fun w67 =>
  SetVC w67 ⟨g4, 1, none⟩ (.int .i64 (IntKind.i64.wrap (134 + x48))) fun w68 =>
  SetVC w68 ⟨g4, 2, none⟩ (.int .i64 0) fun w69 =>
  SetVC w69 ⟨g4, 3, none⟩ (.int .i64 0) fun w70 =>
  SetVC w70 ⟨g4, 4, none⟩ (.slice none 0 0) fun w71 =>
  JoinVC (S := Unit) (fun J63 =>
      ∃ x49 : Bool, w71.cell? ⟨g1, 18, none⟩ = some (.bool x49) ∧
      Br x49
        (∃ x50 : Int, w71.cell? ⟨g4, 3, none⟩ = some (.int .i64 x50) ∧
        SetVC w71 ⟨g4, 3, none⟩ (.int .i64 (IntKind.i64.wrap (x50 + 2147483648))) fun w72 =>
        J63 () w72)
        (J63 () w71))
    (fun _ w73 => weirref8_PutND_J63 R g1 g2 g4 w73)))
    (fun ch w60 => R (.panicked ch) w60))
set_option maxRecDepth 100000 in
def weirref8_PutND_VC (n_Kind : Int) (n_TargetV : Int) (n_TargetA0_ : Int) (n_TargetA1_ : Int) (n_TargetA2_ : Int) (n_TargetA3_ : Int) (n_TargetA4_ : Int) (n_TargetA5_ : Int) (n_TargetA6_ : Int) (n_TargetA7_ : Int) (n_TargetA8_ : Int) (n_TargetA9_ : Int) (n_TargetA10_ : Int) (n_TargetA11_ : Int) (n_TargetA12_ : Int) (n_TargetA13_ : Int) (n_TargetA14_ : Int) (n_TargetA15_ : Int) (n_Router : Bool) (n_Solicited : Bool) (n_Override : Bool) (n_HasMac : Bool) (n_Mac0_ : Int) (n_Mac1_ : Int) (n_Mac2_ : Int) (n_Mac3_ : Int) (n_Mac4_ : Int) (n_Mac5_ : Int) (w : World) (R : Ending → World → Prop) : Prop :=
  NewVC w (.cells #[.int .i64 n_Kind, .int .i64 n_TargetV, .int .u8 n_TargetA0_, .int .u8 n_TargetA1_, .int .u8 n_TargetA2_, .int .u8 n_TargetA3_, .int .u8 n_TargetA4_, .int .u8 n_TargetA5_, .int .u8 n_TargetA6_, .int .u8 n_TargetA7_, .int .u8 n_TargetA8_, .int .u8 n_TargetA9_, .int .u8 n_TargetA10_, .int .u8 n_TargetA11_, .int .u8 n_TargetA12_, .int .u8 n_TargetA13_, .int .u8 n_TargetA14_, .int .u8 n_TargetA15_, .bool n_Router, .bool n_Solicited, .bool n_Override, .bool n_HasMac, .int .u8 n_Mac0_, .int .u8 n_Mac1_, .int .u8 n_Mac2_, .int .u8 n_Mac3_, .int .u8 n_Mac4_, .int .u8 n_Mac5_] 35) fun g1 w1 =>
  NewVC w1 (.cells #[.int .i64 0, .int .i64 0, .int .i64 0, .int .i64 0, .slice none 0 0] 24) fun g2 w2 =>
  NewVC w2 (.cells #[.int .i64 0, .int .i64 0, .int .i64 0, .int .i64 0, .slice none 0 0] 24) fun g3 w3 =>
  JoinVC (S := Unit) (fun J7 =>
      ∃ x : Int, w3.cell? ⟨g1, 0, none⟩ = some (.int .i64 x) ∧
      Br (decide (x ≠ 1))
        (∃ x1 : Int, w3.cell? ⟨g1, 0, none⟩ = some (.int .i64 x1) ∧
        Br (decide (x1 ≠ 2))
          (∃ x0 : Int, ∃ x11 : Int, ∃ x2 : Int, ∃ x3 : Int, ∃ (x4A : Option Addr) (x4n x4c : Nat), CellsAt w3 ⟨g3, 0, none⟩ 0 [.int .i64 x0, .int .i64 x11, .int .i64 x2, .int .i64 x3, .slice x4A x4n x4c] ∧
      SetVC w3 ⟨g2, 0, none⟩ (.int .i64 x0) fun w4 =>
      SetVC w4 ⟨g2, 1, none⟩ (.int .i64 x11) fun w5 =>
      SetVC w5 ⟨g2, 2, none⟩ (.int .i64 x2) fun w6 =>
      SetVC w6 ⟨g2, 3, none⟩ (.int .i64 x3) fun w7 =>
      SetVC w7 ⟨g2, 4, none⟩ (.slice x4A x4n x4c) fun w8 =>
      ∃ res0 : Int, ∃ res1 : Int, ∃ res2 : Int, ∃ res3 : Int, ∃ (res4A : Option Addr) (res4n res4c : Nat), CellsAt w8 ⟨g2, 0, none⟩ 0 [.int .i64 res0, .int .i64 res1, .int .i64 res2, .int .i64 res3, .slice res4A res4n res4c] ∧
  R (.returned (.tuple #[.agg #[.int .i64 res0, .int .i64 res1, .int .i64 res2, .int .i64 res3, .slice res4A res4n res4c], .int .i64 1])) w8)
          (∃ x4 : Int, w3.cell? ⟨g1, 0, none⟩ = some (.int .i64 x4) ∧
          Br (decide (x4 = 1))
            (∃ x5 : Bool, w3.cell? ⟨g1, 18, none⟩ = some (.bool x5) ∧
            Br x5
              (∃ x01 : Int, ∃ x12 : Int, ∃ x21 : Int, ∃ x31 : Int, ∃ (x4A1 : Option Addr) (x4n1 x4c1 : Nat), CellsAt w3 ⟨g3, 0, none⟩ 0 [.int .i64 x01, .int .i64 x12, .int .i64 x21, .int .i64 x31, .slice x4A1 x4n1 x4c1] ∧
      SetVC w3 ⟨g2, 0, none⟩ (.int .i64 x01) fun w9 =>
      SetVC w9 ⟨g2, 1, none⟩ (.int .i64 x12) fun w10 =>
      SetVC w10 ⟨g2, 2, none⟩ (.int .i64 x21) fun w11 =>
      SetVC w11 ⟨g2, 3, none⟩ (.int .i64 x31) fun w12 =>
      SetVC w12 ⟨g2, 4, none⟩ (.slice x4A1 x4n1 x4c1) fun w13 =>
      ∃ res01 : Int, ∃ res11 : Int, ∃ res21 : Int, ∃ res31 : Int, ∃ (res4A1 : Option Addr) (res4n1 res4c1 : Nat), CellsAt w13 ⟨g2, 0, none⟩ 0 [.int .i64 res01, .int .i64 res11, .int .i64 res21, .int .i64 res31, .slice res4A1 res4n1 res4c1] ∧
  R (.returned (.tuple #[.agg #[.int .i64 res01, .int .i64 res11, .int .i64 res21, .int .i64 res31, .slice res4A1 res4n1 res4c1], .int .i64 1])) w13)
              (∃ x6 : Bool, w3.cell? ⟨g1, 19, none⟩ = some (.bool x6) ∧
              Br x6
                (∃ x02 : Int, ∃ x13 : Int, ∃ x22 : Int, ∃ x32 : Int, ∃ (x4A2 : Option Addr) (x4n2 x4c2 : Nat), CellsAt w3 ⟨g3, 0, none⟩ 0 [.int .i64 x02, .int .i64 x13, .int .i64 x22, .int .i64 x32, .slice x4A2 x4n2 x4c2] ∧
      SetVC w3 ⟨g2, 0, none⟩ (.int .i64 x02) fun w14 =>
      SetVC w14 ⟨g2, 1, none⟩ (.int .i64 x13) fun w15 =>
      SetVC w15 ⟨g2, 2, none⟩ (.int .i64 x22) fun w16 =>
      SetVC w16 ⟨g2, 3, none⟩ (.int .i64 x32) fun w17 =>
      SetVC w17 ⟨g2, 4, none⟩ (.slice x4A2 x4n2 x4c2) fun w18 =>
      ∃ res02 : Int, ∃ res12 : Int, ∃ res22 : Int, ∃ res32 : Int, ∃ (res4A2 : Option Addr) (res4n2 res4c2 : Nat), CellsAt w18 ⟨g2, 0, none⟩ 0 [.int .i64 res02, .int .i64 res12, .int .i64 res22, .int .i64 res32, .slice res4A2 res4n2 res4c2] ∧
  R (.returned (.tuple #[.agg #[.int .i64 res02, .int .i64 res12, .int .i64 res22, .int .i64 res32, .slice res4A2 res4n2 res4c2], .int .i64 1])) w18)
                (∃ x7 : Bool, w3.cell? ⟨g1, 20, none⟩ = some (.bool x7) ∧
                Br x7
                  (∃ x03 : Int, ∃ x14 : Int, ∃ x23 : Int, ∃ x33 : Int, ∃ (x4A3 : Option Addr) (x4n3 x4c3 : Nat), CellsAt w3 ⟨g3, 0, none⟩ 0 [.int .i64 x03, .int .i64 x14, .int .i64 x23, .int .i64 x33, .slice x4A3 x4n3 x4c3] ∧
      SetVC w3 ⟨g2, 0, none⟩ (.int .i64 x03) fun w19 =>
      SetVC w19 ⟨g2, 1, none⟩ (.int .i64 x14) fun w20 =>
      SetVC w20 ⟨g2, 2, none⟩ (.int .i64 x23) fun w21 =>
      SetVC w21 ⟨g2, 3, none⟩ (.int .i64 x33) fun w22 =>
      SetVC w22 ⟨g2, 4, none⟩ (.slice x4A3 x4n3 x4c3) fun w23 =>
      ∃ res03 : Int, ∃ res13 : Int, ∃ res23 : Int, ∃ res33 : Int, ∃ (res4A3 : Option Addr) (res4n3 res4c3 : Nat), CellsAt w23 ⟨g2, 0, none⟩ 0 [.int .i64 res03, .int .i64 res13, .int .i64 res23, .int .i64 res33, .slice res4A3 res4n3 res4c3] ∧
  R (.returned (.tuple #[.agg #[.int .i64 res03, .int .i64 res13, .int .i64 res23, .int .i64 res33, .slice res4A3 res4n3 res4c3], .int .i64 1])) w23)
                  (∃ x8 : Bool, w3.cell? ⟨g1, 21, none⟩ = some (.bool x8) ∧
                  Br (!x8)
                    (∃ x04 : Int, ∃ x15 : Int, ∃ x24 : Int, ∃ x34 : Int, ∃ x41 : Int, ∃ x51 : Int, CellsAt w3 ⟨g1, 22, none⟩ 0 [.int .u8 x04, .int .u8 x15, .int .u8 x24, .int .u8 x34, .int .u8 x41, .int .u8 x51] ∧
                    Br (!(((decide (x04 = 0)) && ((decide (x15 = 0)) && ((decide (x24 = 0)) && ((decide (x34 = 0)) && ((decide (x41 = 0)) && ((decide (x51 = 0)) && true))))))))
        (∃ x05 : Int, ∃ x16 : Int, ∃ x25 : Int, ∃ x35 : Int, ∃ (x4A4 : Option Addr) (x4n4 x4c4 : Nat), CellsAt w3 ⟨g3, 0, none⟩ 0 [.int .i64 x05, .int .i64 x16, .int .i64 x25, .int .i64 x35, .slice x4A4 x4n4 x4c4] ∧
        SetVC w3 ⟨g2, 0, none⟩ (.int .i64 x05) fun w24 =>
        SetVC w24 ⟨g2, 1, none⟩ (.int .i64 x16) fun w25 =>
        SetVC w25 ⟨g2, 2, none⟩ (.int .i64 x25) fun w26 =>
        SetVC w26 ⟨g2, 3, none⟩ (.int .i64 x35) fun w27 =>
        SetVC w27 ⟨g2, 4, none⟩ (.slice x4A4 x4n4 x4c4) fun w28 =>
        ∃ res04 : Int, ∃ res14 : Int, ∃ res24 : Int, ∃ res34 : Int, ∃ (res4A4 : Option Addr) (res4n4 res4c4 : Nat), CellsAt w28 ⟨g2, 0, none⟩ 0 [.int .i64 res04, .int .i64 res14, .int .i64 res24, .int .i64 res34, .slice res4A4 res4n4 res4c4] ∧
  R (.returned (.tuple #[.agg #[.int .i64 res04, .int .i64 res14, .int .i64 res24, .int .i64 res34, .slice res4A4 res4n4 res4c4], .int .i64 1])) w28)
        (J7 () w3))
                    (J7 () w3)))))
            (∃ x9 : Bool, w3.cell? ⟨g1, 21, none⟩ = some (.bool x9) ∧
            Br (!x9)
              (∃ x06 : Int, ∃ x17 : Int, ∃ x26 : Int, ∃ x36 : Int, ∃ x42 : Int, ∃ x52 : Int, CellsAt w3 ⟨g1, 22, none⟩ 0 [.int .u8 x06, .int .u8 x17, .int .u8 x26, .int .u8 x36, .int .u8 x42, .int .u8 x52] ∧
              Br (!(((decide (x06 = 0)) && ((decide (x17 = 0)) && ((decide (x26 = 0)) && ((decide (x36 = 0)) && ((decide (x42 = 0)) && ((decide (x52 = 0)) && true))))))))
        (∃ x07 : Int, ∃ x18 : Int, ∃ x27 : Int, ∃ x37 : Int, ∃ (x4A5 : Option Addr) (x4n5 x4c5 : Nat), CellsAt w3 ⟨g3, 0, none⟩ 0 [.int .i64 x07, .int .i64 x18, .int .i64 x27, .int .i64 x37, .slice x4A5 x4n5 x4c5] ∧
        SetVC w3 ⟨g2, 0, none⟩ (.int .i64 x07) fun w29 =>
        SetVC w29 ⟨g2, 1, none⟩ (.int .i64 x18) fun w30 =>
        SetVC w30 ⟨g2, 2, none⟩ (.int .i64 x27) fun w31 =>
        SetVC w31 ⟨g2, 3, none⟩ (.int .i64 x37) fun w32 =>
        SetVC w32 ⟨g2, 4, none⟩ (.slice x4A5 x4n5 x4c5) fun w33 =>
        ∃ res05 : Int, ∃ res15 : Int, ∃ res25 : Int, ∃ res35 : Int, ∃ (res4A5 : Option Addr) (res4n5 res4c5 : Nat), CellsAt w33 ⟨g2, 0, none⟩ 0 [.int .i64 res05, .int .i64 res15, .int .i64 res25, .int .i64 res35, .slice res4A5 res4n5 res4c5] ∧
  R (.returned (.tuple #[.agg #[.int .i64 res05, .int .i64 res15, .int .i64 res25, .int .i64 res35, .slice res4A5 res4n5 res4c5], .int .i64 1])) w33)
        (J7 () w3))
              (J7 () w3))))
        (∃ x10 : Int, w3.cell? ⟨g1, 0, none⟩ = some (.int .i64 x10) ∧
        Br (decide (x10 = 1))
          (∃ x19 : Bool, w3.cell? ⟨g1, 18, none⟩ = some (.bool x19) ∧
          Br x19
            (∃ x08 : Int, ∃ x110 : Int, ∃ x28 : Int, ∃ x38 : Int, ∃ (x4A6 : Option Addr) (x4n6 x4c6 : Nat), CellsAt w3 ⟨g3, 0, none⟩ 0 [.int .i64 x08, .int .i64 x110, .int .i64 x28, .int .i64 x38, .slice x4A6 x4n6 x4c6] ∧
      SetVC w3 ⟨g2, 0, none⟩ (.int .i64 x08) fun w34 =>
      SetVC w34 ⟨g2, 1, none⟩ (.int .i64 x110) fun w35 =>
      SetVC w35 ⟨g2, 2, none⟩ (.int .i64 x28) fun w36 =>
      SetVC w36 ⟨g2, 3, none⟩ (.int .i64 x38) fun w37 =>
      SetVC w37 ⟨g2, 4, none⟩ (.slice x4A6 x4n6 x4c6) fun w38 =>
      ∃ res06 : Int, ∃ res16 : Int, ∃ res26 : Int, ∃ res36 : Int, ∃ (res4A6 : Option Addr) (res4n6 res4c6 : Nat), CellsAt w38 ⟨g2, 0, none⟩ 0 [.int .i64 res06, .int .i64 res16, .int .i64 res26, .int .i64 res36, .slice res4A6 res4n6 res4c6] ∧
  R (.returned (.tuple #[.agg #[.int .i64 res06, .int .i64 res16, .int .i64 res26, .int .i64 res36, .slice res4A6 res4n6 res4c6], .int .i64 1])) w38)
            (∃ x20 : Bool, w3.cell? ⟨g1, 19, none⟩ = some (.bool x20) ∧
            Br x20
              (∃ x09 : Int, ∃ x111 : Int, ∃ x29 : Int, ∃ x39 : Int, ∃ (x4A7 : Option Addr) (x4n7 x4c7 : Nat), CellsAt w3 ⟨g3, 0, none⟩ 0 [.int .i64 x09, .int .i64 x111, .int .i64 x29, .int .i64 x39, .slice x4A7 x4n7 x4c7] ∧
      SetVC w3 ⟨g2, 0, none⟩ (.int .i64 x09) fun w39 =>
      SetVC w39 ⟨g2, 1, none⟩ (.int .i64 x111) fun w40 =>
      SetVC w40 ⟨g2, 2, none⟩ (.int .i64 x29) fun w41 =>
      SetVC w41 ⟨g2, 3, none⟩ (.int .i64 x39) fun w42 =>
      SetVC w42 ⟨g2, 4, none⟩ (.slice x4A7 x4n7 x4c7) fun w43 =>
      ∃ res07 : Int, ∃ res17 : Int, ∃ res27 : Int, ∃ res37 : Int, ∃ (res4A7 : Option Addr) (res4n7 res4c7 : Nat), CellsAt w43 ⟨g2, 0, none⟩ 0 [.int .i64 res07, .int .i64 res17, .int .i64 res27, .int .i64 res37, .slice res4A7 res4n7 res4c7] ∧
  R (.returned (.tuple #[.agg #[.int .i64 res07, .int .i64 res17, .int .i64 res27, .int .i64 res37, .slice res4A7 res4n7 res4c7], .int .i64 1])) w43)
              (∃ x30 : Bool, w3.cell? ⟨g1, 20, none⟩ = some (.bool x30) ∧
              Br x30
                (∃ x010 : Int, ∃ x112 : Int, ∃ x210 : Int, ∃ x310 : Int, ∃ (x4A8 : Option Addr) (x4n8 x4c8 : Nat), CellsAt w3 ⟨g3, 0, none⟩ 0 [.int .i64 x010, .int .i64 x112, .int .i64 x210, .int .i64 x310, .slice x4A8 x4n8 x4c8] ∧
      SetVC w3 ⟨g2, 0, none⟩ (.int .i64 x010) fun w44 =>
      SetVC w44 ⟨g2, 1, none⟩ (.int .i64 x112) fun w45 =>
      SetVC w45 ⟨g2, 2, none⟩ (.int .i64 x210) fun w46 =>
      SetVC w46 ⟨g2, 3, none⟩ (.int .i64 x310) fun w47 =>
      SetVC w47 ⟨g2, 4, none⟩ (.slice x4A8 x4n8 x4c8) fun w48 =>
      ∃ res08 : Int, ∃ res18 : Int, ∃ res28 : Int, ∃ res38 : Int, ∃ (res4A8 : Option Addr) (res4n8 res4c8 : Nat), CellsAt w48 ⟨g2, 0, none⟩ 0 [.int .i64 res08, .int .i64 res18, .int .i64 res28, .int .i64 res38, .slice res4A8 res4n8 res4c8] ∧
  R (.returned (.tuple #[.agg #[.int .i64 res08, .int .i64 res18, .int .i64 res28, .int .i64 res38, .slice res4A8 res4n8 res4c8], .int .i64 1])) w48)
                (∃ x40 : Bool, w3.cell? ⟨g1, 21, none⟩ = some (.bool x40) ∧
                Br (!x40)
                  (∃ x011 : Int, ∃ x113 : Int, ∃ x211 : Int, ∃ x311 : Int, ∃ x43 : Int, ∃ x53 : Int, CellsAt w3 ⟨g1, 22, none⟩ 0 [.int .u8 x011, .int .u8 x113, .int .u8 x211, .int .u8 x311, .int .u8 x43, .int .u8 x53] ∧
                  Br (!(((decide (x011 = 0)) && ((decide (x113 = 0)) && ((decide (x211 = 0)) && ((decide (x311 = 0)) && ((decide (x43 = 0)) && ((decide (x53 = 0)) && true))))))))
        (∃ x012 : Int, ∃ x114 : Int, ∃ x212 : Int, ∃ x312 : Int, ∃ (x4A9 : Option Addr) (x4n9 x4c9 : Nat), CellsAt w3 ⟨g3, 0, none⟩ 0 [.int .i64 x012, .int .i64 x114, .int .i64 x212, .int .i64 x312, .slice x4A9 x4n9 x4c9] ∧
        SetVC w3 ⟨g2, 0, none⟩ (.int .i64 x012) fun w49 =>
        SetVC w49 ⟨g2, 1, none⟩ (.int .i64 x114) fun w50 =>
        SetVC w50 ⟨g2, 2, none⟩ (.int .i64 x212) fun w51 =>
        SetVC w51 ⟨g2, 3, none⟩ (.int .i64 x312) fun w52 =>
        SetVC w52 ⟨g2, 4, none⟩ (.slice x4A9 x4n9 x4c9) fun w53 =>
        ∃ res09 : Int, ∃ res19 : Int, ∃ res29 : Int, ∃ res39 : Int, ∃ (res4A9 : Option Addr) (res4n9 res4c9 : Nat), CellsAt w53 ⟨g2, 0, none⟩ 0 [.int .i64 res09, .int .i64 res19, .int .i64 res29, .int .i64 res39, .slice res4A9 res4n9 res4c9] ∧
  R (.returned (.tuple #[.agg #[.int .i64 res09, .int .i64 res19, .int .i64 res29, .int .i64 res39, .slice res4A9 res4n9 res4c9], .int .i64 1])) w53)
        (J7 () w3))
                  (J7 () w3)))))
          (∃ x44 : Bool, w3.cell? ⟨g1, 21, none⟩ = some (.bool x44) ∧
          Br (!x44)
            (∃ x013 : Int, ∃ x115 : Int, ∃ x213 : Int, ∃ x313 : Int, ∃ x45 : Int, ∃ x54 : Int, CellsAt w3 ⟨g1, 22, none⟩ 0 [.int .u8 x013, .int .u8 x115, .int .u8 x213, .int .u8 x313, .int .u8 x45, .int .u8 x54] ∧
            Br (!(((decide (x013 = 0)) && ((decide (x115 = 0)) && ((decide (x213 = 0)) && ((decide (x313 = 0)) && ((decide (x45 = 0)) && ((decide (x54 = 0)) && true))))))))
        (∃ x014 : Int, ∃ x116 : Int, ∃ x214 : Int, ∃ x314 : Int, ∃ (x4A10 : Option Addr) (x4n10 x4c10 : Nat), CellsAt w3 ⟨g3, 0, none⟩ 0 [.int .i64 x014, .int .i64 x116, .int .i64 x214, .int .i64 x314, .slice x4A10 x4n10 x4c10] ∧
        SetVC w3 ⟨g2, 0, none⟩ (.int .i64 x014) fun w54 =>
        SetVC w54 ⟨g2, 1, none⟩ (.int .i64 x116) fun w55 =>
        SetVC w55 ⟨g2, 2, none⟩ (.int .i64 x214) fun w56 =>
        SetVC w56 ⟨g2, 3, none⟩ (.int .i64 x314) fun w57 =>
        SetVC w57 ⟨g2, 4, none⟩ (.slice x4A10 x4n10 x4c10) fun w58 =>
        ∃ res010 : Int, ∃ res110 : Int, ∃ res210 : Int, ∃ res310 : Int, ∃ (res4A10 : Option Addr) (res4n10 res4c10 : Nat), CellsAt w58 ⟨g2, 0, none⟩ 0 [.int .i64 res010, .int .i64 res110, .int .i64 res210, .int .i64 res310, .slice res4A10 res4n10 res4c10] ∧
  R (.returned (.tuple #[.agg #[.int .i64 res010, .int .i64 res110, .int .i64 res210, .int .i64 res310, .slice res4A10 res4n10 res4c10], .int .i64 1])) w58)
        (J7 () w3))
            (J7 () w3))))
    (fun _ w59 => weirref8_PutND_J7 R g1 g2 g3 w59)
def weirref8_PutND_H : Hints := [(7, []), (63, []), (127, []), (255, []), (4090, [(6, .int .i64)]), (65494, [(7, .int .i64)])]
set_option maxRecDepth 100000 in
theorem weirref8_PutND_of (n_Kind : Int) (n_TargetV : Int) (n_TargetA0_ : Int) (n_TargetA1_ : Int) (n_TargetA2_ : Int) (n_TargetA3_ : Int) (n_TargetA4_ : Int) (n_TargetA5_ : Int) (n_TargetA6_ : Int) (n_TargetA7_ : Int) (n_TargetA8_ : Int) (n_TargetA9_ : Int) (n_TargetA10_ : Int) (n_TargetA11_ : Int) (n_TargetA12_ : Int) (n_TargetA13_ : Int) (n_TargetA14_ : Int) (n_TargetA15_ : Int) (n_Router : Bool) (n_Solicited : Bool) (n_Override : Bool) (n_HasMac : Bool) (n_Mac0_ : Int) (n_Mac1_ : Int) (n_Mac2_ : Int) (n_Mac3_ : Int) (n_Mac4_ : Int) (n_Mac5_ : Int) (w : World) (R : Ending → World → Prop) (h : weirref8_PutND_VC n_Kind n_TargetV n_TargetA0_ n_TargetA1_ n_TargetA2_ n_TargetA3_ n_TargetA4_ n_TargetA5_ n_TargetA6_ n_TargetA7_ n_TargetA8_ n_TargetA9_ n_TargetA10_ n_TargetA11_ n_TargetA12_ n_TargetA13_ n_TargetA14_ n_TargetA15_ n_Router n_Solicited n_Override n_HasMac n_Mac0_ n_Mac1_ n_Mac2_ n_Mac3_ n_Mac4_ n_Mac5_ w R) :
    Calls Tryd.prog 20 #[.agg #[.int .i64 n_Kind, .int .i64 n_TargetV, .int .u8 n_TargetA0_, .int .u8 n_TargetA1_, .int .u8 n_TargetA2_, .int .u8 n_TargetA3_, .int .u8 n_TargetA4_, .int .u8 n_TargetA5_, .int .u8 n_TargetA6_, .int .u8 n_TargetA7_, .int .u8 n_TargetA8_, .int .u8 n_TargetA9_, .int .u8 n_TargetA10_, .int .u8 n_TargetA11_, .int .u8 n_TargetA12_, .int .u8 n_TargetA13_, .int .u8 n_TargetA14_, .int .u8 n_TargetA15_, .bool n_Router, .bool n_Solicited, .bool n_Override, .bool n_HasMac, .int .u8 n_Mac0_, .int .u8 n_Mac1_, .int .u8 n_Mac2_, .int .u8 n_Mac3_, .int .u8 n_Mac4_, .int .u8 n_Mac5_]] w R :=
  calls_of_wpc callOk mixedOk (H := weirref8_PutND_H) (args := [.agg #[.int .i64 n_Kind, .int .i64 n_TargetV, .int .u8 n_TargetA0_, .int .u8 n_TargetA1_, .int .u8 n_TargetA2_, .int .u8 n_TargetA3_, .int .u8 n_TargetA4_, .int .u8 n_TargetA5_, .int .u8 n_TargetA6_, .int .u8 n_TargetA7_, .int .u8 n_TargetA8_, .int .u8 n_TargetA9_, .int .u8 n_TargetA10_, .int .u8 n_TargetA11_, .int .u8 n_TargetA12_, .int .u8 n_TargetA13_, .int .u8 n_TargetA14_, .int .u8 n_TargetA15_, .bool n_Router, .bool n_Solicited, .bool n_Override, .bool n_HasMac, .int .u8 n_Mac0_, .int .u8 n_Mac1_, .int .u8 n_Mac2_, .int .u8 n_Mac3_, .int .u8 n_Mac4_, .int .u8 n_Mac5_]]) (fn := Tryd.f20) (c := bodyOf Tryd.f20) Tryd.func20 rfl (Nat.le_of_ble_eq_true rfl)
    (Eq.mp (by kernel_rfl : weirref8_PutND_VC n_Kind n_TargetV n_TargetA0_ n_TargetA1_ n_TargetA2_ n_TargetA3_ n_TargetA4_ n_TargetA5_ n_TargetA6_ n_TargetA7_ n_TargetA8_ n_TargetA9_ n_TargetA10_ n_TargetA11_ n_TargetA12_ n_TargetA13_ n_TargetA14_ n_TargetA15_ n_Router n_Solicited n_Override n_HasMac n_Mac0_ n_Mac1_ n_Mac2_ n_Mac3_ n_Mac4_ n_Mac5_ w R = wpc Tryd.prog callF Tryd.f20.ntmps weirref8_PutND_H 1 (bodyOf Tryd.f20) (argEnv 0 [.agg #[.int .i64 n_Kind, .int .i64 n_TargetV, .int .u8 n_TargetA0_, .int .u8 n_TargetA1_, .int .u8 n_TargetA2_, .int .u8 n_TargetA3_, .int .u8 n_TargetA4_, .int .u8 n_TargetA5_, .int .u8 n_TargetA6_, .int .u8 n_TargetA7_, .int .u8 n_TargetA8_, .int .u8 n_TargetA9_, .int .u8 n_TargetA10_, .int .u8 n_TargetA11_, .int .u8 n_TargetA12_, .int .u8 n_TargetA13_, .int .u8 n_TargetA14_, .int .u8 n_TargetA15_, .bool n_Router, .bool n_Solicited, .bool n_Override, .bool n_HasMac, .int .u8 n_Mac0_, .int .u8 n_Mac1_, .int .u8 n_Mac2_, .int .u8 n_Mac3_, .int .u8 n_Mac4_, .int .u8 n_Mac5_]]) [] w (finish Tryd.prog callF Tryd.f20.results.toList R)) h)

set_option maxRecDepth 100000 in
def weirref8_Same_L58 (R : Ending → World → Prop) (g1 : Nat) (g2 : Nat) (i : Int) (w3 : World) (K58 : (Int → World → Prop)) : Prop :=
  ∃ (xA2 : Option Addr) (xn2 xc2 : Nat), w3.cell? ⟨g1, 4, none⟩ = some (.slice xA2 xn2 xc2) ∧
  Br (decide (i < (xn2 : Int)))
    (DrawVC w3 fun S1 w4 =>
  ∃ (xA3 : Option Addr) (xn3 xc3 : Nat), (∀ w' : World, S1 w' → w'.cell? ⟨g1, 4, none⟩ = some (.slice xA3 xn3 xc3)) ∧
  IdxVC xA3 xn3 1 i fun a =>
  ∃ x8 : Int, (∀ w' : World, S1 w' → w'.cell? a = some (.int .u8 x8)) ∧
  ∃ (xA4 : Option Addr) (xn4 xc4 : Nat), (∀ w' : World, S1 w' → w'.cell? ⟨g2, 4, none⟩ = some (.slice xA4 xn4 xc4)) ∧
  IdxVC xA4 xn4 1 i fun a1 =>
  ∃ x9 : Int, (∀ w' : World, S1 w' → w'.cell? a1 = some (.int .u8 x9)) ∧
  Br (decide (x8 ≠ x9))
    (R (.returned (.bool false)) w4)
    (K58 (IntKind.i64.wrap (i + 1)) w4))
    (R (.returned (.bool true)) w3)
set_option maxRecDepth 100000 in
def weirref8_Same_VC (a_V : Int) (a_Type : Int) (a_Code : Int) (a_Rest : Int) (a_DataA : Option Addr) (a_Datan : Nat) (a_Datac : Nat) (b_V : Int) (b_Type : Int) (b_Code : Int) (b_Rest : Int) (b_DataA : Option Addr) (b_Datan : Nat) (b_Datac : Nat) (w : World) (R : Ending → World → Prop) : Prop :=
  NewVC w (.cells #[.int .i64 a_V, .int .i64 a_Type, .int .i64 a_Code, .int .i64 a_Rest, .slice a_DataA a_Datan a_Datac] 24) fun g1 w1 =>
  NewVC w1 (.cells #[.int .i64 b_V, .int .i64 b_Type, .int .i64 b_Code, .int .i64 b_Rest, .slice b_DataA b_Datan b_Datac] 24) fun g2 w2 =>
  ∃ x : Int, w2.cell? ⟨g1, 0, none⟩ = some (.int .i64 x) ∧
  ∃ x1 : Int, w2.cell? ⟨g2, 0, none⟩ = some (.int .i64 x1) ∧
  Br (decide (x ≠ x1))
    (R (.returned (.bool false)) w2)
    (∃ x2 : Int, w2.cell? ⟨g1, 1, none⟩ = some (.int .i64 x2) ∧
    ∃ x3 : Int, w2.cell? ⟨g2, 1, none⟩ = some (.int .i64 x3) ∧
    Br (decide (x2 ≠ x3))
      (R (.returned (.bool false)) w2)
      (∃ x4 : Int, w2.cell? ⟨g1, 2, none⟩ = some (.int .i64 x4) ∧
      ∃ x5 : Int, w2.cell? ⟨g2, 2, none⟩ = some (.int .i64 x5) ∧
      Br (decide (x4 ≠ x5))
        (R (.returned (.bool false)) w2)
        (∃ x6 : Int, w2.cell? ⟨g1, 3, none⟩ = some (.int .i64 x6) ∧
        ∃ x7 : Int, w2.cell? ⟨g2, 3, none⟩ = some (.int .i64 x7) ∧
        Br (decide (x6 ≠ x7))
          (R (.returned (.bool false)) w2)
          (∃ (xA : Option Addr) (xn xc : Nat), w2.cell? ⟨g1, 4, none⟩ = some (.slice xA xn xc) ∧
          ∃ (xA1 : Option Addr) (xn1 xc1 : Nat), w2.cell? ⟨g2, 4, none⟩ = some (.slice xA1 xn1 xc1) ∧
          Br (decide ((xn : Int) ≠ (xn1 : Int)))
    (R (.returned (.bool false)) w2)
    (LoopVC (S := Int) (fun s w3 K58 => weirref8_Same_L58 R g1 g2 s w3 K58) 0 w2)))))
def weirref8_Same_H : Hints := [(58, [(5, .int .i64)])]
set_option maxRecDepth 100000 in
theorem weirref8_Same_of (a_V : Int) (a_Type : Int) (a_Code : Int) (a_Rest : Int) (a_DataA : Option Addr) (a_Datan : Nat) (a_Datac : Nat) (b_V : Int) (b_Type : Int) (b_Code : Int) (b_Rest : Int) (b_DataA : Option Addr) (b_Datan : Nat) (b_Datac : Nat) (w : World) (R : Ending → World → Prop) (h : weirref8_Same_VC a_V a_Type a_Code a_Rest a_DataA a_Datan a_Datac b_V b_Type b_Code b_Rest b_DataA b_Datan b_Datac w R) :
    Calls Tryd.prog 21 #[.agg #[.int .i64 a_V, .int .i64 a_Type, .int .i64 a_Code, .int .i64 a_Rest, .slice a_DataA a_Datan a_Datac], .agg #[.int .i64 b_V, .int .i64 b_Type, .int .i64 b_Code, .int .i64 b_Rest, .slice b_DataA b_Datan b_Datac]] w R :=
  calls_of_wpc callOk mixedOk (H := weirref8_Same_H) (args := [.agg #[.int .i64 a_V, .int .i64 a_Type, .int .i64 a_Code, .int .i64 a_Rest, .slice a_DataA a_Datan a_Datac], .agg #[.int .i64 b_V, .int .i64 b_Type, .int .i64 b_Code, .int .i64 b_Rest, .slice b_DataA b_Datan b_Datac]]) (fn := Tryd.f21) (c := bodyOf Tryd.f21) Tryd.func21 rfl (Nat.le_of_ble_eq_true rfl)
    (Eq.mp (by kernel_rfl : weirref8_Same_VC a_V a_Type a_Code a_Rest a_DataA a_Datan a_Datac b_V b_Type b_Code b_Rest b_DataA b_Datan b_Datac w R = wpc Tryd.prog callF Tryd.f21.ntmps weirref8_Same_H 1 (bodyOf Tryd.f21) (argEnv 0 [.agg #[.int .i64 a_V, .int .i64 a_Type, .int .i64 a_Code, .int .i64 a_Rest, .slice a_DataA a_Datan a_Datac], .agg #[.int .i64 b_V, .int .i64 b_Type, .int .i64 b_Code, .int .i64 b_Rest, .slice b_DataA b_Datan b_Datac]]) [] w (finish Tryd.prog callF Tryd.f21.results.toList R)) h)

set_option maxRecDepth 100000 in
def weirlaw8_marked_L26 (R : Ending → World → Prop) (lA : Option Addr) (ln : Nat) (lc : Nat) (m : Int) (i : Int) (w1 : World) (K26 : (Int → World → Prop)) : Prop :=
  Br (decide (i < (ln : Int)))
    (IdxVC lA ln 1 i fun a =>
  SetVC w1 a (.int .u8 m) fun w2 =>
  K26 (IntKind.i64.wrap (i + 1)) w2)
    (NewVC w1 (.cells #[.int .u8 m] 5) fun g1 w3 =>
  AppVC Tryd.prog #[22, 22] 22 (.slice lA ln lc) (.slice (some ⟨g1, 0, none⟩) 1 1) w3 fun lA1 ln1 lc1 w4 =>
  NewVC w4 (.cells #[.int .u8 m, .int .u8 m, .int .u8 m] 5) fun g2 w5 =>
  AppVC Tryd.prog #[22, 22] 22 (.slice lA ln lc) (.slice (some ⟨g2, 0, none⟩) 3 3) w5 fun lA2 ln2 lc2 w6 =>
  NewVC w6 (.cells #[.slice lA ln lc, .slice lA1 ln1 lc1, .slice lA2 ln2 lc2] 22) fun g3 w7 =>
  R (.returned (.slice (some ⟨g3, 0, none⟩) 3 3)) w7)
set_option maxRecDepth 100000 in
def weirlaw8_marked_VC (lA : Option Addr) (ln : Nat) (lc : Nat) (m : Int) (w : World) (R : Ending → World → Prop) : Prop :=
  LoopVC (S := Int) (fun s w1 K26 => weirlaw8_marked_L26 R lA ln lc m s w1 K26) 0 w
def weirlaw8_marked_H : Hints := [(26, [(5, .int .i64)])]
set_option maxRecDepth 100000 in
theorem weirlaw8_marked_of (lA : Option Addr) (ln : Nat) (lc : Nat) (m : Int) (w : World) (R : Ending → World → Prop) (h : weirlaw8_marked_VC lA ln lc m w R) :
    Calls Tryd.prog 22 #[.slice lA ln lc, .int .u8 m] w R :=
  calls_of_wpc callOk mixedOk (H := weirlaw8_marked_H) (args := [.slice lA ln lc, .int .u8 m]) (fn := Tryd.f22) (c := bodyOf Tryd.f22) Tryd.func22 rfl (Nat.le_of_ble_eq_true rfl)
    (Eq.mp (by kernel_rfl : weirlaw8_marked_VC lA ln lc m w R = wpc Tryd.prog callF Tryd.f22.ntmps weirlaw8_marked_H 1 (bodyOf Tryd.f22) (argEnv 0 [.slice lA ln lc, .int .u8 m]) [] w (finish Tryd.prog callF Tryd.f22.results.toList R)) h)

set_option maxRecDepth 100000 in
def weirlaw8_stand_L1682 (R : Ending → World → Prop) (lA : Option Addr) (ln : Nat) (m : Int) (i : Int) (K26 : (Int → World → Prop)) (k : Int) (w2 : World) (K1682 : (Int → World → Prop)) : Prop :=
  IdxVC lA ln 1 i fun a =>
  ∃ (xA : Option Addr) (xn xc : Nat), w2.cell? a = some (.slice xA xn xc) ∧
  Br (decide (k < (xn : Int)))
    (IdxVC lA ln 1 i fun a1 =>
  ∃ (xA1 : Option Addr) (xn1 xc1 : Nat), w2.cell? a1 = some (.slice xA1 xn1 xc1) ∧
  IdxVC xA1 xn1 1 k fun a2 =>
  ∃ x : Int, w2.cell? a2 = some (.int .u8 x) ∧
  Br (decide (x ≠ m))
    (R (.returned (.bool false)) w2)
    (K1682 (IntKind.i64.wrap (k + 1)) w2))
    (K26 (IntKind.i64.wrap (i + 1)) w2)
set_option maxRecDepth 100000 in
def weirlaw8_stand_L26 (R : Ending → World → Prop) (lA : Option Addr) (ln : Nat) (m : Int) (i : Int) (w1 : World) (K26 : (Int → World → Prop)) : Prop :=
  Br (decide (i < (ln : Int)))
    (LoopVC (S := Int) (fun s w2 K1682 => weirlaw8_stand_L1682 R lA ln m i K26 s w2 K1682) 0 w1)
    (R (.returned (.bool true)) w1)
set_option maxRecDepth 100000 in
def weirlaw8_stand_VC (lA : Option Addr) (ln : Nat) (_lc : Nat) (m : Int) (w : World) (R : Ending → World → Prop) : Prop :=
  LoopVC (S := Int) (fun s w1 K26 => weirlaw8_stand_L26 R lA ln m s w1 K26) 0 w
def weirlaw8_stand_H : Hints := [(26, [(5, .int .i64)]), (1682, [(6, .int .i64)])]
set_option maxRecDepth 100000 in
theorem weirlaw8_stand_of (lA : Option Addr) (ln : Nat) (lc : Nat) (m : Int) (w : World) (R : Ending → World → Prop) (h : weirlaw8_stand_VC lA ln lc m w R) :
    Calls Tryd.prog 23 #[.slice lA ln lc, .int .u8 m] w R :=
  calls_of_wpc callOk mixedOk (H := weirlaw8_stand_H) (args := [.slice lA ln lc, .int .u8 m]) (fn := Tryd.f23) (c := bodyOf Tryd.f23) Tryd.func23 rfl (Nat.le_of_ble_eq_true rfl)
    (Eq.mp (by kernel_rfl : weirlaw8_stand_VC lA ln lc m w R = wpc Tryd.prog callF Tryd.f23.ntmps weirlaw8_stand_H 1 (bodyOf Tryd.f23) (argEnv 0 [.slice lA ln lc, .int .u8 m]) [] w (finish Tryd.prog callF Tryd.f23.results.toList R)) h)

set_option maxRecDepth 100000 in
def icmp_Check_J12 (R : Ending → World → Prop) (g1 : Nat) (t3_ : Bool) (w2 : World) : Prop :=
  Br t3_
    (R (.returned (.int .i64 1)) w2)
    (∃ x2 : Int, w2.cell? ⟨g1, 1, none⟩ = some (.int .i64 x2) ∧
    Br (decide (x2 < 0))
      (R (.returned (.int .i64 82)) w2)
      (∃ x3 : Int, w2.cell? ⟨g1, 1, none⟩ = some (.int .i64 x3) ∧
      Br (decide ((255 : Int) < x3))
        (R (.returned (.int .i64 82)) w2)
        (∃ x4 : Int, w2.cell? ⟨g1, 2, none⟩ = some (.int .i64 x4) ∧
        Br (decide (x4 < 0))
          (R (.returned (.int .i64 82)) w2)
          (∃ x5 : Int, w2.cell? ⟨g1, 2, none⟩ = some (.int .i64 x5) ∧
          Br (decide ((255 : Int) < x5))
            (R (.returned (.int .i64 82)) w2)
            (∃ x6 : Int, w2.cell? ⟨g1, 3, none⟩ = some (.int .i64 x6) ∧
            Br (decide (x6 < 0))
              (R (.returned (.int .i64 82)) w2)
              (∃ x7 : Int, w2.cell? ⟨g1, 3, none⟩ = some (.int .i64 x7) ∧
              Br (decide ((4294967295 : Int) < x7))
      (R (.returned (.int .i64 82)) w2)
      (∃ (xA : Option Addr) (xn xc : Nat), w2.cell? ⟨g1, 4, none⟩ = some (.slice xA xn xc) ∧
      Br (decide ((65515 : Int) < IntKind.i64.wrap (8 + (xn : Int))))
        (R (.returned (.int .i64 2)) w2)
        (R (.returned (.int .i64 0)) w2))))))))
set_option maxRecDepth 100000 in
def icmp_Check_VC (m_V : Int) (m_Type : Int) (m_Code : Int) (m_Rest : Int) (m_DataA : Option Addr) (m_Datan : Nat) (m_Datac : Nat) (w : World) (R : Ending → World → Prop) : Prop :=
  NewVC w (.cells #[.int .i64 m_V, .int .i64 m_Type, .int .i64 m_Code, .int .i64 m_Rest, .slice m_DataA m_Datan m_Datac] 24) fun g1 w1 =>
  JoinVC (S := Bool) (fun J12 =>
      ∃ x : Int, w1.cell? ⟨g1, 0, none⟩ = some (.int .i64 x) ∧
      Br (decide (x ≠ 4))
        (∃ x1 : Int, w1.cell? ⟨g1, 0, none⟩ = some (.int .i64 x1) ∧
        J12 (decide (x1 ≠ 6)) w1)
        (J12 false w1))
    (fun s w2 => icmp_Check_J12 R g1 s w2)
def icmp_Check_H : Hints := [(12, [(3, .bool)])]
set_option maxRecDepth 100000 in
theorem icmp_Check_of (m_V : Int) (m_Type : Int) (m_Code : Int) (m_Rest : Int) (m_DataA : Option Addr) (m_Datan : Nat) (m_Datac : Nat) (w : World) (R : Ending → World → Prop) (h : icmp_Check_VC m_V m_Type m_Code m_Rest m_DataA m_Datan m_Datac w R) :
    Calls Tryd.prog 24 #[.agg #[.int .i64 m_V, .int .i64 m_Type, .int .i64 m_Code, .int .i64 m_Rest, .slice m_DataA m_Datan m_Datac]] w R :=
  calls_of_wpc callOk mixedOk (H := icmp_Check_H) (args := [.agg #[.int .i64 m_V, .int .i64 m_Type, .int .i64 m_Code, .int .i64 m_Rest, .slice m_DataA m_Datan m_Datac]]) (fn := Tryd.f24) (c := bodyOf Tryd.f24) Tryd.func24 rfl (Nat.le_of_ble_eq_true rfl)
    (Eq.mp (by kernel_rfl : icmp_Check_VC m_V m_Type m_Code m_Rest m_DataA m_Datan m_Datac w R = wpc Tryd.prog callF Tryd.f24.ntmps icmp_Check_H 1 (bodyOf Tryd.f24) (argEnv 0 [.agg #[.int .i64 m_V, .int .i64 m_Type, .int .i64 m_Code, .int .i64 m_Rest, .slice m_DataA m_Datan m_Datac]]) [] w (finish Tryd.prog callF Tryd.f24.results.toList R)) h)

set_option maxRecDepth 100000 in
def weirlaw8_awake_VC  (w : World) (R : Ending → World → Prop) : Prop :=
  Calls Tryd.prog 55 #[] w (onRet (fun r_ w1 => ∃ x : Bool, r_ = .bool x ∧
  Br (!x)
    (R (.returned (.bool false)) w1)
    (Calls Tryd.prog 56 #[] w1 (onRet (fun r_1 w2 => ∃ x0 : Int, ∃ x1 : Int, ∃ x2 : Int, ∃ x3 : Int, ∃ (x4A : Option Addr) (x4n x4c : Nat), r_1 = .agg #[.int .i64 x0, .int .i64 x1, .int .i64 x2, .int .i64 x3, .slice x4A x4n x4c] ∧
  Calls Tryd.prog 26 #[.agg #[.int .i64 0, .int .u8 0, .int .u8 0, .int .u8 0, .int .u8 0, .int .u8 0, .int .u8 0, .int .u8 0, .int .u8 0, .int .u8 0, .int .u8 0, .int .u8 0, .int .u8 0, .int .u8 0, .int .u8 0, .int .u8 0, .int .u8 0], .agg #[.int .i64 0, .int .u8 0, .int .u8 0, .int .u8 0, .int .u8 0, .int .u8 0, .int .u8 0, .int .u8 0, .int .u8 0, .int .u8 0, .int .u8 0, .int .u8 0, .int .u8 0, .int .u8 0, .int .u8 0, .int .u8 0, .int .u8 0], .agg #[.int .i64 x0, .int .i64 x1, .int .i64 x2, .int .i64 x3, .slice x4A x4n x4c]] w2 (onRet (fun r_2 w3 => ∃ (x0A : Option Addr) (x0n x0c : Nat), ∃ x11 : Int, r_2 = .tuple #[.slice x0A x0n x0c, .int .i64 x11] ∧
  NewVC w3 (.cells #[.int .u8 8, .int .u8 0, .int .u8 247, .int .u8 253, .int .u8 0, .int .u8 1, .int .u8 0, .int .u8 1] 5) fun g1 w4 =>
  Calls Tryd.prog 29 #[.int .i64 4, .agg #[.int .i64 0, .int .u8 0, .int .u8 0, .int .u8 0, .int .u8 0, .int .u8 0, .int .u8 0, .int .u8 0, .int .u8 0, .int .u8 0, .int .u8 0, .int .u8 0, .int .u8 0, .int .u8 0, .int .u8 0, .int .u8 0, .int .u8 0], .agg #[.int .i64 0, .int .u8 0, .int .u8 0, .int .u8 0, .int .u8 0, .int .u8 0, .int .u8 0, .int .u8 0, .int .u8 0, .int .u8 0, .int .u8 0, .int .u8 0, .int .u8 0, .int .u8 0, .int .u8 0, .int .u8 0, .int .u8 0], .slice (some ⟨g1, 0, none⟩) 8 8] w4 (onRet (fun r_3 w5 => ∃ x00 : Int, ∃ x01 : Int, ∃ x02 : Int, ∃ x03 : Int, ∃ (x04A : Option Addr) (x04n x04c : Nat), ∃ x12 : Int, r_3 = .tuple #[.agg #[.int .i64 x00, .int .i64 x01, .int .i64 x02, .int .i64 x03, .slice x04A x04n x04c], .int .i64 x12] ∧
  NewVC w5 (.cells #[.int .i64 0, .int .i64 0, .int .i64 0, .int .i64 0, .slice none 0 0] 24) fun g2 w6 =>
  SetVC w6 ⟨g2, 0, none⟩ (.int .i64 x00) fun w7 =>
  SetVC w7 ⟨g2, 1, none⟩ (.int .i64 x01) fun w8 =>
  SetVC w8 ⟨g2, 2, none⟩ (.int .i64 x02) fun w9 =>
  SetVC w9 ⟨g2, 3, none⟩ (.int .i64 x03) fun w10 =>
  SetVC w10 ⟨g2, 4, none⟩ (.slice x04A x04n x04c) fun w11 =>
  NewVC w11 (.cells #[.int .u8 8, .int .u8 0, .int .u8 247, .int .u8 254, .int .u8 0, .int .u8 1, .int .u8 0, .int .u8 1] 5) fun g3 w12 =>
  Calls Tryd.prog 29 #[.int .i64 4, .agg #[.int .i64 0, .int .u8 0, .int .u8 0, .int .u8 0, .int .u8 0, .int .u8 0, .int .u8 0, .int .u8 0, .int .u8 0, .int .u8 0, .int .u8 0, .int .u8 0, .int .u8 0, .int .u8 0, .int .u8 0, .int .u8 0, .int .u8 0], .agg #[.int .i64 0, .int .u8 0, .int .u8 0, .int .u8 0, .int .u8 0, .int .u8 0, .int .u8 0, .int .u8 0, .int .u8 0, .int .u8 0, .int .u8 0, .int .u8 0, .int .u8 0, .int .u8 0, .int .u8 0, .int .u8 0, .int .u8 0], .slice (some ⟨g3, 0, none⟩) 8 8] w12 (onRet (fun r_4 w13 => ∃ x001 : Int, ∃ x011 : Int, ∃ x021 : Int, ∃ x031 : Int, ∃ (x04A1 : Option Addr) (x04n1 x04c1 : Nat), ∃ x13 : Int, r_4 = .tuple #[.agg #[.int .i64 x001, .int .i64 x011, .int .i64 x021, .int .i64 x031, .slice x04A1 x04n1 x04c1], .int .i64 x13] ∧
  NewVC w13 (.cells #[.int .i64 0, .int .i64 0, .int .i64 0, .int .i64 0, .slice none 0 0] 24) fun g4 w14 =>
  SetVC w14 ⟨g4, 0, none⟩ (.int .i64 x001) fun w15 =>
  SetVC w15 ⟨g4, 1, none⟩ (.int .i64 x011) fun w16 =>
  SetVC w16 ⟨g4, 2, none⟩ (.int .i64 x021) fun w17 =>
  SetVC w17 ⟨g4, 3, none⟩ (.int .i64 x031) fun w18 =>
  SetVC w18 ⟨g4, 4, none⟩ (.slice x04A1 x04n1 x04c1) fun w19 =>
  DrawVC w19 fun S1 w20 =>
  Br (decide (x11 = 0))
    (Br (decide (x12 = 0))
      (Br (decide (x13 = 81))
        (∃ x04 : Int, ∃ x14 : Int, ∃ x21 : Int, ∃ x31 : Int, ∃ (x4A1 : Option Addr) (x4n1 x4c1 : Nat), (∀ w' : World, S1 w' → CellsAt w' ⟨g2, 0, none⟩ 0 [.int .i64 x04, .int .i64 x14, .int .i64 x21, .int .i64 x31, .slice x4A1 x4n1 x4c1]) ∧
        Calls Tryd.prog 56 #[] w20 (onRet (fun r_5 w21 => ∃ x05 : Int, ∃ x15 : Int, ∃ x22 : Int, ∃ x32 : Int, ∃ (x4A2 : Option Addr) (x4n2 x4c2 : Nat), r_5 = .agg #[.int .i64 x05, .int .i64 x15, .int .i64 x22, .int .i64 x32, .slice x4A2 x4n2 x4c2] ∧
        S1 w21 ∧
        Calls Tryd.prog 21 #[.agg #[.int .i64 x04, .int .i64 x14, .int .i64 x21, .int .i64 x31, .slice x4A1 x4n1 x4c1], .agg #[.int .i64 x05, .int .i64 x15, .int .i64 x22, .int .i64 x32, .slice x4A2 x4n2 x4c2]] w21 (onRet (fun r_6 w22 => ∃ x4 : Bool, r_6 = .bool x4 ∧
        S1 w22 ∧
        Br x4
          (NewVC w22 (.cells #[.int .u8 8, .int .u8 0, .int .u8 247, .int .u8 253, .int .u8 0, .int .u8 1, .int .u8 0, .int .u8 1] 5) fun g5 w23 =>
          S1 w23 ∧
          Calls Tryd.prog 18 #[.slice x0A x0n x0c, .slice (some ⟨g5, 0, none⟩) 8 8] w23 (onRet (fun r_7 w24 => ∃ x5 : Bool, r_7 = .bool x5 ∧
          S1 w24 ∧
          R (.returned (.bool x5)) w24)
            (fun _ _ => False)))
          (R (.returned (.bool false)) w22))
          (fun _ _ => False)))
          (fun _ _ => False)))
        (R (.returned (.bool false)) w20))
      (R (.returned (.bool false)) w20))
    (R (.returned (.bool false)) w20))
    (fun ch4 w13 => R (.panicked ch4) w13)))
    (fun ch3 w5 => R (.panicked ch3) w5)))
    (fun ch2 w3 => R (.panicked ch2) w3)))
    (fun ch1 w2 => R (.panicked ch1) w2))))
    (fun ch w1 => R (.panicked ch) w1))
def weirlaw8_awake_H : Hints := []
set_option maxRecDepth 100000 in
theorem weirlaw8_awake_of  (w : World) (R : Ending → World → Prop) (h : weirlaw8_awake_VC  w R) :
    Calls Tryd.prog 25 #[] w R :=
  calls_of_wpc callOk mixedOk (H := weirlaw8_awake_H) (args := []) (fn := Tryd.f25) (c := bodyOf Tryd.f25) Tryd.func25 rfl (Nat.le_of_ble_eq_true rfl)
    (Eq.mp (by kernel_rfl : weirlaw8_awake_VC  w R = wpc Tryd.prog callF Tryd.f25.ntmps weirlaw8_awake_H 1 (bodyOf Tryd.f25) (argEnv 0 []) [] w (finish Tryd.prog callF Tryd.f25.results.toList R)) h)

def icmp_Serialise_D62 (R : Ending → World → Prop) (x110 : Int) (w9 : World) (g3 : Nat) (x0A : Option Addr) (x0n : Nat) (x0c : Nat) (x0A1 : Option Addr) (x0n1 : Nat) (x0c1 : Nat) : Prop :=
  Br (decide (x110 ≠ 0))
    (R (.returned (.tuple #[.slice none 0 0, .int .i64 x110])) w9)
    (∃ (xA2 : Option Addr) (xn2 xc2 : Nat), w9.cell? ⟨g3, 4, none⟩ = some (.slice xA2 xn2 xc2) ∧
  NewVC w9 (.cells #[.slice x0A x0n x0c, .slice x0A1 x0n1 x0c1, .slice xA2 xn2 xc2] 22) fun g5 w10 =>
  Calls Tryd.prog 60 #[.slice (some ⟨g5, 0, none⟩) 3 3] w10 (onRet (fun r_4 w11 => ∃ x24 : Int, r_4 = .int .i64 x24 ∧
  IdxVC x0A1 x0n1 1 2 fun a =>
  SetVC w11 a (.int .u8 (IntKind.u8.wrap (Int.fdiv x24 256))) fun w12 =>
  IdxVC x0A1 x0n1 1 3 fun a1 =>
  SetVC w12 a1 (.int .u8 (IntKind.u8.wrap x24)) fun w13 =>
  ∃ (xA3 : Option Addr) (xn3 xc3 : Nat), w13.cell? ⟨g3, 4, none⟩ = some (.slice xA3 xn3 xc3) ∧
  AppVC Tryd.prog #[22, 22] 22 (.slice x0A1 x0n1 x0c1) (.slice xA3 xn3 xc3) w13 fun lA ln lc w14 =>
  R (.returned (.tuple #[.slice lA ln lc, .int .i64 0])) w14)
    (fun ch4 w11 => R (.panicked ch4) w11)))
set_option maxRecDepth 100000 in
def icmp_Serialise_VC (src_V : Int) (src_A0_ : Int) (src_A1_ : Int) (src_A2_ : Int) (src_A3_ : Int) (src_A4_ : Int) (src_A5_ : Int) (src_A6_ : Int) (src_A7_ : Int) (src_A8_ : Int) (src_A9_ : Int) (src_A10_ : Int) (src_A11_ : Int) (src_A12_ : Int) (src_A13_ : Int) (src_A14_ : Int) (src_A15_ : Int) (dst_V : Int) (dst_A0_ : Int) (dst_A1_ : Int) (dst_A2_ : Int) (dst_A3_ : Int) (dst_A4_ : Int) (dst_A5_ : Int) (dst_A6_ : Int) (dst_A7_ : Int) (dst_A8_ : Int) (dst_A9_ : Int) (dst_A10_ : Int) (dst_A11_ : Int) (dst_A12_ : Int) (dst_A13_ : Int) (dst_A14_ : Int) (dst_A15_ : Int) (m_V : Int) (m_Type : Int) (m_Code : Int) (m_Rest : Int) (m_DataA : Option Addr) (m_Datan : Nat) (m_Datac : Nat) (w : World) (R : Ending → World → Prop) : Prop :=
  NewVC w (.cells #[.int .i64 src_V, .int .u8 src_A0_, .int .u8 src_A1_, .int .u8 src_A2_, .int .u8 src_A3_, .int .u8 src_A4_, .int .u8 src_A5_, .int .u8 src_A6_, .int .u8 src_A7_, .int .u8 src_A8_, .int .u8 src_A9_, .int .u8 src_A10_, .int .u8 src_A11_, .int .u8 src_A12_, .int .u8 src_A13_, .int .u8 src_A14_, .int .u8 src_A15_] 31) fun g1 w1 =>
  NewVC w1 (.cells #[.int .i64 dst_V, .int .u8 dst_A0_, .int .u8 dst_A1_, .int .u8 dst_A2_, .int .u8 dst_A3_, .int .u8 dst_A4_, .int .u8 dst_A5_, .int .u8 dst_A6_, .int .u8 dst_A7_, .int .u8 dst_A8_, .int .u8 dst_A9_, .int .u8 dst_A10_, .int .u8 dst_A11_, .int .u8 dst_A12_, .int .u8 dst_A13_, .int .u8 dst_A14_, .int .u8 dst_A15_] 31) fun g2 w2 =>
  NewVC w2 (.cells #[.int .i64 m_V, .int .i64 m_Type, .int .i64 m_Code, .int .i64 m_Rest, .slice m_DataA m_Datan m_Datac] 24) fun g3 w3 =>
  ∃ x0 : Int, ∃ x1 : Int, ∃ x2 : Int, ∃ x3 : Int, ∃ (x4A : Option Addr) (x4n x4c : Nat), CellsAt w3 ⟨g3, 0, none⟩ 0 [.int .i64 x0, .int .i64 x1, .int .i64 x2, .int .i64 x3, .slice x4A x4n x4c] ∧
  Calls Tryd.prog 24 #[.agg #[.int .i64 x0, .int .i64 x1, .int .i64 x2, .int .i64 x3, .slice x4A x4n x4c]] w3 (onRet (fun r_ w4 => ∃ x : Int, r_ = .int .i64 x ∧
  Br (decide (x ≠ 0))
    (R (.returned (.tuple #[.slice none 0 0, .int .i64 x])) w4)
    (∃ x4 : Int, w4.cell? ⟨g3, 0, none⟩ = some (.int .i64 x4) ∧
  ∃ x01 : Int, ∃ x11 : Int, ∃ x21 : Int, ∃ x31 : Int, ∃ x41 : Int, ∃ x5 : Int, ∃ x6 : Int, ∃ x7 : Int, ∃ x8 : Int, ∃ x9 : Int, ∃ x10 : Int, ∃ x111 : Int, ∃ x12 : Int, ∃ x13 : Int, ∃ x14 : Int, ∃ x15 : Int, ∃ x16 : Int, CellsAt w4 ⟨g1, 0, none⟩ 0 [.int .i64 x01, .int .u8 x11, .int .u8 x21, .int .u8 x31, .int .u8 x41, .int .u8 x5, .int .u8 x6, .int .u8 x7, .int .u8 x8, .int .u8 x9, .int .u8 x10, .int .u8 x111, .int .u8 x12, .int .u8 x13, .int .u8 x14, .int .u8 x15, .int .u8 x16] ∧
  ∃ x02 : Int, ∃ x17 : Int, ∃ x22 : Int, ∃ x32 : Int, ∃ x42 : Int, ∃ x51 : Int, ∃ x61 : Int, ∃ x71 : Int, ∃ x81 : Int, ∃ x91 : Int, ∃ x101 : Int, ∃ x112 : Int, ∃ x121 : Int, ∃ x131 : Int, ∃ x141 : Int, ∃ x151 : Int, ∃ x161 : Int, CellsAt w4 ⟨g2, 0, none⟩ 0 [.int .i64 x02, .int .u8 x17, .int .u8 x22, .int .u8 x32, .int .u8 x42, .int .u8 x51, .int .u8 x61, .int .u8 x71, .int .u8 x81, .int .u8 x91, .int .u8 x101, .int .u8 x112, .int .u8 x121, .int .u8 x131, .int .u8 x141, .int .u8 x151, .int .u8 x161] ∧
  ∃ (xA : Option Addr) (xn xc : Nat), w4.cell? ⟨g3, 4, none⟩ = some (.slice xA xn xc) ∧
  Calls Tryd.prog 57 #[.int .i64 x4, .agg #[.int .i64 x01, .int .u8 x11, .int .u8 x21, .int .u8 x31, .int .u8 x41, .int .u8 x5, .int .u8 x6, .int .u8 x7, .int .u8 x8, .int .u8 x9, .int .u8 x10, .int .u8 x111, .int .u8 x12, .int .u8 x13, .int .u8 x14, .int .u8 x15, .int .u8 x16], .agg #[.int .i64 x02, .int .u8 x17, .int .u8 x22, .int .u8 x32, .int .u8 x42, .int .u8 x51, .int .u8 x61, .int .u8 x71, .int .u8 x81, .int .u8 x91, .int .u8 x101, .int .u8 x112, .int .u8 x121, .int .u8 x131, .int .u8 x141, .int .u8 x151, .int .u8 x161], .int .i64 (IntKind.i64.wrap (8 + (xn : Int)))] w4 (onRet (fun r_1 w5 => ∃ (x0A : Option Addr) (x0n x0c : Nat), ∃ x18 : Int, r_1 = .tuple #[.slice x0A x0n x0c, .int .i64 x18] ∧
  Br (decide (x18 ≠ 0))
    (R (.returned (.tuple #[.slice none 0 0, .int .i64 x18])) w5)
    (DrawVC w5 fun S1 w6 =>
  ∃ x19 : Int, (∀ w' : World, S1 w' → w'.cell? ⟨g3, 1, none⟩ = some (.int .i64 x19)) ∧
  ∃ x20 : Int, (∀ w' : World, S1 w' → w'.cell? ⟨g3, 2, none⟩ = some (.int .i64 x20)) ∧
  ∃ x23 : Int, (∀ w' : World, S1 w' → w'.cell? ⟨g3, 3, none⟩ = some (.int .i64 x23)) ∧
  (Calls Tryd.prog 59 #[] w6 (onRet (fun r_2 w7 => ∃ (xA1 : Option Addr) (xn1 xc1 : Nat), r_2 = .slice xA1 xn1 xc1 ∧
  S1 w7 ∧
  NewVC w7 (.cells #[.int .i64 x19, .int .i64 x20, .int .i64 0, .int .i64 x23] 3) fun g4 w8 =>
  S1 w8 ∧
  Calls Tryd.prog 58 #[.slice xA1 xn1 xc1, .slice (some ⟨g4, 0, none⟩) 4 4] w8 (onRet (fun r_3 w9 => ∃ (x0A1 : Option Addr) (x0n1 x0c1 : Nat), ∃ x110 : Int, r_3 = .tuple #[.slice x0A1 x0n1 x0c1, .int .i64 x110] ∧
  S1 w9 ∧
  icmp_Serialise_D62 R x110 w9 g3 x0A x0n x0c x0A1 x0n1 x0c1)
    (fun _ _ => False)))
    (fun _ _ => False))) ∧
  (NewVC w6 (.cells #[.int .i64 x19, .int .i64 x20, .int .i64 0, .int .i64 x23] 3) fun g6 w15 =>
  S1 w15 ∧
  Calls Tryd.prog 59 #[] w15 (onRet (fun r_5 w16 => ∃ (xA4 : Option Addr) (xn4 xc4 : Nat), r_5 = .slice xA4 xn4 xc4 ∧
  S1 w16 ∧
  Calls Tryd.prog 58 #[.slice xA4 xn4 xc4, .slice (some ⟨g6, 0, none⟩) 4 4] w16 (onRet (fun r_6 w17 => ∃ (x0A2 : Option Addr) (x0n2 x0c2 : Nat), ∃ x113 : Int, r_6 = .tuple #[.slice x0A2 x0n2 x0c2, .int .i64 x113] ∧
  S1 w17 ∧
  icmp_Serialise_D62 R x113 w17 g3 x0A x0n x0c x0A2 x0n2 x0c2)
    (fun _ _ => False)))
    (fun _ _ => False)))))
    (fun ch1 w5 => R (.panicked ch1) w5))))
    (fun ch w4 => R (.panicked ch) w4))
def icmp_Serialise_H : Hints := []
set_option maxRecDepth 100000 in
theorem icmp_Serialise_of (src_V : Int) (src_A0_ : Int) (src_A1_ : Int) (src_A2_ : Int) (src_A3_ : Int) (src_A4_ : Int) (src_A5_ : Int) (src_A6_ : Int) (src_A7_ : Int) (src_A8_ : Int) (src_A9_ : Int) (src_A10_ : Int) (src_A11_ : Int) (src_A12_ : Int) (src_A13_ : Int) (src_A14_ : Int) (src_A15_ : Int) (dst_V : Int) (dst_A0_ : Int) (dst_A1_ : Int) (dst_A2_ : Int) (dst_A3_ : Int) (dst_A4_ : Int) (dst_A5_ : Int) (dst_A6_ : Int) (dst_A7_ : Int) (dst_A8_ : Int) (dst_A9_ : Int) (dst_A10_ : Int) (dst_A11_ : Int) (dst_A12_ : Int) (dst_A13_ : Int) (dst_A14_ : Int) (dst_A15_ : Int) (m_V : Int) (m_Type : Int) (m_Code : Int) (m_Rest : Int) (m_DataA : Option Addr) (m_Datan : Nat) (m_Datac : Nat) (w : World) (R : Ending → World → Prop) (h : icmp_Serialise_VC src_V src_A0_ src_A1_ src_A2_ src_A3_ src_A4_ src_A5_ src_A6_ src_A7_ src_A8_ src_A9_ src_A10_ src_A11_ src_A12_ src_A13_ src_A14_ src_A15_ dst_V dst_A0_ dst_A1_ dst_A2_ dst_A3_ dst_A4_ dst_A5_ dst_A6_ dst_A7_ dst_A8_ dst_A9_ dst_A10_ dst_A11_ dst_A12_ dst_A13_ dst_A14_ dst_A15_ m_V m_Type m_Code m_Rest m_DataA m_Datan m_Datac w R) :
    Calls Tryd.prog 26 #[.agg #[.int .i64 src_V, .int .u8 src_A0_, .int .u8 src_A1_, .int .u8 src_A2_, .int .u8 src_A3_, .int .u8 src_A4_, .int .u8 src_A5_, .int .u8 src_A6_, .int .u8 src_A7_, .int .u8 src_A8_, .int .u8 src_A9_, .int .u8 src_A10_, .int .u8 src_A11_, .int .u8 src_A12_, .int .u8 src_A13_, .int .u8 src_A14_, .int .u8 src_A15_], .agg #[.int .i64 dst_V, .int .u8 dst_A0_, .int .u8 dst_A1_, .int .u8 dst_A2_, .int .u8 dst_A3_, .int .u8 dst_A4_, .int .u8 dst_A5_, .int .u8 dst_A6_, .int .u8 dst_A7_, .int .u8 dst_A8_, .int .u8 dst_A9_, .int .u8 dst_A10_, .int .u8 dst_A11_, .int .u8 dst_A12_, .int .u8 dst_A13_, .int .u8 dst_A14_, .int .u8 dst_A15_], .agg #[.int .i64 m_V, .int .i64 m_Type, .int .i64 m_Code, .int .i64 m_Rest, .slice m_DataA m_Datan m_Datac]] w R :=
  calls_of_wpc callOk mixedOk (H := icmp_Serialise_H) (args := [.agg #[.int .i64 src_V, .int .u8 src_A0_, .int .u8 src_A1_, .int .u8 src_A2_, .int .u8 src_A3_, .int .u8 src_A4_, .int .u8 src_A5_, .int .u8 src_A6_, .int .u8 src_A7_, .int .u8 src_A8_, .int .u8 src_A9_, .int .u8 src_A10_, .int .u8 src_A11_, .int .u8 src_A12_, .int .u8 src_A13_, .int .u8 src_A14_, .int .u8 src_A15_], .agg #[.int .i64 dst_V, .int .u8 dst_A0_, .int .u8 dst_A1_, .int .u8 dst_A2_, .int .u8 dst_A3_, .int .u8 dst_A4_, .int .u8 dst_A5_, .int .u8 dst_A6_, .int .u8 dst_A7_, .int .u8 dst_A8_, .int .u8 dst_A9_, .int .u8 dst_A10_, .int .u8 dst_A11_, .int .u8 dst_A12_, .int .u8 dst_A13_, .int .u8 dst_A14_, .int .u8 dst_A15_], .agg #[.int .i64 m_V, .int .i64 m_Type, .int .i64 m_Code, .int .i64 m_Rest, .slice m_DataA m_Datan m_Datac]]) (fn := Tryd.f26) (c := bodyOf Tryd.f26) Tryd.func26 rfl (Nat.le_of_ble_eq_true rfl)
    (Eq.mp (by kernel_rfl : icmp_Serialise_VC src_V src_A0_ src_A1_ src_A2_ src_A3_ src_A4_ src_A5_ src_A6_ src_A7_ src_A8_ src_A9_ src_A10_ src_A11_ src_A12_ src_A13_ src_A14_ src_A15_ dst_V dst_A0_ dst_A1_ dst_A2_ dst_A3_ dst_A4_ dst_A5_ dst_A6_ dst_A7_ dst_A8_ dst_A9_ dst_A10_ dst_A11_ dst_A12_ dst_A13_ dst_A14_ dst_A15_ m_V m_Type m_Code m_Rest m_DataA m_Datan m_Datac w R = wpc Tryd.prog callF Tryd.f26.ntmps icmp_Serialise_H 1 (bodyOf Tryd.f26) (argEnv 0 [.agg #[.int .i64 src_V, .int .u8 src_A0_, .int .u8 src_A1_, .int .u8 src_A2_, .int .u8 src_A3_, .int .u8 src_A4_, .int .u8 src_A5_, .int .u8 src_A6_, .int .u8 src_A7_, .int .u8 src_A8_, .int .u8 src_A9_, .int .u8 src_A10_, .int .u8 src_A11_, .int .u8 src_A12_, .int .u8 src_A13_, .int .u8 src_A14_, .int .u8 src_A15_], .agg #[.int .i64 dst_V, .int .u8 dst_A0_, .int .u8 dst_A1_, .int .u8 dst_A2_, .int .u8 dst_A3_, .int .u8 dst_A4_, .int .u8 dst_A5_, .int .u8 dst_A6_, .int .u8 dst_A7_, .int .u8 dst_A8_, .int .u8 dst_A9_, .int .u8 dst_A10_, .int .u8 dst_A11_, .int .u8 dst_A12_, .int .u8 dst_A13_, .int .u8 dst_A14_, .int .u8 dst_A15_], .agg #[.int .i64 m_V, .int .i64 m_Type, .int .i64 m_Code, .int .i64 m_Rest, .slice m_DataA m_Datan m_Datac]]) [] w (finish Tryd.prog callF Tryd.f26.results.toList R)) h)

set_option maxRecDepth 100000 in
def weirref8_Serialise_J15 (R : Ending → World → Prop) (g1 : Nat) (g2 : Nat) (g3 : Nat)  (w6 : World) : Prop :=
  ∃ x19 : Int, w6.cell? ⟨g3, 1, none⟩ = some (.int .i64 x19) ∧
  ∃ x20 : Int, w6.cell? ⟨g3, 2, none⟩ = some (.int .i64 x20) ∧
  ∃ x23 : Int, w6.cell? ⟨g3, 3, none⟩ = some (.int .i64 x23) ∧
  ∃ x24 : Int, w6.cell? ⟨g3, 3, none⟩ = some (.int .i64 x24) ∧
  ∃ x25 : Int, w6.cell? ⟨g3, 3, none⟩ = some (.int .i64 x25) ∧
  ∃ x26 : Int, w6.cell? ⟨g3, 3, none⟩ = some (.int .i64 x26) ∧
  NewVC w6 (.cells #[.int .u8 (IntKind.u8.wrap x19), .int .u8 (IntKind.u8.wrap x20), .int .u8 0, .int .u8 0, .int .u8 (IntKind.u8.wrap (Int.fdiv x23 16777216)), .int .u8 (IntKind.u8.wrap (Int.fdiv x24 65536)), .int .u8 (IntKind.u8.wrap (Int.fdiv x25 256)), .int .u8 (IntKind.u8.wrap x26)] 5) fun g4 w7 =>
  ∃ (xA : Option Addr) (xn xc : Nat), w7.cell? ⟨g3, 4, none⟩ = some (.slice xA xn xc) ∧
  AppVC Tryd.prog #[22, 22] 22 (.slice (some ⟨g4, 0, none⟩) 8 8) (.slice xA xn xc) w7 fun lA ln lc w8 =>
  ∃ x27 : Int, w8.cell? ⟨g3, 0, none⟩ = some (.int .i64 x27) ∧
  ∃ x03 : Int, ∃ x110 : Int, ∃ x28 : Int, ∃ x33 : Int, ∃ x43 : Int, ∃ x52 : Int, ∃ x62 : Int, ∃ x72 : Int, ∃ x82 : Int, ∃ x92 : Int, ∃ x102 : Int, ∃ x113 : Int, ∃ x122 : Int, ∃ x132 : Int, ∃ x142 : Int, ∃ x152 : Int, ∃ x162 : Int, CellsAt w8 ⟨g1, 0, none⟩ 0 [.int .i64 x03, .int .u8 x110, .int .u8 x28, .int .u8 x33, .int .u8 x43, .int .u8 x52, .int .u8 x62, .int .u8 x72, .int .u8 x82, .int .u8 x92, .int .u8 x102, .int .u8 x113, .int .u8 x122, .int .u8 x132, .int .u8 x142, .int .u8 x152, .int .u8 x162] ∧
  ∃ x04 : Int, ∃ x114 : Int, ∃ x29 : Int, ∃ x34 : Int, ∃ x44 : Int, ∃ x53 : Int, ∃ x63 : Int, ∃ x73 : Int, ∃ x83 : Int, ∃ x93 : Int, ∃ x103 : Int, ∃ x115 : Int, ∃ x123 : Int, ∃ x133 : Int, ∃ x143 : Int, ∃ x153 : Int, ∃ x163 : Int, CellsAt w8 ⟨g2, 0, none⟩ 0 [.int .i64 x04, .int .u8 x114, .int .u8 x29, .int .u8 x34, .int .u8 x44, .int .u8 x53, .int .u8 x63, .int .u8 x73, .int .u8 x83, .int .u8 x93, .int .u8 x103, .int .u8 x115, .int .u8 x123, .int .u8 x133, .int .u8 x143, .int .u8 x153, .int .u8 x163] ∧
  Calls Tryd.prog 63 #[.int .i64 x27, .agg #[.int .i64 x03, .int .u8 x110, .int .u8 x28, .int .u8 x33, .int .u8 x43, .int .u8 x52, .int .u8 x62, .int .u8 x72, .int .u8 x82, .int .u8 x92, .int .u8 x102, .int .u8 x113, .int .u8 x122, .int .u8 x132, .int .u8 x142, .int .u8 x152, .int .u8 x162], .agg #[.int .i64 x04, .int .u8 x114, .int .u8 x29, .int .u8 x34, .int .u8 x44, .int .u8 x53, .int .u8 x63, .int .u8 x73, .int .u8 x83, .int .u8 x93, .int .u8 x103, .int .u8 x115, .int .u8 x123, .int .u8 x133, .int .u8 x143, .int .u8 x153, .int .u8 x163], .slice lA ln lc] w8 (onRet (fun r_2 w9 => ∃ (xA1 : Option Addr) (xn1 xc1 : Nat), r_2 = .slice xA1 xn1 xc1 ∧
  Calls Tryd.prog 62 #[.slice xA1 xn1 xc1] w9 (onRet (fun r_3 w10 => ∃ x30 : Int, r_3 = .int .i64 x30 ∧
  IdxVC lA ln 1 2 fun a =>
  SetVC w10 a (.int .u8 (IntKind.u8.wrap (IntKind.i64.wrap (Int.tdiv x30 256)))) fun w11 =>
  IdxVC lA ln 1 3 fun a1 =>
  SetVC w11 a1 (.int .u8 (IntKind.u8.wrap (Int.tmod x30 256))) fun w12 =>
  R (.returned (.tuple #[.slice lA ln lc, .int .i64 0])) w12)
    (fun ch3 w10 => R (.panicked ch3) w10)))
    (fun ch2 w9 => R (.panicked ch2) w9))
set_option maxRecDepth 100000 in
def weirref8_Serialise_VC (src_V : Int) (src_A0_ : Int) (src_A1_ : Int) (src_A2_ : Int) (src_A3_ : Int) (src_A4_ : Int) (src_A5_ : Int) (src_A6_ : Int) (src_A7_ : Int) (src_A8_ : Int) (src_A9_ : Int) (src_A10_ : Int) (src_A11_ : Int) (src_A12_ : Int) (src_A13_ : Int) (src_A14_ : Int) (src_A15_ : Int) (dst_V : Int) (dst_A0_ : Int) (dst_A1_ : Int) (dst_A2_ : Int) (dst_A3_ : Int) (dst_A4_ : Int) (dst_A5_ : Int) (dst_A6_ : Int) (dst_A7_ : Int) (dst_A8_ : Int) (dst_A9_ : Int) (dst_A10_ : Int) (dst_A11_ : Int) (dst_A12_ : Int) (dst_A13_ : Int) (dst_A14_ : Int) (dst_A15_ : Int) (m_V : Int) (m_Type : Int) (m_Code : Int) (m_Rest : Int) (m_DataA : Option Addr) (m_Datan : Nat) (m_Datac : Nat) (w : World) (R : Ending → World → Prop) : Prop :=
  NewVC w (.cells #[.int .i64 src_V, .int .u8 src_A0_, .int .u8 src_A1_, .int .u8 src_A2_, .int .u8 src_A3_, .int .u8 src_A4_, .int .u8 src_A5_, .int .u8 src_A6_, .int .u8 src_A7_, .int .u8 src_A8_, .int .u8 src_A9_, .int .u8 src_A10_, .int .u8 src_A11_, .int .u8 src_A12_, .int .u8 src_A13_, .int .u8 src_A14_, .int .u8 src_A15_] 31) fun g1 w1 =>
  NewVC w1 (.cells #[.int .i64 dst_V, .int .u8 dst_A0_, .int .u8 dst_A1_, .int .u8 dst_A2_, .int .u8 dst_A3_, .int .u8 dst_A4_, .int .u8 dst_A5_, .int .u8 dst_A6_, .int .u8 dst_A7_, .int .u8 dst_A8_, .int .u8 dst_A9_, .int .u8 dst_A10_, .int .u8 dst_A11_, .int .u8 dst_A12_, .int .u8 dst_A13_, .int .u8 dst_A14_, .int .u8 dst_A15_] 31) fun g2 w2 =>
  NewVC w2 (.cells #[.int .i64 m_V, .int .i64 m_Type, .int .i64 m_Code, .int .i64 m_Rest, .slice m_DataA m_Datan m_Datac] 24) fun g3 w3 =>
  ∃ x0 : Int, ∃ x1 : Int, ∃ x2 : Int, ∃ x3 : Int, ∃ (x4A : Option Addr) (x4n x4c : Nat), CellsAt w3 ⟨g3, 0, none⟩ 0 [.int .i64 x0, .int .i64 x1, .int .i64 x2, .int .i64 x3, .slice x4A x4n x4c] ∧
  Calls Tryd.prog 28 #[.agg #[.int .i64 x0, .int .i64 x1, .int .i64 x2, .int .i64 x3, .slice x4A x4n x4c]] w3 (onRet (fun r_ w4 => ∃ x : Int, r_ = .int .i64 x ∧
  Br (decide (x ≠ 0))
    (R (.returned (.tuple #[.slice none 0 0, .int .i64 x])) w4)
    (JoinVC (S := Unit) (fun J15 =>
      ∃ x4 : Int, w4.cell? ⟨g3, 0, none⟩ = some (.int .i64 x4) ∧
      Br (decide (x4 = 6))
        (∃ x01 : Int, ∃ x11 : Int, ∃ x21 : Int, ∃ x31 : Int, ∃ x41 : Int, ∃ x5 : Int, ∃ x6 : Int, ∃ x7 : Int, ∃ x8 : Int, ∃ x9 : Int, ∃ x10 : Int, ∃ x111 : Int, ∃ x12 : Int, ∃ x13 : Int, ∃ x14 : Int, ∃ x15 : Int, ∃ x16 : Int, CellsAt w4 ⟨g1, 0, none⟩ 0 [.int .i64 x01, .int .u8 x11, .int .u8 x21, .int .u8 x31, .int .u8 x41, .int .u8 x5, .int .u8 x6, .int .u8 x7, .int .u8 x8, .int .u8 x9, .int .u8 x10, .int .u8 x111, .int .u8 x12, .int .u8 x13, .int .u8 x14, .int .u8 x15, .int .u8 x16] ∧
        ∃ x02 : Int, ∃ x17 : Int, ∃ x22 : Int, ∃ x32 : Int, ∃ x42 : Int, ∃ x51 : Int, ∃ x61 : Int, ∃ x71 : Int, ∃ x81 : Int, ∃ x91 : Int, ∃ x101 : Int, ∃ x112 : Int, ∃ x121 : Int, ∃ x131 : Int, ∃ x141 : Int, ∃ x151 : Int, ∃ x161 : Int, CellsAt w4 ⟨g2, 0, none⟩ 0 [.int .i64 x02, .int .u8 x17, .int .u8 x22, .int .u8 x32, .int .u8 x42, .int .u8 x51, .int .u8 x61, .int .u8 x71, .int .u8 x81, .int .u8 x91, .int .u8 x101, .int .u8 x112, .int .u8 x121, .int .u8 x131, .int .u8 x141, .int .u8 x151, .int .u8 x161] ∧
        Calls Tryd.prog 61 #[.agg #[.int .i64 x01, .int .u8 x11, .int .u8 x21, .int .u8 x31, .int .u8 x41, .int .u8 x5, .int .u8 x6, .int .u8 x7, .int .u8 x8, .int .u8 x9, .int .u8 x10, .int .u8 x111, .int .u8 x12, .int .u8 x13, .int .u8 x14, .int .u8 x15, .int .u8 x16], .agg #[.int .i64 x02, .int .u8 x17, .int .u8 x22, .int .u8 x32, .int .u8 x42, .int .u8 x51, .int .u8 x61, .int .u8 x71, .int .u8 x81, .int .u8 x91, .int .u8 x101, .int .u8 x112, .int .u8 x121, .int .u8 x131, .int .u8 x141, .int .u8 x151, .int .u8 x161]] w4 (onRet (fun r_1 w5 => ∃ x18 : Bool, r_1 = .bool x18 ∧
        Br (!x18)
        (R (.returned (.tuple #[.slice none 0 0, .int .i64 20])) w5)
        (J15 () w5))
          (fun ch1 w5 => R (.panicked ch1) w5)))
        (J15 () w4))
    (fun _ w6 => weirref8_Serialise_J15 R g1 g2 g3 w6)))
    (fun ch w4 => R (.panicked ch) w4))
def weirref8_Serialise_H : Hints := [(15, [])]
set_option maxRecDepth 100000 in
theorem weirref8_Serialise_of (src_V : Int) (src_A0_ : Int) (src_A1_ : Int) (src_A2_ : Int) (src_A3_ : Int) (src_A4_ : Int) (src_A5_ : Int) (src_A6_ : Int) (src_A7_ : Int) (src_A8_ : Int) (src_A9_ : Int) (src_A10_ : Int) (src_A11_ : Int) (src_A12_ : Int) (src_A13_ : Int) (src_A14_ : Int) (src_A15_ : Int) (dst_V : Int) (dst_A0_ : Int) (dst_A1_ : Int) (dst_A2_ : Int) (dst_A3_ : Int) (dst_A4_ : Int) (dst_A5_ : Int) (dst_A6_ : Int) (dst_A7_ : Int) (dst_A8_ : Int) (dst_A9_ : Int) (dst_A10_ : Int) (dst_A11_ : Int) (dst_A12_ : Int) (dst_A13_ : Int) (dst_A14_ : Int) (dst_A15_ : Int) (m_V : Int) (m_Type : Int) (m_Code : Int) (m_Rest : Int) (m_DataA : Option Addr) (m_Datan : Nat) (m_Datac : Nat) (w : World) (R : Ending → World → Prop) (h : weirref8_Serialise_VC src_V src_A0_ src_A1_ src_A2_ src_A3_ src_A4_ src_A5_ src_A6_ src_A7_ src_A8_ src_A9_ src_A10_ src_A11_ src_A12_ src_A13_ src_A14_ src_A15_ dst_V dst_A0_ dst_A1_ dst_A2_ dst_A3_ dst_A4_ dst_A5_ dst_A6_ dst_A7_ dst_A8_ dst_A9_ dst_A10_ dst_A11_ dst_A12_ dst_A13_ dst_A14_ dst_A15_ m_V m_Type m_Code m_Rest m_DataA m_Datan m_Datac w R) :
    Calls Tryd.prog 27 #[.agg #[.int .i64 src_V, .int .u8 src_A0_, .int .u8 src_A1_, .int .u8 src_A2_, .int .u8 src_A3_, .int .u8 src_A4_, .int .u8 src_A5_, .int .u8 src_A6_, .int .u8 src_A7_, .int .u8 src_A8_, .int .u8 src_A9_, .int .u8 src_A10_, .int .u8 src_A11_, .int .u8 src_A12_, .int .u8 src_A13_, .int .u8 src_A14_, .int .u8 src_A15_], .agg #[.int .i64 dst_V, .int .u8 dst_A0_, .int .u8 dst_A1_, .int .u8 dst_A2_, .int .u8 dst_A3_, .int .u8 dst_A4_, .int .u8 dst_A5_, .int .u8 dst_A6_, .int .u8 dst_A7_, .int .u8 dst_A8_, .int .u8 dst_A9_, .int .u8 dst_A10_, .int .u8 dst_A11_, .int .u8 dst_A12_, .int .u8 dst_A13_, .int .u8 dst_A14_, .int .u8 dst_A15_], .agg #[.int .i64 m_V, .int .i64 m_Type, .int .i64 m_Code, .int .i64 m_Rest, .slice m_DataA m_Datan m_Datac]] w R :=
  calls_of_wpc callOk mixedOk (H := weirref8_Serialise_H) (args := [.agg #[.int .i64 src_V, .int .u8 src_A0_, .int .u8 src_A1_, .int .u8 src_A2_, .int .u8 src_A3_, .int .u8 src_A4_, .int .u8 src_A5_, .int .u8 src_A6_, .int .u8 src_A7_, .int .u8 src_A8_, .int .u8 src_A9_, .int .u8 src_A10_, .int .u8 src_A11_, .int .u8 src_A12_, .int .u8 src_A13_, .int .u8 src_A14_, .int .u8 src_A15_], .agg #[.int .i64 dst_V, .int .u8 dst_A0_, .int .u8 dst_A1_, .int .u8 dst_A2_, .int .u8 dst_A3_, .int .u8 dst_A4_, .int .u8 dst_A5_, .int .u8 dst_A6_, .int .u8 dst_A7_, .int .u8 dst_A8_, .int .u8 dst_A9_, .int .u8 dst_A10_, .int .u8 dst_A11_, .int .u8 dst_A12_, .int .u8 dst_A13_, .int .u8 dst_A14_, .int .u8 dst_A15_], .agg #[.int .i64 m_V, .int .i64 m_Type, .int .i64 m_Code, .int .i64 m_Rest, .slice m_DataA m_Datan m_Datac]]) (fn := Tryd.f27) (c := bodyOf Tryd.f27) Tryd.func27 rfl (Nat.le_of_ble_eq_true rfl)
    (Eq.mp (by kernel_rfl : weirref8_Serialise_VC src_V src_A0_ src_A1_ src_A2_ src_A3_ src_A4_ src_A5_ src_A6_ src_A7_ src_A8_ src_A9_ src_A10_ src_A11_ src_A12_ src_A13_ src_A14_ src_A15_ dst_V dst_A0_ dst_A1_ dst_A2_ dst_A3_ dst_A4_ dst_A5_ dst_A6_ dst_A7_ dst_A8_ dst_A9_ dst_A10_ dst_A11_ dst_A12_ dst_A13_ dst_A14_ dst_A15_ m_V m_Type m_Code m_Rest m_DataA m_Datan m_Datac w R = wpc Tryd.prog callF Tryd.f27.ntmps weirref8_Serialise_H 1 (bodyOf Tryd.f27) (argEnv 0 [.agg #[.int .i64 src_V, .int .u8 src_A0_, .int .u8 src_A1_, .int .u8 src_A2_, .int .u8 src_A3_, .int .u8 src_A4_, .int .u8 src_A5_, .int .u8 src_A6_, .int .u8 src_A7_, .int .u8 src_A8_, .int .u8 src_A9_, .int .u8 src_A10_, .int .u8 src_A11_, .int .u8 src_A12_, .int .u8 src_A13_, .int .u8 src_A14_, .int .u8 src_A15_], .agg #[.int .i64 dst_V, .int .u8 dst_A0_, .int .u8 dst_A1_, .int .u8 dst_A2_, .int .u8 dst_A3_, .int .u8 dst_A4_, .int .u8 dst_A5_, .int .u8 dst_A6_, .int .u8 dst_A7_, .int .u8 dst_A8_, .int .u8 dst_A9_, .int .u8 dst_A10_, .int .u8 dst_A11_, .int .u8 dst_A12_, .int .u8 dst_A13_, .int .u8 dst_A14_, .int .u8 dst_A15_], .agg #[.int .i64 m_V, .int .i64 m_Type, .int .i64 m_Code, .int .i64 m_Rest, .slice m_DataA m_Datan m_Datac]]) [] w (finish Tryd.prog callF Tryd.f27.results.toList R)) h)

set_option maxRecDepth 100000 in
def weirref8_Check_J3 (R : Ending → World → Prop) (g1 : Nat)  (w2 : World) : Prop :=
  ∃ x2 : Int, w2.cell? ⟨g1, 1, none⟩ = some (.int .i64 x2) ∧
  Br (decide (x2 < 0))
    (R (.returned (.int .i64 82)) w2)
    (∃ x3 : Int, w2.cell? ⟨g1, 1, none⟩ = some (.int .i64 x3) ∧
    Br (decide ((255 : Int) < x3))
      (R (.returned (.int .i64 82)) w2)
      (∃ x4 : Int, w2.cell? ⟨g1, 2, none⟩ = some (.int .i64 x4) ∧
      Br (decide (x4 < 0))
        (R (.returned (.int .i64 82)) w2)
        (∃ x5 : Int, w2.cell? ⟨g1, 2, none⟩ = some (.int .i64 x5) ∧
        Br (decide ((255 : Int) < x5))
          (R (.returned (.int .i64 82)) w2)
          (∃ x6 : Int, w2.cell? ⟨g1, 3, none⟩ = some (.int .i64 x6) ∧
          Br (decide (x6 < 0))
            (R (.returned (.int .i64 82)) w2)
            (∃ x7 : Int, w2.cell? ⟨g1, 3, none⟩ = some (.int .i64 x7) ∧
            Br (decide ((4294967295 : Int) < x7))
    (R (.returned (.int .i64 82)) w2)
    (∃ (xA : Option Addr) (xn xc : Nat), w2.cell? ⟨g1, 4, none⟩ = some (.slice xA xn xc) ∧
  Br (decide ((65507 : Int) < (xn : Int)))
    (R (.returned (.int .i64 2)) w2)
    (R (.returned (.int .i64 0)) w2)))))))
set_option maxRecDepth 100000 in
def weirref8_Check_VC (m_V : Int) (m_Type : Int) (m_Code : Int) (m_Rest : Int) (m_DataA : Option Addr) (m_Datan : Nat) (m_Datac : Nat) (w : World) (R : Ending → World → Prop) : Prop :=
  NewVC w (.cells #[.int .i64 m_V, .int .i64 m_Type, .int .i64 m_Code, .int .i64 m_Rest, .slice m_DataA m_Datan m_Datac] 24) fun g1 w1 =>
  JoinVC (S := Unit) (fun J3 =>
      ∃ x : Int, w1.cell? ⟨g1, 0, none⟩ = some (.int .i64 x) ∧
      Br (decide (x ≠ 4))
        (∃ x1 : Int, w1.cell? ⟨g1, 0, none⟩ = some (.int .i64 x1) ∧
        Br (decide (x1 ≠ 6))
        (R (.returned (.int .i64 1)) w1)
        (J3 () w1))
        (J3 () w1))
    (fun _ w2 => weirref8_Check_J3 R g1 w2)
def weirref8_Check_H : Hints := [(3, [])]
set_option maxRecDepth 100000 in
theorem weirref8_Check_of (m_V : Int) (m_Type : Int) (m_Code : Int) (m_Rest : Int) (m_DataA : Option Addr) (m_Datan : Nat) (m_Datac : Nat) (w : World) (R : Ending → World → Prop) (h : weirref8_Check_VC m_V m_Type m_Code m_Rest m_DataA m_Datan m_Datac w R) :
    Calls Tryd.prog 28 #[.agg #[.int .i64 m_V, .int .i64 m_Type, .int .i64 m_Code, .int .i64 m_Rest, .slice m_DataA m_Datan m_Datac]] w R :=
  calls_of_wpc callOk mixedOk (H := weirref8_Check_H) (args := [.agg #[.int .i64 m_V, .int .i64 m_Type, .int .i64 m_Code, .int .i64 m_Rest, .slice m_DataA m_Datan m_Datac]]) (fn := Tryd.f28) (c := bodyOf Tryd.f28) Tryd.func28 rfl (Nat.le_of_ble_eq_true rfl)
    (Eq.mp (by kernel_rfl : weirref8_Check_VC m_V m_Type m_Code m_Rest m_DataA m_Datan m_Datac w R = wpc Tryd.prog callF Tryd.f28.ntmps weirref8_Check_H 1 (bodyOf Tryd.f28) (argEnv 0 [.agg #[.int .i64 m_V, .int .i64 m_Type, .int .i64 m_Code, .int .i64 m_Rest, .slice m_DataA m_Datan m_Datac]]) [] w (finish Tryd.prog callF Tryd.f28.results.toList R)) h)

set_option maxRecDepth 100000 in
def icmp_Parse_J3 (R : Ending → World → Prop) (v_ : Int) (bA : Option Addr) (bn : Nat) (bc : Nat) (g1 : Nat) (g2 : Nat) (g3 : Nat)  (w14 : World) : Prop :=
  ∃ x0 : Int, ∃ x1 : Int, ∃ x2 : Int, ∃ x3 : Int, ∃ x4 : Int, ∃ x5 : Int, ∃ x6 : Int, ∃ x7 : Int, ∃ x8 : Int, ∃ x9 : Int, ∃ x10 : Int, ∃ x11 : Int, ∃ x12 : Int, ∃ x13 : Int, ∃ x14 : Int, ∃ x15 : Int, ∃ x16 : Int, CellsAt w14 ⟨g1, 0, none⟩ 0 [.int .i64 x0, .int .u8 x1, .int .u8 x2, .int .u8 x3, .int .u8 x4, .int .u8 x5, .int .u8 x6, .int .u8 x7, .int .u8 x8, .int .u8 x9, .int .u8 x10, .int .u8 x11, .int .u8 x12, .int .u8 x13, .int .u8 x14, .int .u8 x15, .int .u8 x16] ∧
  ∃ x01 : Int, ∃ x17 : Int, ∃ x21 : Int, ∃ x31 : Int, ∃ x41 : Int, ∃ x51 : Int, ∃ x61 : Int, ∃ x71 : Int, ∃ x81 : Int, ∃ x91 : Int, ∃ x101 : Int, ∃ x111 : Int, ∃ x121 : Int, ∃ x131 : Int, ∃ x141 : Int, ∃ x151 : Int, ∃ x161 : Int, CellsAt w14 ⟨g2, 0, none⟩ 0 [.int .i64 x01, .int .u8 x17, .int .u8 x21, .int .u8 x31, .int .u8 x41, .int .u8 x51, .int .u8 x61, .int .u8 x71, .int .u8 x81, .int .u8 x91, .int .u8 x101, .int .u8 x111, .int .u8 x121, .int .u8 x131, .int .u8 x141, .int .u8 x151, .int .u8 x161] ∧
  Calls Tryd.prog 57 #[.int .i64 v_, .agg #[.int .i64 x0, .int .u8 x1, .int .u8 x2, .int .u8 x3, .int .u8 x4, .int .u8 x5, .int .u8 x6, .int .u8 x7, .int .u8 x8, .int .u8 x9, .int .u8 x10, .int .u8 x11, .int .u8 x12, .int .u8 x13, .int .u8 x14, .int .u8 x15, .int .u8 x16], .agg #[.int .i64 x01, .int .u8 x17, .int .u8 x21, .int .u8 x31, .int .u8 x41, .int .u8 x51, .int .u8 x61, .int .u8 x71, .int .u8 x81, .int .u8 x91, .int .u8 x101, .int .u8 x111, .int .u8 x121, .int .u8 x131, .int .u8 x141, .int .u8 x151, .int .u8 x161], .int .i64 (bn : Int)] w14 (onRet (fun r_ w15 => ∃ (x0A : Option Addr) (x0n x0c : Nat), ∃ x18 : Int, r_ = .tuple #[.slice x0A x0n x0c, .int .i64 x18] ∧
  Br (decide (x18 ≠ 0))
    (SetVC w15 ⟨g3, 0, none⟩ (.int .i64 0) fun w16 =>
    SetVC w16 ⟨g3, 1, none⟩ (.int .i64 0) fun w17 =>
    SetVC w17 ⟨g3, 2, none⟩ (.int .i64 0) fun w18 =>
    SetVC w18 ⟨g3, 3, none⟩ (.int .i64 0) fun w19 =>
    SetVC w19 ⟨g3, 4, none⟩ (.slice none 0 0) fun w20 =>
    ∃ res02 : Int, ∃ res12 : Int, ∃ res22 : Int, ∃ res32 : Int, ∃ (res4A2 : Option Addr) (res4n2 res4c2 : Nat), CellsAt w20 ⟨g3, 0, none⟩ 0 [.int .i64 res02, .int .i64 res12, .int .i64 res22, .int .i64 res32, .slice res4A2 res4n2 res4c2] ∧
  R (.returned (.tuple #[.agg #[.int .i64 res02, .int .i64 res12, .int .i64 res22, .int .i64 res32, .slice res4A2 res4n2 res4c2], .int .i64 x18])) w20)
    (Br (decide ((bn : Int) < 8))
    (SetVC w15 ⟨g3, 0, none⟩ (.int .i64 0) fun w21 =>
    SetVC w21 ⟨g3, 1, none⟩ (.int .i64 0) fun w22 =>
    SetVC w22 ⟨g3, 2, none⟩ (.int .i64 0) fun w23 =>
    SetVC w23 ⟨g3, 3, none⟩ (.int .i64 0) fun w24 =>
    SetVC w24 ⟨g3, 4, none⟩ (.slice none 0 0) fun w25 =>
    ∃ res03 : Int, ∃ res13 : Int, ∃ res23 : Int, ∃ res33 : Int, ∃ (res4A3 : Option Addr) (res4n3 res4c3 : Nat), CellsAt w25 ⟨g3, 0, none⟩ 0 [.int .i64 res03, .int .i64 res13, .int .i64 res23, .int .i64 res33, .slice res4A3 res4n3 res4c3] ∧
  R (.returned (.tuple #[.agg #[.int .i64 res03, .int .i64 res13, .int .i64 res23, .int .i64 res33, .slice res4A3 res4n3 res4c3], .int .i64 80])) w25)
    (NewVC w15 (.cells #[.slice x0A x0n x0c, .slice bA bn bc] 22) fun g4 w26 =>
  Calls Tryd.prog 64 #[.slice (some ⟨g4, 0, none⟩) 2 2] w26 (onRet (fun r_1 w27 => ∃ x : Bool, r_1 = .bool x ∧
  Br (!x)
    (SetVC w27 ⟨g3, 0, none⟩ (.int .i64 0) fun w28 =>
    SetVC w28 ⟨g3, 1, none⟩ (.int .i64 0) fun w29 =>
    SetVC w29 ⟨g3, 2, none⟩ (.int .i64 0) fun w30 =>
    SetVC w30 ⟨g3, 3, none⟩ (.int .i64 0) fun w31 =>
    SetVC w31 ⟨g3, 4, none⟩ (.slice none 0 0) fun w32 =>
    ∃ res04 : Int, ∃ res14 : Int, ∃ res24 : Int, ∃ res34 : Int, ∃ (res4A4 : Option Addr) (res4n4 res4c4 : Nat), CellsAt w32 ⟨g3, 0, none⟩ 0 [.int .i64 res04, .int .i64 res14, .int .i64 res24, .int .i64 res34, .slice res4A4 res4n4 res4c4] ∧
  R (.returned (.tuple #[.agg #[.int .i64 res04, .int .i64 res14, .int .i64 res24, .int .i64 res34, .slice res4A4 res4n4 res4c4], .int .i64 81])) w32)
    (Calls Tryd.prog 59 #[] w27 (onRet (fun r_2 w33 => ∃ (xA : Option Addr) (xn xc : Nat), r_2 = .slice xA xn xc ∧
  Calls Tryd.prog 65 #[.slice bA bn bc, .int .i64 0, .slice xA xn xc] w33 (onRet (fun r_3 w34 => ∃ (x0A1 : Option Addr) (x0n1 x0c1 : Nat), ∃ x19 : Int, ∃ x22 : Int, r_3 = .tuple #[.slice x0A1 x0n1 x0c1, .int .i64 x19, .int .i64 x22] ∧
  Br (decide (x22 ≠ 0))
    (SetVC w34 ⟨g3, 0, none⟩ (.int .i64 0) fun w35 =>
    SetVC w35 ⟨g3, 1, none⟩ (.int .i64 0) fun w36 =>
    SetVC w36 ⟨g3, 2, none⟩ (.int .i64 0) fun w37 =>
    SetVC w37 ⟨g3, 3, none⟩ (.int .i64 0) fun w38 =>
    SetVC w38 ⟨g3, 4, none⟩ (.slice none 0 0) fun w39 =>
    ∃ res05 : Int, ∃ res15 : Int, ∃ res25 : Int, ∃ res35 : Int, ∃ (res4A5 : Option Addr) (res4n5 res4c5 : Nat), CellsAt w39 ⟨g3, 0, none⟩ 0 [.int .i64 res05, .int .i64 res15, .int .i64 res25, .int .i64 res35, .slice res4A5 res4n5 res4c5] ∧
  R (.returned (.tuple #[.agg #[.int .i64 res05, .int .i64 res15, .int .i64 res25, .int .i64 res35, .slice res4A5 res4n5 res4c5], .int .i64 x22])) w39)
    (DrawVC w34 fun S1 w40 =>
  IdxVC x0A1 x0n1 1 0 fun a =>
  ∃ x20 : Int, (∀ w' : World, S1 w' → w'.cell? a = some (.int .i64 x20)) ∧
  IdxVC x0A1 x0n1 1 1 fun a1 =>
  ∃ x23 : Int, (∀ w' : World, S1 w' → w'.cell? a1 = some (.int .i64 x23)) ∧
  IdxVC x0A1 x0n1 1 3 fun a2 =>
  ∃ x24 : Int, (∀ w' : World, S1 w' → w'.cell? a2 = some (.int .i64 x24)) ∧
  SliceVC bA bn bc 1 (some x19) (some (bn : Int)) (some (bn : Int)) fun sA sn sc =>
  SetVC w40 ⟨g3, 0, none⟩ (.int .i64 v_) fun w41 =>
  SetVC w41 ⟨g3, 1, none⟩ (.int .i64 x20) fun w42 =>
  SetVC w42 ⟨g3, 2, none⟩ (.int .i64 x23) fun w43 =>
  SetVC w43 ⟨g3, 3, none⟩ (.int .i64 x24) fun w44 =>
  SetVC w44 ⟨g3, 4, none⟩ (.slice sA sn sc) fun w45 =>
  S1 w45 ∧
  ∃ res06 : Int, ∃ res16 : Int, ∃ res26 : Int, ∃ res36 : Int, ∃ (res4A6 : Option Addr) (res4n6 res4c6 : Nat), CellsAt w45 ⟨g3, 0, none⟩ 0 [.int .i64 res06, .int .i64 res16, .int .i64 res26, .int .i64 res36, .slice res4A6 res4n6 res4c6] ∧
  R (.returned (.tuple #[.agg #[.int .i64 res06, .int .i64 res16, .int .i64 res26, .int .i64 res36, .slice res4A6 res4n6 res4c6], .int .i64 0])) w45))
    (fun ch3 w34 => R (.panicked ch3) w34)))
    (fun ch2 w33 => R (.panicked ch2) w33))))
    (fun ch1 w27 => R (.panicked ch1) w27)))))
    (fun ch w15 => R (.panicked ch) w15))
set_option maxRecDepth 100000 in
def icmp_Parse_VC (v_ : Int) (src_V : Int) (src_A0_ : Int) (src_A1_ : Int) (src_A2_ : Int) (src_A3_ : Int) (src_A4_ : Int) (src_A5_ : Int) (src_A6_ : Int) (src_A7_ : Int) (src_A8_ : Int) (src_A9_ : Int) (src_A10_ : Int) (src_A11_ : Int) (src_A12_ : Int) (src_A13_ : Int) (src_A14_ : Int) (src_A15_ : Int) (dst_V : Int) (dst_A0_ : Int) (dst_A1_ : Int) (dst_A2_ : Int) (dst_A3_ : Int) (dst_A4_ : Int) (dst_A5_ : Int) (dst_A6_ : Int) (dst_A7_ : Int) (dst_A8_ : Int) (dst_A9_ : Int) (dst_A10_ : Int) (dst_A11_ : Int) (dst_A12_ : Int) (dst_A13_ : Int) (dst_A14_ : Int) (dst_A15_ : Int) (bA : Option Addr) (bn : Nat) (bc : Nat) (w : World) (R : Ending → World → Prop) : Prop :=
  NewVC w (.cells #[.int .i64 src_V, .int .u8 src_A0_, .int .u8 src_A1_, .int .u8 src_A2_, .int .u8 src_A3_, .int .u8 src_A4_, .int .u8 src_A5_, .int .u8 src_A6_, .int .u8 src_A7_, .int .u8 src_A8_, .int .u8 src_A9_, .int .u8 src_A10_, .int .u8 src_A11_, .int .u8 src_A12_, .int .u8 src_A13_, .int .u8 src_A14_, .int .u8 src_A15_] 31) fun g1 w1 =>
  NewVC w1 (.cells #[.int .i64 dst_V, .int .u8 dst_A0_, .int .u8 dst_A1_, .int .u8 dst_A2_, .int .u8 dst_A3_, .int .u8 dst_A4_, .int .u8 dst_A5_, .int .u8 dst_A6_, .int .u8 dst_A7_, .int .u8 dst_A8_, .int .u8 dst_A9_, .int .u8 dst_A10_, .int .u8 dst_A11_, .int .u8 dst_A12_, .int .u8 dst_A13_, .int .u8 dst_A14_, .int .u8 dst_A15_] 31) fun g2 w2 =>
  NewVC w2 (.cells #[.int .i64 0, .int .i64 0, .int .i64 0, .int .i64 0, .slice none 0 0] 24) fun g3 w3 =>
  JoinVC (S := Unit) (fun J3 =>
      Br (decide ((65515 : Int) < (bn : Int)))
        (SetVC w3 ⟨g3, 0, none⟩ (.int .i64 0) fun w4 =>
        SetVC w4 ⟨g3, 1, none⟩ (.int .i64 0) fun w5 =>
        SetVC w5 ⟨g3, 2, none⟩ (.int .i64 0) fun w6 =>
        SetVC w6 ⟨g3, 3, none⟩ (.int .i64 0) fun w7 =>
        SetVC w7 ⟨g3, 4, none⟩ (.slice none 0 0) fun w8 =>
        ∃ res0 : Int, ∃ res1 : Int, ∃ res2 : Int, ∃ res3 : Int, ∃ (res4A : Option Addr) (res4n res4c : Nat), CellsAt w8 ⟨g3, 0, none⟩ 0 [.int .i64 res0, .int .i64 res1, .int .i64 res2, .int .i64 res3, .slice res4A res4n res4c] ∧
  R (.returned (.tuple #[.agg #[.int .i64 res0, .int .i64 res1, .int .i64 res2, .int .i64 res3, .slice res4A res4n res4c], .int .i64 2])) w8)
        (Br (decide (v_ ≠ 4))
          (Br (decide (v_ ≠ 6))
          (SetVC w3 ⟨g3, 0, none⟩ (.int .i64 0) fun w9 =>
          SetVC w9 ⟨g3, 1, none⟩ (.int .i64 0) fun w10 =>
          SetVC w10 ⟨g3, 2, none⟩ (.int .i64 0) fun w11 =>
          SetVC w11 ⟨g3, 3, none⟩ (.int .i64 0) fun w12 =>
          SetVC w12 ⟨g3, 4, none⟩ (.slice none 0 0) fun w13 =>
          ∃ res01 : Int, ∃ res11 : Int, ∃ res21 : Int, ∃ res31 : Int, ∃ (res4A1 : Option Addr) (res4n1 res4c1 : Nat), CellsAt w13 ⟨g3, 0, none⟩ 0 [.int .i64 res01, .int .i64 res11, .int .i64 res21, .int .i64 res31, .slice res4A1 res4n1 res4c1] ∧
  R (.returned (.tuple #[.agg #[.int .i64 res01, .int .i64 res11, .int .i64 res21, .int .i64 res31, .slice res4A1 res4n1 res4c1], .int .i64 1])) w13)
          (J3 () w3))
          (J3 () w3)))
    (fun _ w14 => icmp_Parse_J3 R v_ bA bn bc g1 g2 g3 w14)
def icmp_Parse_H : Hints := [(3, [])]
set_option maxRecDepth 100000 in
theorem icmp_Parse_of (v_ : Int) (src_V : Int) (src_A0_ : Int) (src_A1_ : Int) (src_A2_ : Int) (src_A3_ : Int) (src_A4_ : Int) (src_A5_ : Int) (src_A6_ : Int) (src_A7_ : Int) (src_A8_ : Int) (src_A9_ : Int) (src_A10_ : Int) (src_A11_ : Int) (src_A12_ : Int) (src_A13_ : Int) (src_A14_ : Int) (src_A15_ : Int) (dst_V : Int) (dst_A0_ : Int) (dst_A1_ : Int) (dst_A2_ : Int) (dst_A3_ : Int) (dst_A4_ : Int) (dst_A5_ : Int) (dst_A6_ : Int) (dst_A7_ : Int) (dst_A8_ : Int) (dst_A9_ : Int) (dst_A10_ : Int) (dst_A11_ : Int) (dst_A12_ : Int) (dst_A13_ : Int) (dst_A14_ : Int) (dst_A15_ : Int) (bA : Option Addr) (bn : Nat) (bc : Nat) (w : World) (R : Ending → World → Prop) (h : icmp_Parse_VC v_ src_V src_A0_ src_A1_ src_A2_ src_A3_ src_A4_ src_A5_ src_A6_ src_A7_ src_A8_ src_A9_ src_A10_ src_A11_ src_A12_ src_A13_ src_A14_ src_A15_ dst_V dst_A0_ dst_A1_ dst_A2_ dst_A3_ dst_A4_ dst_A5_ dst_A6_ dst_A7_ dst_A8_ dst_A9_ dst_A10_ dst_A11_ dst_A12_ dst_A13_ dst_A14_ dst_A15_ bA bn bc w R) :
    Calls Tryd.prog 29 #[.int .i64 v_, .agg #[.int .i64 src_V, .int .u8 src_A0_, .int .u8 src_A1_, .int .u8 src_A2_, .int .u8 src_A3_, .int .u8 src_A4_, .int .u8 src_A5_, .int .u8 src_A6_, .int .u8 src_A7_, .int .u8 src_A8_, .int .u8 src_A9_, .int .u8 src_A10_, .int .u8 src_A11_, .int .u8 src_A12_, .int .u8 src_A13_, .int .u8 src_A14_, .int .u8 src_A15_], .agg #[.int .i64 dst_V, .int .u8 dst_A0_, .int .u8 dst_A1_, .int .u8 dst_A2_, .int .u8 dst_A3_, .int .u8 dst_A4_, .int .u8 dst_A5_, .int .u8 dst_A6_, .int .u8 dst_A7_, .int .u8 dst_A8_, .int .u8 dst_A9_, .int .u8 dst_A10_, .int .u8 dst_A11_, .int .u8 dst_A12_, .int .u8 dst_A13_, .int .u8 dst_A14_, .int .u8 dst_A15_], .slice bA bn bc] w R :=
  calls_of_wpc callOk mixedOk (H := icmp_Parse_H) (args := [.int .i64 v_, .agg #[.int .i64 src_V, .int .u8 src_A0_, .int .u8 src_A1_, .int .u8 src_A2_, .int .u8 src_A3_, .int .u8 src_A4_, .int .u8 src_A5_, .int .u8 src_A6_, .int .u8 src_A7_, .int .u8 src_A8_, .int .u8 src_A9_, .int .u8 src_A10_, .int .u8 src_A11_, .int .u8 src_A12_, .int .u8 src_A13_, .int .u8 src_A14_, .int .u8 src_A15_], .agg #[.int .i64 dst_V, .int .u8 dst_A0_, .int .u8 dst_A1_, .int .u8 dst_A2_, .int .u8 dst_A3_, .int .u8 dst_A4_, .int .u8 dst_A5_, .int .u8 dst_A6_, .int .u8 dst_A7_, .int .u8 dst_A8_, .int .u8 dst_A9_, .int .u8 dst_A10_, .int .u8 dst_A11_, .int .u8 dst_A12_, .int .u8 dst_A13_, .int .u8 dst_A14_, .int .u8 dst_A15_], .slice bA bn bc]) (fn := Tryd.f29) (c := bodyOf Tryd.f29) Tryd.func29 rfl (Nat.le_of_ble_eq_true rfl)
    (Eq.mp (by kernel_rfl : icmp_Parse_VC v_ src_V src_A0_ src_A1_ src_A2_ src_A3_ src_A4_ src_A5_ src_A6_ src_A7_ src_A8_ src_A9_ src_A10_ src_A11_ src_A12_ src_A13_ src_A14_ src_A15_ dst_V dst_A0_ dst_A1_ dst_A2_ dst_A3_ dst_A4_ dst_A5_ dst_A6_ dst_A7_ dst_A8_ dst_A9_ dst_A10_ dst_A11_ dst_A12_ dst_A13_ dst_A14_ dst_A15_ bA bn bc w R = wpc Tryd.prog callF Tryd.f29.ntmps icmp_Parse_H 1 (bodyOf Tryd.f29) (argEnv 0 [.int .i64 v_, .agg #[.int .i64 src_V, .int .u8 src_A0_, .int .u8 src_A1_, .int .u8 src_A2_, .int .u8 src_A3_, .int .u8 src_A4_, .int .u8 src_A5_, .int .u8 src_A6_, .int .u8 src_A7_, .int .u8 src_A8_, .int .u8 src_A9_, .int .u8 src_A10_, .int .u8 src_A11_, .int .u8 src_A12_, .int .u8 src_A13_, .int .u8 src_A14_, .int .u8 src_A15_], .agg #[.int .i64 dst_V, .int .u8 dst_A0_, .int .u8 dst_A1_, .int .u8 dst_A2_, .int .u8 dst_A3_, .int .u8 dst_A4_, .int .u8 dst_A5_, .int .u8 dst_A6_, .int .u8 dst_A7_, .int .u8 dst_A8_, .int .u8 dst_A9_, .int .u8 dst_A10_, .int .u8 dst_A11_, .int .u8 dst_A12_, .int .u8 dst_A13_, .int .u8 dst_A14_, .int .u8 dst_A15_], .slice bA bn bc]) [] w (finish Tryd.prog callF Tryd.f29.results.toList R)) h)

set_option maxRecDepth 100000 in
def weirref8_Parse_J463 (R : Ending → World → Prop) (v_ : Int) (bA : Option Addr) (bn : Nat) (bc : Nat) (g1 : Nat) (g2 : Nat) (g3 : Nat) (g4 : Nat) (t25_ : Bool) (w17 : World) : Prop :=
  Br t25_
    (∃ x04 : Int, ∃ x18 : Int, ∃ x24 : Int, ∃ x34 : Int, ∃ (x4A2 : Option Addr) (x4n2 x4c2 : Nat), CellsAt w17 ⟨g4, 0, none⟩ 0 [.int .i64 x04, .int .i64 x18, .int .i64 x24, .int .i64 x34, .slice x4A2 x4n2 x4c2] ∧
    SetVC w17 ⟨g3, 0, none⟩ (.int .i64 x04) fun w18 =>
    SetVC w18 ⟨g3, 1, none⟩ (.int .i64 x18) fun w19 =>
    SetVC w19 ⟨g3, 2, none⟩ (.int .i64 x24) fun w20 =>
    SetVC w20 ⟨g3, 3, none⟩ (.int .i64 x34) fun w21 =>
    SetVC w21 ⟨g3, 4, none⟩ (.slice x4A2 x4n2 x4c2) fun w22 =>
    ∃ res02 : Int, ∃ res12 : Int, ∃ res22 : Int, ∃ res32 : Int, ∃ (res4A2 : Option Addr) (res4n2 res4c2 : Nat), CellsAt w22 ⟨g3, 0, none⟩ 0 [.int .i64 res02, .int .i64 res12, .int .i64 res22, .int .i64 res32, .slice res4A2 res4n2 res4c2] ∧
  R (.returned (.tuple #[.agg #[.int .i64 res02, .int .i64 res12, .int .i64 res22, .int .i64 res32, .slice res4A2 res4n2 res4c2], .int .i64 20])) w22)
    (Br (decide ((bn : Int) < 8))
      (∃ x05 : Int, ∃ x19 : Int, ∃ x25 : Int, ∃ x35 : Int, ∃ (x4A3 : Option Addr) (x4n3 x4c3 : Nat), CellsAt w17 ⟨g4, 0, none⟩ 0 [.int .i64 x05, .int .i64 x19, .int .i64 x25, .int .i64 x35, .slice x4A3 x4n3 x4c3] ∧
      SetVC w17 ⟨g3, 0, none⟩ (.int .i64 x05) fun w23 =>
      SetVC w23 ⟨g3, 1, none⟩ (.int .i64 x19) fun w24 =>
      SetVC w24 ⟨g3, 2, none⟩ (.int .i64 x25) fun w25 =>
      SetVC w25 ⟨g3, 3, none⟩ (.int .i64 x35) fun w26 =>
      SetVC w26 ⟨g3, 4, none⟩ (.slice x4A3 x4n3 x4c3) fun w27 =>
      ∃ res03 : Int, ∃ res13 : Int, ∃ res23 : Int, ∃ res33 : Int, ∃ (res4A3 : Option Addr) (res4n3 res4c3 : Nat), CellsAt w27 ⟨g3, 0, none⟩ 0 [.int .i64 res03, .int .i64 res13, .int .i64 res23, .int .i64 res33, .slice res4A3 res4n3 res4c3] ∧
  R (.returned (.tuple #[.agg #[.int .i64 res03, .int .i64 res13, .int .i64 res23, .int .i64 res33, .slice res4A3 res4n3 res4c3], .int .i64 80])) w27)
      (∃ x06 : Int, ∃ x110 : Int, ∃ x26 : Int, ∃ x36 : Int, ∃ x42 : Int, ∃ x52 : Int, ∃ x62 : Int, ∃ x72 : Int, ∃ x82 : Int, ∃ x92 : Int, ∃ x102 : Int, ∃ x113 : Int, ∃ x123 : Int, ∃ x132 : Int, ∃ x142 : Int, ∃ x152 : Int, ∃ x162 : Int, CellsAt w17 ⟨g1, 0, none⟩ 0 [.int .i64 x06, .int .u8 x110, .int .u8 x26, .int .u8 x36, .int .u8 x42, .int .u8 x52, .int .u8 x62, .int .u8 x72, .int .u8 x82, .int .u8 x92, .int .u8 x102, .int .u8 x113, .int .u8 x123, .int .u8 x132, .int .u8 x142, .int .u8 x152, .int .u8 x162] ∧
      ∃ x07 : Int, ∃ x114 : Int, ∃ x27 : Int, ∃ x37 : Int, ∃ x43 : Int, ∃ x53 : Int, ∃ x63 : Int, ∃ x73 : Int, ∃ x83 : Int, ∃ x93 : Int, ∃ x103 : Int, ∃ x115 : Int, ∃ x124 : Int, ∃ x133 : Int, ∃ x143 : Int, ∃ x153 : Int, ∃ x163 : Int, CellsAt w17 ⟨g2, 0, none⟩ 0 [.int .i64 x07, .int .u8 x114, .int .u8 x27, .int .u8 x37, .int .u8 x43, .int .u8 x53, .int .u8 x63, .int .u8 x73, .int .u8 x83, .int .u8 x93, .int .u8 x103, .int .u8 x115, .int .u8 x124, .int .u8 x133, .int .u8 x143, .int .u8 x153, .int .u8 x163] ∧
      Calls Tryd.prog 63 #[.int .i64 v_, .agg #[.int .i64 x06, .int .u8 x110, .int .u8 x26, .int .u8 x36, .int .u8 x42, .int .u8 x52, .int .u8 x62, .int .u8 x72, .int .u8 x82, .int .u8 x92, .int .u8 x102, .int .u8 x113, .int .u8 x123, .int .u8 x132, .int .u8 x142, .int .u8 x152, .int .u8 x162], .agg #[.int .i64 x07, .int .u8 x114, .int .u8 x27, .int .u8 x37, .int .u8 x43, .int .u8 x53, .int .u8 x63, .int .u8 x73, .int .u8 x83, .int .u8 x93, .int .u8 x103, .int .u8 x115, .int .u8 x124, .int .u8 x133, .int .u8 x143, .int .u8 x153, .int .u8 x163], .slice bA bn bc] w17 (onRet (fun r_1 w28 => ∃ (xA : Option Addr) (xn xc : Nat), r_1 = .slice xA xn xc ∧
      Calls Tryd.prog 66 #[.slice xA xn xc] w28 (onRet (fun r_2 w29 => ∃ x20 : Bool, r_2 = .bool x20 ∧
      Br (!x20)
        (∃ x08 : Int, ∃ x116 : Int, ∃ x28 : Int, ∃ x38 : Int, ∃ (x4A4 : Option Addr) (x4n4 x4c4 : Nat), CellsAt w29 ⟨g4, 0, none⟩ 0 [.int .i64 x08, .int .i64 x116, .int .i64 x28, .int .i64 x38, .slice x4A4 x4n4 x4c4] ∧
        SetVC w29 ⟨g3, 0, none⟩ (.int .i64 x08) fun w30 =>
        SetVC w30 ⟨g3, 1, none⟩ (.int .i64 x116) fun w31 =>
        SetVC w31 ⟨g3, 2, none⟩ (.int .i64 x28) fun w32 =>
        SetVC w32 ⟨g3, 3, none⟩ (.int .i64 x38) fun w33 =>
        SetVC w33 ⟨g3, 4, none⟩ (.slice x4A4 x4n4 x4c4) fun w34 =>
        ∃ res04 : Int, ∃ res14 : Int, ∃ res24 : Int, ∃ res34 : Int, ∃ (res4A4 : Option Addr) (res4n4 res4c4 : Nat), CellsAt w34 ⟨g3, 0, none⟩ 0 [.int .i64 res04, .int .i64 res14, .int .i64 res24, .int .i64 res34, .slice res4A4 res4n4 res4c4] ∧
  R (.returned (.tuple #[.agg #[.int .i64 res04, .int .i64 res14, .int .i64 res24, .int .i64 res34, .slice res4A4 res4n4 res4c4], .int .i64 81])) w34)
        (DrawVC w29 fun S1 w35 =>
  IdxVC bA bn 1 4 fun a =>
  ∃ x29 : Int, (∀ w' : World, S1 w' → w'.cell? a = some (.int .u8 x29)) ∧
  IdxVC bA bn 1 5 fun a1 =>
  ∃ x30 : Int, (∀ w' : World, S1 w' → w'.cell? a1 = some (.int .u8 x30)) ∧
  IdxVC bA bn 1 6 fun a2 =>
  ∃ x39 : Int, (∀ w' : World, S1 w' → w'.cell? a2 = some (.int .u8 x39)) ∧
  IdxVC bA bn 1 7 fun a3 =>
  ∃ x40 : Int, (∀ w' : World, S1 w' → w'.cell? a3 = some (.int .u8 x40)) ∧
  DrawVC w35 fun S2 w36 =>
  IdxVC bA bn 1 0 fun a4 =>
  ∃ x44 : Int, (∀ w' : World, S2 w' → w'.cell? a4 = some (.int .u8 x44)) ∧
  IdxVC bA bn 1 1 fun a5 =>
  ∃ x45 : Int, (∀ w' : World, S2 w' → w'.cell? a5 = some (.int .u8 x45)) ∧
  Calls Tryd.prog 54 #[.slice bA bn bc, .int .i64 8, .int .i64 (bn : Int)] w36 (onRet (fun r_3 w37 => ∃ (xA1 : Option Addr) (xn1 xc1 : Nat), r_3 = .slice xA1 xn1 xc1 ∧
  S2 w37 ∧
  SetVC w37 ⟨g3, 0, none⟩ (.int .i64 v_) fun w38 =>
  SetVC w38 ⟨g3, 1, none⟩ (.int .i64 (IntKind.i64.wrap x44)) fun w39 =>
  SetVC w39 ⟨g3, 2, none⟩ (.int .i64 (IntKind.i64.wrap x45)) fun w40 =>
  SetVC w40 ⟨g3, 3, none⟩ (.int .i64 (IntKind.i64.wrap (IntKind.i64.wrap (IntKind.i64.wrap (IntKind.i64.wrap (IntKind.i64.wrap x29 * 16777216) + IntKind.i64.wrap (IntKind.i64.wrap x30 * 65536)) + IntKind.i64.wrap (IntKind.i64.wrap x39 * 256)) + IntKind.i64.wrap x40))) fun w41 =>
  SetVC w41 ⟨g3, 4, none⟩ (.slice xA1 xn1 xc1) fun w42 =>
  S2 w42 ∧
  ∃ res05 : Int, ∃ res15 : Int, ∃ res25 : Int, ∃ res35 : Int, ∃ (res4A5 : Option Addr) (res4n5 res4c5 : Nat), CellsAt w42 ⟨g3, 0, none⟩ 0 [.int .i64 res05, .int .i64 res15, .int .i64 res25, .int .i64 res35, .slice res4A5 res4n5 res4c5] ∧
  R (.returned (.tuple #[.agg #[.int .i64 res05, .int .i64 res15, .int .i64 res25, .int .i64 res35, .slice res4A5 res4n5 res4c5], .int .i64 0])) w42)
    (fun _ _ => False))))
        (fun ch2 w29 => R (.panicked ch2) w29)))
        (fun ch1 w28 => R (.panicked ch1) w28))))
set_option maxRecDepth 100000 in
def weirref8_Parse_J115 (R : Ending → World → Prop) (v_ : Int) (bA : Option Addr) (bn : Nat) (bc : Nat) (g1 : Nat) (g2 : Nat) (g3 : Nat) (g4 : Nat) (t17_ : Bool) (w10 : World) : Prop :=
  Br t17_
    (∃ x01 : Int, ∃ x11 : Int, ∃ x21 : Int, ∃ x31 : Int, ∃ (x4A1 : Option Addr) (x4n1 x4c1 : Nat), CellsAt w10 ⟨g4, 0, none⟩ 0 [.int .i64 x01, .int .i64 x11, .int .i64 x21, .int .i64 x31, .slice x4A1 x4n1 x4c1] ∧
    SetVC w10 ⟨g3, 0, none⟩ (.int .i64 x01) fun w11 =>
    SetVC w11 ⟨g3, 1, none⟩ (.int .i64 x11) fun w12 =>
    SetVC w12 ⟨g3, 2, none⟩ (.int .i64 x21) fun w13 =>
    SetVC w13 ⟨g3, 3, none⟩ (.int .i64 x31) fun w14 =>
    SetVC w14 ⟨g3, 4, none⟩ (.slice x4A1 x4n1 x4c1) fun w15 =>
    ∃ res01 : Int, ∃ res11 : Int, ∃ res21 : Int, ∃ res31 : Int, ∃ (res4A1 : Option Addr) (res4n1 res4c1 : Nat), CellsAt w15 ⟨g3, 0, none⟩ 0 [.int .i64 res01, .int .i64 res11, .int .i64 res21, .int .i64 res31, .slice res4A1 res4n1 res4c1] ∧
  R (.returned (.tuple #[.agg #[.int .i64 res01, .int .i64 res11, .int .i64 res21, .int .i64 res31, .slice res4A1 res4n1 res4c1], .int .i64 1])) w15)
    (JoinVC (S := Bool) (fun J463 =>
        Br (decide (v_ = 6))
          (∃ x02 : Int, ∃ x12 : Int, ∃ x22 : Int, ∃ x32 : Int, ∃ x4 : Int, ∃ x5 : Int, ∃ x6 : Int, ∃ x7 : Int, ∃ x8 : Int, ∃ x9 : Int, ∃ x10 : Int, ∃ x111 : Int, ∃ x121 : Int, ∃ x13 : Int, ∃ x14 : Int, ∃ x15 : Int, ∃ x16 : Int, CellsAt w10 ⟨g1, 0, none⟩ 0 [.int .i64 x02, .int .u8 x12, .int .u8 x22, .int .u8 x32, .int .u8 x4, .int .u8 x5, .int .u8 x6, .int .u8 x7, .int .u8 x8, .int .u8 x9, .int .u8 x10, .int .u8 x111, .int .u8 x121, .int .u8 x13, .int .u8 x14, .int .u8 x15, .int .u8 x16] ∧
          ∃ x03 : Int, ∃ x17 : Int, ∃ x23 : Int, ∃ x33 : Int, ∃ x41 : Int, ∃ x51 : Int, ∃ x61 : Int, ∃ x71 : Int, ∃ x81 : Int, ∃ x91 : Int, ∃ x101 : Int, ∃ x112 : Int, ∃ x122 : Int, ∃ x131 : Int, ∃ x141 : Int, ∃ x151 : Int, ∃ x161 : Int, CellsAt w10 ⟨g2, 0, none⟩ 0 [.int .i64 x03, .int .u8 x17, .int .u8 x23, .int .u8 x33, .int .u8 x41, .int .u8 x51, .int .u8 x61, .int .u8 x71, .int .u8 x81, .int .u8 x91, .int .u8 x101, .int .u8 x112, .int .u8 x122, .int .u8 x131, .int .u8 x141, .int .u8 x151, .int .u8 x161] ∧
          Calls Tryd.prog 61 #[.agg #[.int .i64 x02, .int .u8 x12, .int .u8 x22, .int .u8 x32, .int .u8 x4, .int .u8 x5, .int .u8 x6, .int .u8 x7, .int .u8 x8, .int .u8 x9, .int .u8 x10, .int .u8 x111, .int .u8 x121, .int .u8 x13, .int .u8 x14, .int .u8 x15, .int .u8 x16], .agg #[.int .i64 x03, .int .u8 x17, .int .u8 x23, .int .u8 x33, .int .u8 x41, .int .u8 x51, .int .u8 x61, .int .u8 x71, .int .u8 x81, .int .u8 x91, .int .u8 x101, .int .u8 x112, .int .u8 x122, .int .u8 x131, .int .u8 x141, .int .u8 x151, .int .u8 x161]] w10 (onRet (fun r_ w16 => ∃ x : Bool, r_ = .bool x ∧
          J463 (!x) w16)
            (fun ch w16 => R (.panicked ch) w16)))
          (J463 false w10))
      (fun s w17 => weirref8_Parse_J463 R v_ bA bn bc g1 g2 g3 g4 s w17))
set_option maxRecDepth 100000 in
def weirref8_Parse_VC (v_ : Int) (src_V : Int) (src_A0_ : Int) (src_A1_ : Int) (src_A2_ : Int) (src_A3_ : Int) (src_A4_ : Int) (src_A5_ : Int) (src_A6_ : Int) (src_A7_ : Int) (src_A8_ : Int) (src_A9_ : Int) (src_A10_ : Int) (src_A11_ : Int) (src_A12_ : Int) (src_A13_ : Int) (src_A14_ : Int) (src_A15_ : Int) (dst_V : Int) (dst_A0_ : Int) (dst_A1_ : Int) (dst_A2_ : Int) (dst_A3_ : Int) (dst_A4_ : Int) (dst_A5_ : Int) (dst_A6_ : Int) (dst_A7_ : Int) (dst_A8_ : Int) (dst_A9_ : Int) (dst_A10_ : Int) (dst_A11_ : Int) (dst_A12_ : Int) (dst_A13_ : Int) (dst_A14_ : Int) (dst_A15_ : Int) (bA : Option Addr) (bn : Nat) (bc : Nat) (w : World) (R : Ending → World → Prop) : Prop :=
  NewVC w (.cells #[.int .i64 src_V, .int .u8 src_A0_, .int .u8 src_A1_, .int .u8 src_A2_, .int .u8 src_A3_, .int .u8 src_A4_, .int .u8 src_A5_, .int .u8 src_A6_, .int .u8 src_A7_, .int .u8 src_A8_, .int .u8 src_A9_, .int .u8 src_A10_, .int .u8 src_A11_, .int .u8 src_A12_, .int .u8 src_A13_, .int .u8 src_A14_, .int .u8 src_A15_] 31) fun g1 w1 =>
  NewVC w1 (.cells #[.int .i64 dst_V, .int .u8 dst_A0_, .int .u8 dst_A1_, .int .u8 dst_A2_, .int .u8 dst_A3_, .int .u8 dst_A4_, .int .u8 dst_A5_, .int .u8 dst_A6_, .int .u8 dst_A7_, .int .u8 dst_A8_, .int .u8 dst_A9_, .int .u8 dst_A10_, .int .u8 dst_A11_, .int .u8 dst_A12_, .int .u8 dst_A13_, .int .u8 dst_A14_, .int .u8 dst_A15_] 31) fun g2 w2 =>
  NewVC w2 (.cells #[.int .i64 0, .int .i64 0, .int .i64 0, .int .i64 0, .slice none 0 0] 24) fun g3 w3 =>
  NewVC w3 (.cells #[.int .i64 0, .int .i64 0, .int .i64 0, .int .i64 0, .slice none 0 0] 24) fun g4 w4 =>
  Br (decide ((65515 : Int) < (bn : Int)))
    (∃ x0 : Int, ∃ x1 : Int, ∃ x2 : Int, ∃ x3 : Int, ∃ (x4A : Option Addr) (x4n x4c : Nat), CellsAt w4 ⟨g4, 0, none⟩ 0 [.int .i64 x0, .int .i64 x1, .int .i64 x2, .int .i64 x3, .slice x4A x4n x4c] ∧
    SetVC w4 ⟨g3, 0, none⟩ (.int .i64 x0) fun w5 =>
    SetVC w5 ⟨g3, 1, none⟩ (.int .i64 x1) fun w6 =>
    SetVC w6 ⟨g3, 2, none⟩ (.int .i64 x2) fun w7 =>
    SetVC w7 ⟨g3, 3, none⟩ (.int .i64 x3) fun w8 =>
    SetVC w8 ⟨g3, 4, none⟩ (.slice x4A x4n x4c) fun w9 =>
    ∃ res0 : Int, ∃ res1 : Int, ∃ res2 : Int, ∃ res3 : Int, ∃ (res4A : Option Addr) (res4n res4c : Nat), CellsAt w9 ⟨g3, 0, none⟩ 0 [.int .i64 res0, .int .i64 res1, .int .i64 res2, .int .i64 res3, .slice res4A res4n res4c] ∧
  R (.returned (.tuple #[.agg #[.int .i64 res0, .int .i64 res1, .int .i64 res2, .int .i64 res3, .slice res4A res4n res4c], .int .i64 2])) w9)
    (JoinVC (S := Bool) (fun J115 =>
        Br (decide (v_ ≠ 4))
          (J115 (decide (v_ ≠ 6)) w4)
          (J115 false w4))
      (fun s w10 => weirref8_Parse_J115 R v_ bA bn bc g1 g2 g3 g4 s w10))
def weirref8_Parse_H : Hints := [(115, [(17, .bool)]), (463, [(25, .bool)])]
set_option maxRecDepth 100000 in
theorem weirref8_Parse_of (v_ : Int) (src_V : Int) (src_A0_ : Int) (src_A1_ : Int) (src_A2_ : Int) (src_A3_ : Int) (src_A4_ : Int) (src_A5_ : Int) (src_A6_ : Int) (src_A7_ : Int) (src_A8_ : Int) (src_A9_ : Int) (src_A10_ : Int) (src_A11_ : Int) (src_A12_ : Int) (src_A13_ : Int) (src_A14_ : Int) (src_A15_ : Int) (dst_V : Int) (dst_A0_ : Int) (dst_A1_ : Int) (dst_A2_ : Int) (dst_A3_ : Int) (dst_A4_ : Int) (dst_A5_ : Int) (dst_A6_ : Int) (dst_A7_ : Int) (dst_A8_ : Int) (dst_A9_ : Int) (dst_A10_ : Int) (dst_A11_ : Int) (dst_A12_ : Int) (dst_A13_ : Int) (dst_A14_ : Int) (dst_A15_ : Int) (bA : Option Addr) (bn : Nat) (bc : Nat) (w : World) (R : Ending → World → Prop) (h : weirref8_Parse_VC v_ src_V src_A0_ src_A1_ src_A2_ src_A3_ src_A4_ src_A5_ src_A6_ src_A7_ src_A8_ src_A9_ src_A10_ src_A11_ src_A12_ src_A13_ src_A14_ src_A15_ dst_V dst_A0_ dst_A1_ dst_A2_ dst_A3_ dst_A4_ dst_A5_ dst_A6_ dst_A7_ dst_A8_ dst_A9_ dst_A10_ dst_A11_ dst_A12_ dst_A13_ dst_A14_ dst_A15_ bA bn bc w R) :
    Calls Tryd.prog 30 #[.int .i64 v_, .agg #[.int .i64 src_V, .int .u8 src_A0_, .int .u8 src_A1_, .int .u8 src_A2_, .int .u8 src_A3_, .int .u8 src_A4_, .int .u8 src_A5_, .int .u8 src_A6_, .int .u8 src_A7_, .int .u8 src_A8_, .int .u8 src_A9_, .int .u8 src_A10_, .int .u8 src_A11_, .int .u8 src_A12_, .int .u8 src_A13_, .int .u8 src_A14_, .int .u8 src_A15_], .agg #[.int .i64 dst_V, .int .u8 dst_A0_, .int .u8 dst_A1_, .int .u8 dst_A2_, .int .u8 dst_A3_, .int .u8 dst_A4_, .int .u8 dst_A5_, .int .u8 dst_A6_, .int .u8 dst_A7_, .int .u8 dst_A8_, .int .u8 dst_A9_, .int .u8 dst_A10_, .int .u8 dst_A11_, .int .u8 dst_A12_, .int .u8 dst_A13_, .int .u8 dst_A14_, .int .u8 dst_A15_], .slice bA bn bc] w R :=
  calls_of_wpc callOk mixedOk (H := weirref8_Parse_H) (args := [.int .i64 v_, .agg #[.int .i64 src_V, .int .u8 src_A0_, .int .u8 src_A1_, .int .u8 src_A2_, .int .u8 src_A3_, .int .u8 src_A4_, .int .u8 src_A5_, .int .u8 src_A6_, .int .u8 src_A7_, .int .u8 src_A8_, .int .u8 src_A9_, .int .u8 src_A10_, .int .u8 src_A11_, .int .u8 src_A12_, .int .u8 src_A13_, .int .u8 src_A14_, .int .u8 src_A15_], .agg #[.int .i64 dst_V, .int .u8 dst_A0_, .int .u8 dst_A1_, .int .u8 dst_A2_, .int .u8 dst_A3_, .int .u8 dst_A4_, .int .u8 dst_A5_, .int .u8 dst_A6_, .int .u8 dst_A7_, .int .u8 dst_A8_, .int .u8 dst_A9_, .int .u8 dst_A10_, .int .u8 dst_A11_, .int .u8 dst_A12_, .int .u8 dst_A13_, .int .u8 dst_A14_, .int .u8 dst_A15_], .slice bA bn bc]) (fn := Tryd.f30) (c := bodyOf Tryd.f30) Tryd.func30 rfl (Nat.le_of_ble_eq_true rfl)
    (Eq.mp (by kernel_rfl : weirref8_Parse_VC v_ src_V src_A0_ src_A1_ src_A2_ src_A3_ src_A4_ src_A5_ src_A6_ src_A7_ src_A8_ src_A9_ src_A10_ src_A11_ src_A12_ src_A13_ src_A14_ src_A15_ dst_V dst_A0_ dst_A1_ dst_A2_ dst_A3_ dst_A4_ dst_A5_ dst_A6_ dst_A7_ dst_A8_ dst_A9_ dst_A10_ dst_A11_ dst_A12_ dst_A13_ dst_A14_ dst_A15_ bA bn bc w R = wpc Tryd.prog callF Tryd.f30.ntmps weirref8_Parse_H 1 (bodyOf Tryd.f30) (argEnv 0 [.int .i64 v_, .agg #[.int .i64 src_V, .int .u8 src_A0_, .int .u8 src_A1_, .int .u8 src_A2_, .int .u8 src_A3_, .int .u8 src_A4_, .int .u8 src_A5_, .int .u8 src_A6_, .int .u8 src_A7_, .int .u8 src_A8_, .int .u8 src_A9_, .int .u8 src_A10_, .int .u8 src_A11_, .int .u8 src_A12_, .int .u8 src_A13_, .int .u8 src_A14_, .int .u8 src_A15_], .agg #[.int .i64 dst_V, .int .u8 dst_A0_, .int .u8 dst_A1_, .int .u8 dst_A2_, .int .u8 dst_A3_, .int .u8 dst_A4_, .int .u8 dst_A5_, .int .u8 dst_A6_, .int .u8 dst_A7_, .int .u8 dst_A8_, .int .u8 dst_A9_, .int .u8 dst_A10_, .int .u8 dst_A11_, .int .u8 dst_A12_, .int .u8 dst_A13_, .int .u8 dst_A14_, .int .u8 dst_A15_], .slice bA bn bc]) [] w (finish Tryd.prog callF Tryd.f30.results.toList R)) h)

set_option maxRecDepth 100000 in
def weirref1_Part_L58 (R : Ending → World → Prop) (bA : Option Addr) (bn : Nat) (hi : Int) (lA : Option Addr) (ln : Nat) (lc : Nat) (i : Int) (w1 : World) (K58 : ((Option Addr × Nat × Nat) × Int → World → Prop)) : Prop :=
  Br (decide (i < hi))
    (IdxVC bA bn 1 i fun a =>
  ∃ x : Int, w1.cell? a = some (.int .u8 x) ∧
  NewVC w1 (.cells #[.int .u8 x] 5) fun g1 w2 =>
  AppVC Tryd.prog #[22, 22] 22 (.slice lA ln lc) (.slice (some ⟨g1, 0, none⟩) 1 1) w2 fun lA1 ln1 lc1 w3 =>
  K58 ((lA1, ln1, lc1), IntKind.i64.wrap (i + 1)) w3)
    (R (.returned (.slice lA ln lc)) w1)
set_option maxRecDepth 100000 in
def weirref1_Part_VC (bA : Option Addr) (bn : Nat) (_bc : Nat) (lo : Int) (hi : Int) (w : World) (R : Ending → World → Prop) : Prop :=
  LoopVC (S := (Option Addr × Nat × Nat) × Int) (fun s w1 K58 => weirref1_Part_L58 R bA bn hi s.1.1 s.1.2.1 s.1.2.2 s.2 w1 K58) ((none, 0, 0), lo) w
def weirref1_Part_H : Hints := [(58, [(7, .slice), (8, .int .i64)])]
set_option maxRecDepth 100000 in
theorem weirref1_Part_of (bA : Option Addr) (bn : Nat) (bc : Nat) (lo : Int) (hi : Int) (w : World) (R : Ending → World → Prop) (h : weirref1_Part_VC bA bn bc lo hi w R) :
    Calls Tryd.prog 54 #[.slice bA bn bc, .int .i64 lo, .int .i64 hi] w R :=
  calls_of_wpc callOk mixedOk (H := weirref1_Part_H) (args := [.slice bA bn bc, .int .i64 lo, .int .i64 hi]) (fn := Tryd.f54) (c := bodyOf Tryd.f54) Tryd.func54 rfl (Nat.le_of_ble_eq_true rfl)
    (Eq.mp (by kernel_rfl : weirref1_Part_VC bA bn bc lo hi w R = wpc Tryd.prog callF Tryd.f54.ntmps weirref1_Part_H 1 (bodyOf Tryd.f54) (argEnv 0 [.slice bA bn bc, .int .i64 lo, .int .i64 hi]) [] w (finish Tryd.prog callF Tryd.f54.results.toList R)) h)

def weirlaw8_firsts_D254 (R : Ending → World → Prop) (w78 : World) (g5 : Nat) (g2 : Nat) (g4 : Nat) (x18 : Int) (x114 : Int) : Prop :=
  ∃ x06 : Int, ∃ x115 : Int, ∃ x24 : Int, ∃ x34 : Int, ∃ x44 : Int, ∃ x54 : Int, ∃ x64 : Int, ∃ x74 : Int, ∃ x84 : Int, ∃ x94 : Int, ∃ x104 : Int, ∃ x116 : Int, ∃ x124 : Int, ∃ x134 : Int, ∃ x144 : Int, ∃ x154 : Int, ∃ x164 : Int, ∃ x171 : Int, ∃ x181 : Bool, ∃ x191 : Bool, ∃ x20 : Bool, ∃ x211 : Bool, ∃ x221 : Int, ∃ x231 : Int, ∃ x241 : Int, ∃ x25 : Int, ∃ x26 : Int, ∃ x27 : Int, CellsAt w78 ⟨g5, 0, none⟩ 0 [.int .i64 x06, .int .i64 x115, .int .u8 x24, .int .u8 x34, .int .u8 x44, .int .u8 x54, .int .u8 x64, .int .u8 x74, .int .u8 x84, .int .u8 x94, .int .u8 x104, .int .u8 x116, .int .u8 x124, .int .u8 x134, .int .u8 x144, .int .u8 x154, .int .u8 x164, .int .u8 x171, .bool x181, .bool x191, .bool x20, .bool x211, .int .u8 x221, .int .u8 x231, .int .u8 x241, .int .u8 x25, .int .u8 x26, .int .u8 x27] ∧
  Calls Tryd.prog 19 #[.agg #[.int .i64 x06, .int .i64 x115, .int .u8 x24, .int .u8 x34, .int .u8 x44, .int .u8 x54, .int .u8 x64, .int .u8 x74, .int .u8 x84, .int .u8 x94, .int .u8 x104, .int .u8 x116, .int .u8 x124, .int .u8 x134, .int .u8 x144, .int .u8 x154, .int .u8 x164, .int .u8 x171, .bool x181, .bool x191, .bool x20, .bool x211, .int .u8 x221, .int .u8 x231, .int .u8 x241, .int .u8 x25, .int .u8 x26, .int .u8 x27]] w78 (onRet (fun r_2 w79 => ∃ x002 : Int, ∃ x013 : Int, ∃ x022 : Int, ∃ x032 : Int, ∃ (x04A2 : Option Addr) (x04n2 x04c2 : Nat), ∃ x117 : Int, r_2 = .tuple #[.agg #[.int .i64 x002, .int .i64 x013, .int .i64 x022, .int .i64 x032, .slice x04A2 x04n2 x04c2], .int .i64 x117] ∧
  NewVC w79 (.cells #[.int .i64 0, .int .i64 0, .int .i64 0, .int .i64 0, .slice none 0 0] 24) fun g10 w80 =>
  SetVC w80 ⟨g10, 0, none⟩ (.int .i64 x002) fun w81 =>
  SetVC w81 ⟨g10, 1, none⟩ (.int .i64 x013) fun w82 =>
  SetVC w82 ⟨g10, 2, none⟩ (.int .i64 x022) fun w83 =>
  SetVC w83 ⟨g10, 3, none⟩ (.int .i64 x032) fun w84 =>
  SetVC w84 ⟨g10, 4, none⟩ (.slice x04A2 x04n2 x04c2) fun w85 =>
  ∃ x07 : Int, ∃ x118 : Int, ∃ x28 : Int, ∃ x35 : Int, ∃ x45 : Int, ∃ x55 : Int, ∃ x65 : Int, ∃ x75 : Int, ∃ x85 : Int, ∃ x95 : Int, ∃ x105 : Int, ∃ x119 : Int, ∃ x125 : Int, ∃ x135 : Int, ∃ x145 : Int, ∃ x155 : Int, ∃ x165 : Int, ∃ x172 : Int, ∃ x182 : Bool, ∃ x192 : Bool, ∃ x201 : Bool, ∃ x212 : Bool, ∃ x222 : Int, ∃ x232 : Int, ∃ x242 : Int, ∃ x251 : Int, ∃ x261 : Int, ∃ x271 : Int, CellsAt w85 ⟨g5, 0, none⟩ 0 [.int .i64 x07, .int .i64 x118, .int .u8 x28, .int .u8 x35, .int .u8 x45, .int .u8 x55, .int .u8 x65, .int .u8 x75, .int .u8 x85, .int .u8 x95, .int .u8 x105, .int .u8 x119, .int .u8 x125, .int .u8 x135, .int .u8 x145, .int .u8 x155, .int .u8 x165, .int .u8 x172, .bool x182, .bool x192, .bool x201, .bool x212, .int .u8 x222, .int .u8 x232, .int .u8 x242, .int .u8 x251, .int .u8 x261, .int .u8 x271] ∧
  Calls Tryd.prog 20 #[.agg #[.int .i64 x07, .int .i64 x118, .int .u8 x28, .int .u8 x35, .int .u8 x45, .int .u8 x55, .int .u8 x65, .int .u8 x75, .int .u8 x85, .int .u8 x95, .int .u8 x105, .int .u8 x119, .int .u8 x125, .int .u8 x135, .int .u8 x145, .int .u8 x155, .int .u8 x165, .int .u8 x172, .bool x182, .bool x192, .bool x201, .bool x212, .int .u8 x222, .int .u8 x232, .int .u8 x242, .int .u8 x251, .int .u8 x261, .int .u8 x271]] w85 (onRet (fun r_3 w86 => ∃ x003 : Int, ∃ x014 : Int, ∃ x023 : Int, ∃ x033 : Int, ∃ (x04A3 : Option Addr) (x04n3 x04c3 : Nat), ∃ x120 : Int, r_3 = .tuple #[.agg #[.int .i64 x003, .int .i64 x014, .int .i64 x023, .int .i64 x033, .slice x04A3 x04n3 x04c3], .int .i64 x120] ∧
  NewVC w86 (.cells #[.int .i64 0, .int .i64 0, .int .i64 0, .int .i64 0, .slice none 0 0] 24) fun g11 w87 =>
  SetVC w87 ⟨g11, 0, none⟩ (.int .i64 x003) fun w88 =>
  SetVC w88 ⟨g11, 1, none⟩ (.int .i64 x014) fun w89 =>
  SetVC w89 ⟨g11, 2, none⟩ (.int .i64 x023) fun w90 =>
  SetVC w90 ⟨g11, 3, none⟩ (.int .i64 x033) fun w91 =>
  SetVC w91 ⟨g11, 4, none⟩ (.slice x04A3 x04n3 x04c3) fun w92 =>
  DrawVC w92 fun S3 w93 =>
  ∃ x08 : Int, ∃ x126 : Int, ∃ x29 : Int, ∃ x36 : Int, ∃ (x4A : Option Addr) (x4n x4c : Nat), (∀ w' : World, S3 w' → CellsAt w' ⟨g2, 0, none⟩ 0 [.int .i64 x08, .int .i64 x126, .int .i64 x29, .int .i64 x36, .slice x4A x4n x4c]) ∧
  ∃ x09 : Int, ∃ x127 : Int, ∃ x210 : Int, ∃ x37 : Int, ∃ (x4A1 : Option Addr) (x4n1 x4c1 : Nat), (∀ w' : World, S3 w' → CellsAt w' ⟨g2, 0, none⟩ 0 [.int .i64 x09, .int .i64 x127, .int .i64 x210, .int .i64 x37, .slice x4A1 x4n1 x4c1]) ∧
  Calls Tryd.prog 24 #[.agg #[.int .i64 x08, .int .i64 x126, .int .i64 x29, .int .i64 x36, .slice x4A x4n x4c]] w93 (onRet (fun r_4 w94 => ∃ x : Int, r_4 = .int .i64 x ∧
  S3 w94 ∧
  Calls Tryd.prog 28 #[.agg #[.int .i64 x09, .int .i64 x127, .int .i64 x210, .int .i64 x37, .slice x4A1 x4n1 x4c1]] w94 (onRet (fun r_5 w95 => ∃ x30 : Int, r_5 = .int .i64 x30 ∧
  S3 w95 ∧
  Br (decide (x = x30))
    (∃ x010 : Int, ∃ x128 : Int, ∃ x213 : Int, ∃ x38 : Int, ∃ (x4A2 : Option Addr) (x4n2 x4c2 : Nat), (∀ w' : World, S3 w' → CellsAt w' ⟨g4, 0, none⟩ 0 [.int .i64 x010, .int .i64 x128, .int .i64 x213, .int .i64 x38, .slice x4A2 x4n2 x4c2]) ∧
    ∃ x015 : Int, ∃ x129 : Int, ∃ x214 : Int, ∃ x39 : Int, ∃ (x4A3 : Option Addr) (x4n3 x4c3 : Nat), (∀ w' : World, S3 w' → CellsAt w' ⟨g4, 0, none⟩ 0 [.int .i64 x015, .int .i64 x129, .int .i64 x214, .int .i64 x39, .slice x4A3 x4n3 x4c3]) ∧
    Calls Tryd.prog 24 #[.agg #[.int .i64 x010, .int .i64 x128, .int .i64 x213, .int .i64 x38, .slice x4A2 x4n2 x4c2]] w95 (onRet (fun r_6 w96 => ∃ x40 : Int, r_6 = .int .i64 x40 ∧
    S3 w96 ∧
    Calls Tryd.prog 28 #[.agg #[.int .i64 x015, .int .i64 x129, .int .i64 x214, .int .i64 x39, .slice x4A3 x4n3 x4c3]] w96 (onRet (fun r_7 w97 => ∃ x46 : Int, r_7 = .int .i64 x46 ∧
    S3 w97 ∧
    Br (decide (x40 = x46))
      (Br (decide (x18 = x114))
        (R (.returned (.bool (decide (x117 = x120)))) w97)
        (R (.returned (.bool false)) w97))
      (R (.returned (.bool false)) w97))
      (fun _ _ => False)))
      (fun _ _ => False)))
    (R (.returned (.bool false)) w95))
    (fun _ _ => False)))
    (fun _ _ => False)))
    (fun ch3 w86 => R (.panicked ch3) w86)))
    (fun ch2 w79 => R (.panicked ch2) w79))
def weirlaw8_firsts_D126 (R : Ending → World → Prop) (w69 : World) (g1 : Nat) (g5 : Nat) (g2 : Nat) (g4 : Nat) (x18 : Int) : Prop :=
  DrawVC w69 fun S2 w70 =>
  ∃ x04 : Int, ∃ x19 : Int, ∃ x22 : Int, ∃ x32 : Int, ∃ x42 : Int, ∃ x52 : Int, ∃ x62 : Int, ∃ x72 : Int, ∃ x82 : Int, ∃ x92 : Int, ∃ x102 : Int, ∃ x112 : Int, ∃ x122 : Int, ∃ x132 : Int, ∃ x142 : Int, ∃ x152 : Int, ∃ x162 : Int, (∀ w' : World, S2 w' → CellsAt w' ⟨g1, 0, none⟩ 0 [.int .i64 x04, .int .u8 x19, .int .u8 x22, .int .u8 x32, .int .u8 x42, .int .u8 x52, .int .u8 x62, .int .u8 x72, .int .u8 x82, .int .u8 x92, .int .u8 x102, .int .u8 x112, .int .u8 x122, .int .u8 x132, .int .u8 x142, .int .u8 x152, .int .u8 x162]) ∧
  ∃ x05 : Int, ∃ x110 : Int, ∃ x23 : Int, ∃ x33 : Int, ∃ x43 : Int, ∃ x53 : Int, ∃ x63 : Int, ∃ x73 : Int, ∃ x83 : Int, ∃ x93 : Int, ∃ x103 : Int, ∃ x113 : Int, ∃ x123 : Int, ∃ x133 : Int, ∃ x143 : Int, ∃ x153 : Int, ∃ x163 : Int, (∀ w' : World, S2 w' → CellsAt w' ⟨g1, 0, none⟩ 0 [.int .i64 x05, .int .u8 x110, .int .u8 x23, .int .u8 x33, .int .u8 x43, .int .u8 x53, .int .u8 x63, .int .u8 x73, .int .u8 x83, .int .u8 x93, .int .u8 x103, .int .u8 x113, .int .u8 x123, .int .u8 x133, .int .u8 x143, .int .u8 x153, .int .u8 x163]) ∧
  (MakeVC w70 5 1 [.int .u8 0] 65536 65536 fun g8 w71 =>
  S2 w71 ∧
  (Calls Tryd.prog 30 #[.int .i64 5, .agg #[.int .i64 x04, .int .u8 x19, .int .u8 x22, .int .u8 x32, .int .u8 x42, .int .u8 x52, .int .u8 x62, .int .u8 x72, .int .u8 x82, .int .u8 x92, .int .u8 x102, .int .u8 x112, .int .u8 x122, .int .u8 x132, .int .u8 x142, .int .u8 x152, .int .u8 x162], .agg #[.int .i64 x05, .int .u8 x110, .int .u8 x23, .int .u8 x33, .int .u8 x43, .int .u8 x53, .int .u8 x63, .int .u8 x73, .int .u8 x83, .int .u8 x93, .int .u8 x103, .int .u8 x113, .int .u8 x123, .int .u8 x133, .int .u8 x143, .int .u8 x153, .int .u8 x163], .slice (some ⟨g8, 0, none⟩) 65536 65536] w71 (onRet (fun r_1 w72 => ∃ x001 : Int, ∃ x012 : Int, ∃ x021 : Int, ∃ x031 : Int, ∃ (x04A1 : Option Addr) (x04n1 x04c1 : Nat), ∃ x114 : Int, r_1 = .tuple #[.agg #[.int .i64 x001, .int .i64 x012, .int .i64 x021, .int .i64 x031, .slice x04A1 x04n1 x04c1], .int .i64 x114] ∧
  S2 w72 ∧
  NewVC w72 (.cells #[.int .i64 0, .int .i64 0, .int .i64 0, .int .i64 0, .slice none 0 0] 24) fun g9 w73 =>
  S2 w73 ∧
  SetVC w73 ⟨g9, 0, none⟩ (.int .i64 x001) fun w74 =>
  SetVC w74 ⟨g9, 1, none⟩ (.int .i64 x012) fun w75 =>
  SetVC w75 ⟨g9, 2, none⟩ (.int .i64 x021) fun w76 =>
  SetVC w76 ⟨g9, 3, none⟩ (.int .i64 x031) fun w77 =>
  SetVC w77 ⟨g9, 4, none⟩ (.slice x04A1 x04n1 x04c1) fun w78 =>
  S2 w78 ∧
  weirlaw8_firsts_D254 R w78 g5 g2 g4 x18 x114)
    (fun _ _ => False))) ∧
  (NewVC w71 (.cells #[.int .i64 0, .int .i64 0, .int .i64 0, .int .i64 0, .slice none 0 0] 24) fun g12 w98 =>
  S2 w98 ∧
  Calls Tryd.prog 30 #[.int .i64 5, .agg #[.int .i64 x04, .int .u8 x19, .int .u8 x22, .int .u8 x32, .int .u8 x42, .int .u8 x52, .int .u8 x62, .int .u8 x72, .int .u8 x82, .int .u8 x92, .int .u8 x102, .int .u8 x112, .int .u8 x122, .int .u8 x132, .int .u8 x142, .int .u8 x152, .int .u8 x162], .agg #[.int .i64 x05, .int .u8 x110, .int .u8 x23, .int .u8 x33, .int .u8 x43, .int .u8 x53, .int .u8 x63, .int .u8 x73, .int .u8 x83, .int .u8 x93, .int .u8 x103, .int .u8 x113, .int .u8 x123, .int .u8 x133, .int .u8 x143, .int .u8 x153, .int .u8 x163], .slice (some ⟨g8, 0, none⟩) 65536 65536] w98 (onRet (fun r_8 w99 => ∃ x004 : Int, ∃ x016 : Int, ∃ x024 : Int, ∃ x034 : Int, ∃ (x04A4 : Option Addr) (x04n4 x04c4 : Nat), ∃ x130 : Int, r_8 = .tuple #[.agg #[.int .i64 x004, .int .i64 x016, .int .i64 x024, .int .i64 x034, .slice x04A4 x04n4 x04c4], .int .i64 x130] ∧
  S2 w99 ∧
  SetVC w99 ⟨g12, 0, none⟩ (.int .i64 x004) fun w100 =>
  SetVC w100 ⟨g12, 1, none⟩ (.int .i64 x016) fun w101 =>
  SetVC w101 ⟨g12, 2, none⟩ (.int .i64 x024) fun w102 =>
  SetVC w102 ⟨g12, 3, none⟩ (.int .i64 x034) fun w103 =>
  SetVC w103 ⟨g12, 4, none⟩ (.slice x04A4 x04n4 x04c4) fun w104 =>
  S2 w104 ∧
  weirlaw8_firsts_D254 R w104 g5 g2 g4 x18 x130)
    (fun _ _ => False)))) ∧
  (NewVC w70 (.cells #[.int .i64 0, .int .i64 0, .int .i64 0, .int .i64 0, .slice none 0 0] 24) fun g15 w124 =>
  S2 w124 ∧
  MakeVC w124 5 1 [.int .u8 0] 65536 65536 fun g16 w125 =>
  S2 w125 ∧
  Calls Tryd.prog 30 #[.int .i64 5, .agg #[.int .i64 x04, .int .u8 x19, .int .u8 x22, .int .u8 x32, .int .u8 x42, .int .u8 x52, .int .u8 x62, .int .u8 x72, .int .u8 x82, .int .u8 x92, .int .u8 x102, .int .u8 x112, .int .u8 x122, .int .u8 x132, .int .u8 x142, .int .u8 x152, .int .u8 x162], .agg #[.int .i64 x05, .int .u8 x110, .int .u8 x23, .int .u8 x33, .int .u8 x43, .int .u8 x53, .int .u8 x63, .int .u8 x73, .int .u8 x83, .int .u8 x93, .int .u8 x103, .int .u8 x113, .int .u8 x123, .int .u8 x133, .int .u8 x143, .int .u8 x153, .int .u8 x163], .slice (some ⟨g16, 0, none⟩) 65536 65536] w125 (onRet (fun r_15 w126 => ∃ x007 : Int, ∃ x0111 : Int, ∃ x0210 : Int, ∃ x037 : Int, ∃ (x04A7 : Option Addr) (x04n7 x04c7 : Nat), ∃ x159 : Int, r_15 = .tuple #[.agg #[.int .i64 x007, .int .i64 x0111, .int .i64 x0210, .int .i64 x037, .slice x04A7 x04n7 x04c7], .int .i64 x159] ∧
  S2 w126 ∧
  SetVC w126 ⟨g15, 0, none⟩ (.int .i64 x007) fun w127 =>
  SetVC w127 ⟨g15, 1, none⟩ (.int .i64 x0111) fun w128 =>
  SetVC w128 ⟨g15, 2, none⟩ (.int .i64 x0210) fun w129 =>
  SetVC w129 ⟨g15, 3, none⟩ (.int .i64 x037) fun w130 =>
  SetVC w130 ⟨g15, 4, none⟩ (.slice x04A7 x04n7 x04c7) fun w131 =>
  S2 w131 ∧
  weirlaw8_firsts_D254 R w131 g5 g2 g4 x18 x159)
    (fun _ _ => False)))
set_option maxRecDepth 100000 in
def weirlaw8_firsts_VC  (w : World) (R : Ending → World → Prop) : Prop :=
  NewVC w (.cells #[.int .i64 0, .int .u8 0, .int .u8 0, .int .u8 0, .int .u8 0, .int .u8 0, .int .u8 0, .int .u8 0, .int .u8 0, .int .u8 0, .int .u8 0, .int .u8 0, .int .u8 0, .int .u8 0, .int .u8 0, .int .u8 0, .int .u8 0] 31) fun g1 w1 =>
  SetVC w1 ⟨g1, 0, none⟩ (.int .i64 0) fun w2 =>
  SetVC w2 ⟨g1, 1, none⟩ (.int .u8 0) fun w3 =>
  SetVC w3 ⟨g1, 2, none⟩ (.int .u8 0) fun w4 =>
  SetVC w4 ⟨g1, 3, none⟩ (.int .u8 0) fun w5 =>
  SetVC w5 ⟨g1, 4, none⟩ (.int .u8 0) fun w6 =>
  SetVC w6 ⟨g1, 5, none⟩ (.int .u8 0) fun w7 =>
  SetVC w7 ⟨g1, 6, none⟩ (.int .u8 0) fun w8 =>
  SetVC w8 ⟨g1, 7, none⟩ (.int .u8 0) fun w9 =>
  SetVC w9 ⟨g1, 8, none⟩ (.int .u8 0) fun w10 =>
  SetVC w10 ⟨g1, 9, none⟩ (.int .u8 0) fun w11 =>
  SetVC w11 ⟨g1, 10, none⟩ (.int .u8 0) fun w12 =>
  SetVC w12 ⟨g1, 11, none⟩ (.int .u8 0) fun w13 =>
  SetVC w13 ⟨g1, 12, none⟩ (.int .u8 0) fun w14 =>
  SetVC w14 ⟨g1, 13, none⟩ (.int .u8 0) fun w15 =>
  SetVC w15 ⟨g1, 14, none⟩ (.int .u8 0) fun w16 =>
  SetVC w16 ⟨g1, 15, none⟩ (.int .u8 0) fun w17 =>
  SetVC w17 ⟨g1, 16, none⟩ (.int .u8 0) fun w18 =>
  NewVC w18 (.cells #[.int .i64 0, .int .i64 0, .int .i64 0, .int .i64 0, .slice none 0 0] 24) fun g2 w19 =>
  SetVC w19 ⟨g2, 0, none⟩ (.int .i64 5) fun w20 =>
  SetVC w20 ⟨g2, 1, none⟩ (.int .i64 (-1)) fun w21 =>
  SetVC w21 ⟨g2, 2, none⟩ (.int .i64 0) fun w22 =>
  SetVC w22 ⟨g2, 3, none⟩ (.int .i64 0) fun w23 =>
  SetVC w23 ⟨g2, 4, none⟩ (.slice none 0 0) fun w24 =>
  MakeVC w24 5 1 [.int .u8 0] 65536 65536 fun g3 w25 =>
  NewVC w25 (.cells #[.int .i64 0, .int .i64 0, .int .i64 0, .int .i64 0, .slice none 0 0] 24) fun g4 w26 =>
  SetVC w26 ⟨g4, 0, none⟩ (.int .i64 4) fun w27 =>
  SetVC w27 ⟨g4, 1, none⟩ (.int .i64 256) fun w28 =>
  SetVC w28 ⟨g4, 2, none⟩ (.int .i64 0) fun w29 =>
  SetVC w29 ⟨g4, 3, none⟩ (.int .i64 0) fun w30 =>
  SetVC w30 ⟨g4, 4, none⟩ (.slice (some ⟨g3, 0, none⟩) 65536 65536) fun w31 =>
  NewVC w31 (.cells #[.int .i64 0, .int .i64 0, .int .u8 0, .int .u8 0, .int .u8 0, .int .u8 0, .int .u8 0, .int .u8 0, .int .u8 0, .int .u8 0, .int .u8 0, .int .u8 0, .int .u8 0, .int .u8 0, .int .u8 0, .int .u8 0, .int .u8 0, .int .u8 0, .bool false, .bool false, .bool false, .bool false, .int .u8 0, .int .u8 0, .int .u8 0, .int .u8 0, .int .u8 0, .int .u8 0] 35) fun g5 w32 =>
  SetVC w32 ⟨g5, 0, none⟩ (.int .i64 1) fun w33 =>
  SetVC w33 ⟨g5, 1, none⟩ (.int .i64 4) fun w34 =>
  SetVC w34 ⟨g5, 2, none⟩ (.int .u8 0) fun w35 =>
  SetVC w35 ⟨g5, 3, none⟩ (.int .u8 0) fun w36 =>
  SetVC w36 ⟨g5, 4, none⟩ (.int .u8 0) fun w37 =>
  SetVC w37 ⟨g5, 5, none⟩ (.int .u8 0) fun w38 =>
  SetVC w38 ⟨g5, 6, none⟩ (.int .u8 0) fun w39 =>
  SetVC w39 ⟨g5, 7, none⟩ (.int .u8 0) fun w40 =>
  SetVC w40 ⟨g5, 8, none⟩ (.int .u8 0) fun w41 =>
  SetVC w41 ⟨g5, 9, none⟩ (.int .u8 0) fun w42 =>
  SetVC w42 ⟨g5, 10, none⟩ (.int .u8 0) fun w43 =>
  SetVC w43 ⟨g5, 11, none⟩ (.int .u8 0) fun w44 =>
  SetVC w44 ⟨g5, 12, none⟩ (.int .u8 0) fun w45 =>
  SetVC w45 ⟨g5, 13, none⟩ (.int .u8 0) fun w46 =>
  SetVC w46 ⟨g5, 14, none⟩ (.int .u8 0) fun w47 =>
  SetVC w47 ⟨g5, 15, none⟩ (.int .u8 0) fun w48 =>
  SetVC w48 ⟨g5, 16, none⟩ (.int .u8 0) fun w49 =>
  SetVC w49 ⟨g5, 17, none⟩ (.int .u8 0) fun w50 =>
  SetVC w50 ⟨g5, 18, none⟩ (.bool false) fun w51 =>
  SetVC w51 ⟨g5, 19, none⟩ (.bool false) fun w52 =>
  SetVC w52 ⟨g5, 20, none⟩ (.bool false) fun w53 =>
  SetVC w53 ⟨g5, 21, none⟩ (.bool false) fun w54 =>
  SetVC w54 ⟨g5, 22, none⟩ (.int .u8 1) fun w55 =>
  SetVC w55 ⟨g5, 23, none⟩ (.int .u8 0) fun w56 =>
  SetVC w56 ⟨g5, 24, none⟩ (.int .u8 0) fun w57 =>
  SetVC w57 ⟨g5, 25, none⟩ (.int .u8 0) fun w58 =>
  SetVC w58 ⟨g5, 26, none⟩ (.int .u8 0) fun w59 =>
  SetVC w59 ⟨g5, 27, none⟩ (.int .u8 0) fun w60 =>
  DrawVC w60 fun S1 w61 =>
  ∃ x0 : Int, ∃ x1 : Int, ∃ x2 : Int, ∃ x3 : Int, ∃ x4 : Int, ∃ x5 : Int, ∃ x6 : Int, ∃ x7 : Int, ∃ x8 : Int, ∃ x9 : Int, ∃ x10 : Int, ∃ x11 : Int, ∃ x12 : Int, ∃ x13 : Int, ∃ x14 : Int, ∃ x15 : Int, ∃ x16 : Int, (∀ w' : World, S1 w' → CellsAt w' ⟨g1, 0, none⟩ 0 [.int .i64 x0, .int .u8 x1, .int .u8 x2, .int .u8 x3, .int .u8 x4, .int .u8 x5, .int .u8 x6, .int .u8 x7, .int .u8 x8, .int .u8 x9, .int .u8 x10, .int .u8 x11, .int .u8 x12, .int .u8 x13, .int .u8 x14, .int .u8 x15, .int .u8 x16]) ∧
  ∃ x01 : Int, ∃ x17 : Int, ∃ x21 : Int, ∃ x31 : Int, ∃ x41 : Int, ∃ x51 : Int, ∃ x61 : Int, ∃ x71 : Int, ∃ x81 : Int, ∃ x91 : Int, ∃ x101 : Int, ∃ x111 : Int, ∃ x121 : Int, ∃ x131 : Int, ∃ x141 : Int, ∃ x151 : Int, ∃ x161 : Int, (∀ w' : World, S1 w' → CellsAt w' ⟨g1, 0, none⟩ 0 [.int .i64 x01, .int .u8 x17, .int .u8 x21, .int .u8 x31, .int .u8 x41, .int .u8 x51, .int .u8 x61, .int .u8 x71, .int .u8 x81, .int .u8 x91, .int .u8 x101, .int .u8 x111, .int .u8 x121, .int .u8 x131, .int .u8 x141, .int .u8 x151, .int .u8 x161]) ∧
  (MakeVC w61 5 1 [.int .u8 0] 65536 65536 fun g6 w62 =>
  S1 w62 ∧
  (Calls Tryd.prog 29 #[.int .i64 5, .agg #[.int .i64 x0, .int .u8 x1, .int .u8 x2, .int .u8 x3, .int .u8 x4, .int .u8 x5, .int .u8 x6, .int .u8 x7, .int .u8 x8, .int .u8 x9, .int .u8 x10, .int .u8 x11, .int .u8 x12, .int .u8 x13, .int .u8 x14, .int .u8 x15, .int .u8 x16], .agg #[.int .i64 x01, .int .u8 x17, .int .u8 x21, .int .u8 x31, .int .u8 x41, .int .u8 x51, .int .u8 x61, .int .u8 x71, .int .u8 x81, .int .u8 x91, .int .u8 x101, .int .u8 x111, .int .u8 x121, .int .u8 x131, .int .u8 x141, .int .u8 x151, .int .u8 x161], .slice (some ⟨g6, 0, none⟩) 65536 65536] w62 (onRet (fun r_ w63 => ∃ x00 : Int, ∃ x011 : Int, ∃ x02 : Int, ∃ x03 : Int, ∃ (x04A : Option Addr) (x04n x04c : Nat), ∃ x18 : Int, r_ = .tuple #[.agg #[.int .i64 x00, .int .i64 x011, .int .i64 x02, .int .i64 x03, .slice x04A x04n x04c], .int .i64 x18] ∧
  S1 w63 ∧
  NewVC w63 (.cells #[.int .i64 0, .int .i64 0, .int .i64 0, .int .i64 0, .slice none 0 0] 24) fun g7 w64 =>
  S1 w64 ∧
  SetVC w64 ⟨g7, 0, none⟩ (.int .i64 x00) fun w65 =>
  SetVC w65 ⟨g7, 1, none⟩ (.int .i64 x011) fun w66 =>
  SetVC w66 ⟨g7, 2, none⟩ (.int .i64 x02) fun w67 =>
  SetVC w67 ⟨g7, 3, none⟩ (.int .i64 x03) fun w68 =>
  SetVC w68 ⟨g7, 4, none⟩ (.slice x04A x04n x04c) fun w69 =>
  S1 w69 ∧
  weirlaw8_firsts_D126 R w69 g1 g5 g2 g4 x18)
    (fun _ _ => False))) ∧
  (NewVC w62 (.cells #[.int .i64 0, .int .i64 0, .int .i64 0, .int .i64 0, .slice none 0 0] 24) fun g19 w151 =>
  S1 w151 ∧
  Calls Tryd.prog 29 #[.int .i64 5, .agg #[.int .i64 x0, .int .u8 x1, .int .u8 x2, .int .u8 x3, .int .u8 x4, .int .u8 x5, .int .u8 x6, .int .u8 x7, .int .u8 x8, .int .u8 x9, .int .u8 x10, .int .u8 x11, .int .u8 x12, .int .u8 x13, .int .u8 x14, .int .u8 x15, .int .u8 x16], .agg #[.int .i64 x01, .int .u8 x17, .int .u8 x21, .int .u8 x31, .int .u8 x41, .int .u8 x51, .int .u8 x61, .int .u8 x71, .int .u8 x81, .int .u8 x91, .int .u8 x101, .int .u8 x111, .int .u8 x121, .int .u8 x131, .int .u8 x141, .int .u8 x151, .int .u8 x161], .slice (some ⟨g6, 0, none⟩) 65536 65536] w151 (onRet (fun r_22 w152 => ∃ x0010 : Int, ∃ x0114 : Int, ∃ x0213 : Int, ∃ x0311 : Int, ∃ (x04A10 : Option Addr) (x04n10 x04c10 : Nat), ∃ x188 : Int, r_22 = .tuple #[.agg #[.int .i64 x0010, .int .i64 x0114, .int .i64 x0213, .int .i64 x0311, .slice x04A10 x04n10 x04c10], .int .i64 x188] ∧
  S1 w152 ∧
  SetVC w152 ⟨g19, 0, none⟩ (.int .i64 x0010) fun w153 =>
  SetVC w153 ⟨g19, 1, none⟩ (.int .i64 x0114) fun w154 =>
  SetVC w154 ⟨g19, 2, none⟩ (.int .i64 x0213) fun w155 =>
  SetVC w155 ⟨g19, 3, none⟩ (.int .i64 x0311) fun w156 =>
  SetVC w156 ⟨g19, 4, none⟩ (.slice x04A10 x04n10 x04c10) fun w157 =>
  S1 w157 ∧
  weirlaw8_firsts_D126 R w157 g1 g5 g2 g4 x188)
    (fun _ _ => False)))) ∧
  (NewVC w61 (.cells #[.int .i64 0, .int .i64 0, .int .i64 0, .int .i64 0, .slice none 0 0] 24) fun g31 w239 =>
  S1 w239 ∧
  MakeVC w239 5 1 [.int .u8 0] 65536 65536 fun g32 w240 =>
  S1 w240 ∧
  Calls Tryd.prog 29 #[.int .i64 5, .agg #[.int .i64 x0, .int .u8 x1, .int .u8 x2, .int .u8 x3, .int .u8 x4, .int .u8 x5, .int .u8 x6, .int .u8 x7, .int .u8 x8, .int .u8 x9, .int .u8 x10, .int .u8 x11, .int .u8 x12, .int .u8 x13, .int .u8 x14, .int .u8 x15, .int .u8 x16], .agg #[.int .i64 x01, .int .u8 x17, .int .u8 x21, .int .u8 x31, .int .u8 x41, .int .u8 x51, .int .u8 x61, .int .u8 x71, .int .u8 x81, .int .u8 x91, .int .u8 x101, .int .u8 x111, .int .u8 x121, .int .u8 x131, .int .u8 x141, .int .u8 x151, .int .u8 x161], .slice (some ⟨g32, 0, none⟩) 65536 65536] w240 (onRet (fun r_44 w241 => ∃ x0020 : Int, ∃ x0124 : Int, ∃ x0223 : Int, ∃ x0321 : Int, ∃ (x04A20 : Option Addr) (x04n20 x04c20 : Nat), ∃ x1137 : Int, r_44 = .tuple #[.agg #[.int .i64 x0020, .int .i64 x0124, .int .i64 x0223, .int .i64 x0321, .slice x04A20 x04n20 x04c20], .int .i64 x1137] ∧
  S1 w241 ∧
  SetVC w241 ⟨g31, 0, none⟩ (.int .i64 x0020) fun w242 =>
  SetVC w242 ⟨g31, 1, none⟩ (.int .i64 x0124) fun w243 =>
  SetVC w243 ⟨g31, 2, none⟩ (.int .i64 x0223) fun w244 =>
  SetVC w244 ⟨g31, 3, none⟩ (.int .i64 x0321) fun w245 =>
  SetVC w245 ⟨g31, 4, none⟩ (.slice x04A20 x04n20 x04c20) fun w246 =>
  S1 w246 ∧
  weirlaw8_firsts_D126 R w246 g1 g5 g2 g4 x1137)
    (fun _ _ => False)))
def weirlaw8_firsts_H : Hints := []
set_option maxRecDepth 100000 in
theorem weirlaw8_firsts_of  (w : World) (R : Ending → World → Prop) (h : weirlaw8_firsts_VC  w R) :
    Calls Tryd.prog 55 #[] w R :=
  calls_of_wpc callOk mixedOk (H := weirlaw8_firsts_H) (args := []) (fn := Tryd.f55) (c := bodyOf Tryd.f55) Tryd.func55 rfl (Nat.le_of_ble_eq_true rfl)
    (Eq.mp (by kernel_rfl : weirlaw8_firsts_VC  w R = wpc Tryd.prog callF Tryd.f55.ntmps weirlaw8_firsts_H 1 (bodyOf Tryd.f55) (argEnv 0 []) [] w (finish Tryd.prog callF Tryd.f55.results.toList R)) h)

set_option maxRecDepth 100000 in
def weirlaw8_echo_VC  (w : World) (R : Ending → World → Prop) : Prop :=
  NewVC w (.cells #[.int .i64 0, .int .i64 0, .int .i64 0, .int .i64 0, .slice none 0 0] 24) fun g1 w1 =>
  SetVC w1 ⟨g1, 0, none⟩ (.int .i64 4) fun w2 =>
  SetVC w2 ⟨g1, 1, none⟩ (.int .i64 8) fun w3 =>
  SetVC w3 ⟨g1, 2, none⟩ (.int .i64 0) fun w4 =>
  SetVC w4 ⟨g1, 3, none⟩ (.int .i64 65537) fun w5 =>
  SetVC w5 ⟨g1, 4, none⟩ (.slice none 0 0) fun w6 =>
  ∃ res0 : Int, ∃ res1 : Int, ∃ res2 : Int, ∃ res3 : Int, ∃ (res4A : Option Addr) (res4n res4c : Nat), CellsAt w6 ⟨g1, 0, none⟩ 0 [.int .i64 res0, .int .i64 res1, .int .i64 res2, .int .i64 res3, .slice res4A res4n res4c] ∧
  R (.returned (.agg #[.int .i64 res0, .int .i64 res1, .int .i64 res2, .int .i64 res3, .slice res4A res4n res4c])) w6
def weirlaw8_echo_H : Hints := []
set_option maxRecDepth 100000 in
theorem weirlaw8_echo_of  (w : World) (R : Ending → World → Prop) (h : weirlaw8_echo_VC  w R) :
    Calls Tryd.prog 56 #[] w R :=
  calls_of_wpc callOk mixedOk (H := weirlaw8_echo_H) (args := []) (fn := Tryd.f56) (c := bodyOf Tryd.f56) Tryd.func56 rfl (Nat.le_of_ble_eq_true rfl)
    (Eq.mp (by kernel_rfl : weirlaw8_echo_VC  w R = wpc Tryd.prog callF Tryd.f56.ntmps weirlaw8_echo_H 1 (bodyOf Tryd.f56) (argEnv 0 []) [] w (finish Tryd.prog callF Tryd.f56.results.toList R)) h)

set_option maxRecDepth 100000 in
def icmp_pseudo_VC (v_ : Int) (src_V : Int) (src_A0_ : Int) (src_A1_ : Int) (src_A2_ : Int) (src_A3_ : Int) (src_A4_ : Int) (src_A5_ : Int) (src_A6_ : Int) (src_A7_ : Int) (src_A8_ : Int) (src_A9_ : Int) (src_A10_ : Int) (src_A11_ : Int) (src_A12_ : Int) (src_A13_ : Int) (src_A14_ : Int) (src_A15_ : Int) (dst_V : Int) (dst_A0_ : Int) (dst_A1_ : Int) (dst_A2_ : Int) (dst_A3_ : Int) (dst_A4_ : Int) (dst_A5_ : Int) (dst_A6_ : Int) (dst_A7_ : Int) (dst_A8_ : Int) (dst_A9_ : Int) (dst_A10_ : Int) (dst_A11_ : Int) (dst_A12_ : Int) (dst_A13_ : Int) (dst_A14_ : Int) (dst_A15_ : Int) (n : Int) (w : World) (R : Ending → World → Prop) : Prop :=
  NewVC w (.cells #[.int .i64 src_V, .int .u8 src_A0_, .int .u8 src_A1_, .int .u8 src_A2_, .int .u8 src_A3_, .int .u8 src_A4_, .int .u8 src_A5_, .int .u8 src_A6_, .int .u8 src_A7_, .int .u8 src_A8_, .int .u8 src_A9_, .int .u8 src_A10_, .int .u8 src_A11_, .int .u8 src_A12_, .int .u8 src_A13_, .int .u8 src_A14_, .int .u8 src_A15_] 31) fun g1 w1 =>
  NewVC w1 (.cells #[.int .i64 dst_V, .int .u8 dst_A0_, .int .u8 dst_A1_, .int .u8 dst_A2_, .int .u8 dst_A3_, .int .u8 dst_A4_, .int .u8 dst_A5_, .int .u8 dst_A6_, .int .u8 dst_A7_, .int .u8 dst_A8_, .int .u8 dst_A9_, .int .u8 dst_A10_, .int .u8 dst_A11_, .int .u8 dst_A12_, .int .u8 dst_A13_, .int .u8 dst_A14_, .int .u8 dst_A15_] 31) fun g2 w2 =>
  Br (decide (v_ = 4))
    (R (.returned (.tuple #[.slice none 0 0, .int .i64 0])) w2)
    (∃ x : Int, w2.cell? ⟨g1, 0, none⟩ = some (.int .i64 x) ∧
  Br (decide (x ≠ 6))
    (R (.returned (.tuple #[.slice none 0 0, .int .i64 20])) w2)
    (∃ x1 : Int, w2.cell? ⟨g2, 0, none⟩ = some (.int .i64 x1) ∧
    Br (decide (x1 ≠ 6))
    (R (.returned (.tuple #[.slice none 0 0, .int .i64 20])) w2)
    (∃ x0 : Int, ∃ x11 : Int, ∃ x2 : Int, ∃ x3 : Int, ∃ x4 : Int, ∃ x5 : Int, ∃ x6 : Int, ∃ x7 : Int, ∃ x8 : Int, ∃ x9 : Int, ∃ x10 : Int, ∃ x111 : Int, ∃ x12 : Int, ∃ x13 : Int, ∃ x14 : Int, ∃ x15 : Int, ∃ x16 : Int, CellsAt w2 ⟨g1, 0, none⟩ 0 [.int .i64 x0, .int .u8 x11, .int .u8 x2, .int .u8 x3, .int .u8 x4, .int .u8 x5, .int .u8 x6, .int .u8 x7, .int .u8 x8, .int .u8 x9, .int .u8 x10, .int .u8 x111, .int .u8 x12, .int .u8 x13, .int .u8 x14, .int .u8 x15, .int .u8 x16] ∧
  ∃ x01 : Int, ∃ x17 : Int, ∃ x21 : Int, ∃ x31 : Int, ∃ x41 : Int, ∃ x51 : Int, ∃ x61 : Int, ∃ x71 : Int, ∃ x81 : Int, ∃ x91 : Int, ∃ x101 : Int, ∃ x112 : Int, ∃ x121 : Int, ∃ x131 : Int, ∃ x141 : Int, ∃ x151 : Int, ∃ x161 : Int, CellsAt w2 ⟨g2, 0, none⟩ 0 [.int .i64 x01, .int .u8 x17, .int .u8 x21, .int .u8 x31, .int .u8 x41, .int .u8 x51, .int .u8 x61, .int .u8 x71, .int .u8 x81, .int .u8 x91, .int .u8 x101, .int .u8 x112, .int .u8 x121, .int .u8 x131, .int .u8 x141, .int .u8 x151, .int .u8 x161] ∧
  Calls Tryd.prog 87 #[.agg #[.int .i64 x0, .int .u8 x11, .int .u8 x2, .int .u8 x3, .int .u8 x4, .int .u8 x5, .int .u8 x6, .int .u8 x7, .int .u8 x8, .int .u8 x9, .int .u8 x10, .int .u8 x111, .int .u8 x12, .int .u8 x13, .int .u8 x14, .int .u8 x15, .int .u8 x16], .agg #[.int .i64 x01, .int .u8 x17, .int .u8 x21, .int .u8 x31, .int .u8 x41, .int .u8 x51, .int .u8 x61, .int .u8 x71, .int .u8 x81, .int .u8 x91, .int .u8 x101, .int .u8 x112, .int .u8 x121, .int .u8 x131, .int .u8 x141, .int .u8 x151, .int .u8 x161], .int .i64 58, .int .i64 n] w2 (onRet (fun r_ w3 => ∃ (x0A : Option Addr) (x0n x0c : Nat), ∃ x18 : Int, r_ = .tuple #[.slice x0A x0n x0c, .int .i64 x18] ∧
  R (.returned (.tuple #[.slice x0A x0n x0c, .int .i64 x18])) w3)
    (fun ch w3 => R (.panicked ch) w3)))))
def icmp_pseudo_H : Hints := []
set_option maxRecDepth 100000 in
theorem icmp_pseudo_of (v_ : Int) (src_V : Int) (src_A0_ : Int) (src_A1_ : Int) (src_A2_ : Int) (src_A3_ : Int) (src_A4_ : Int) (src_A5_ : Int) (src_A6_ : Int) (src_A7_ : Int) (src_A8_ : Int) (src_A9_ : Int) (src_A10_ : Int) (src_A11_ : Int) (src_A12_ : Int) (src_A13_ : Int) (src_A14_ : Int) (src_A15_ : Int) (dst_V : Int) (dst_A0_ : Int) (dst_A1_ : Int) (dst_A2_ : Int) (dst_A3_ : Int) (dst_A4_ : Int) (dst_A5_ : Int) (dst_A6_ : Int) (dst_A7_ : Int) (dst_A8_ : Int) (dst_A9_ : Int) (dst_A10_ : Int) (dst_A11_ : Int) (dst_A12_ : Int) (dst_A13_ : Int) (dst_A14_ : Int) (dst_A15_ : Int) (n : Int) (w : World) (R : Ending → World → Prop) (h : icmp_pseudo_VC v_ src_V src_A0_ src_A1_ src_A2_ src_A3_ src_A4_ src_A5_ src_A6_ src_A7_ src_A8_ src_A9_ src_A10_ src_A11_ src_A12_ src_A13_ src_A14_ src_A15_ dst_V dst_A0_ dst_A1_ dst_A2_ dst_A3_ dst_A4_ dst_A5_ dst_A6_ dst_A7_ dst_A8_ dst_A9_ dst_A10_ dst_A11_ dst_A12_ dst_A13_ dst_A14_ dst_A15_ n w R) :
    Calls Tryd.prog 57 #[.int .i64 v_, .agg #[.int .i64 src_V, .int .u8 src_A0_, .int .u8 src_A1_, .int .u8 src_A2_, .int .u8 src_A3_, .int .u8 src_A4_, .int .u8 src_A5_, .int .u8 src_A6_, .int .u8 src_A7_, .int .u8 src_A8_, .int .u8 src_A9_, .int .u8 src_A10_, .int .u8 src_A11_, .int .u8 src_A12_, .int .u8 src_A13_, .int .u8 src_A14_, .int .u8 src_A15_], .agg #[.int .i64 dst_V, .int .u8 dst_A0_, .int .u8 dst_A1_, .int .u8 dst_A2_, .int .u8 dst_A3_, .int .u8 dst_A4_, .int .u8 dst_A5_, .int .u8 dst_A6_, .int .u8 dst_A7_, .int .u8 dst_A8_, .int .u8 dst_A9_, .int .u8 dst_A10_, .int .u8 dst_A11_, .int .u8 dst_A12_, .int .u8 dst_A13_, .int .u8 dst_A14_, .int .u8 dst_A15_], .int .i64 n] w R :=
  calls_of_wpc callOk mixedOk (H := icmp_pseudo_H) (args := [.int .i64 v_, .agg #[.int .i64 src_V, .int .u8 src_A0_, .int .u8 src_A1_, .int .u8 src_A2_, .int .u8 src_A3_, .int .u8 src_A4_, .int .u8 src_A5_, .int .u8 src_A6_, .int .u8 src_A7_, .int .u8 src_A8_, .int .u8 src_A9_, .int .u8 src_A10_, .int .u8 src_A11_, .int .u8 src_A12_, .int .u8 src_A13_, .int .u8 src_A14_, .int .u8 src_A15_], .agg #[.int .i64 dst_V, .int .u8 dst_A0_, .int .u8 dst_A1_, .int .u8 dst_A2_, .int .u8 dst_A3_, .int .u8 dst_A4_, .int .u8 dst_A5_, .int .u8 dst_A6_, .int .u8 dst_A7_, .int .u8 dst_A8_, .int .u8 dst_A9_, .int .u8 dst_A10_, .int .u8 dst_A11_, .int .u8 dst_A12_, .int .u8 dst_A13_, .int .u8 dst_A14_, .int .u8 dst_A15_], .int .i64 n]) (fn := Tryd.f57) (c := bodyOf Tryd.f57) Tryd.func57 rfl (Nat.le_of_ble_eq_true rfl)
    (Eq.mp (by kernel_rfl : icmp_pseudo_VC v_ src_V src_A0_ src_A1_ src_A2_ src_A3_ src_A4_ src_A5_ src_A6_ src_A7_ src_A8_ src_A9_ src_A10_ src_A11_ src_A12_ src_A13_ src_A14_ src_A15_ dst_V dst_A0_ dst_A1_ dst_A2_ dst_A3_ dst_A4_ dst_A5_ dst_A6_ dst_A7_ dst_A8_ dst_A9_ dst_A10_ dst_A11_ dst_A12_ dst_A13_ dst_A14_ dst_A15_ n w R = wpc Tryd.prog callF Tryd.f57.ntmps icmp_pseudo_H 1 (bodyOf Tryd.f57) (argEnv 0 [.int .i64 v_, .agg #[.int .i64 src_V, .int .u8 src_A0_, .int .u8 src_A1_, .int .u8 src_A2_, .int .u8 src_A3_, .int .u8 src_A4_, .int .u8 src_A5_, .int .u8 src_A6_, .int .u8 src_A7_, .int .u8 src_A8_, .int .u8 src_A9_, .int .u8 src_A10_, .int .u8 src_A11_, .int .u8 src_A12_, .int .u8 src_A13_, .int .u8 src_A14_, .int .u8 src_A15_], .agg #[.int .i64 dst_V, .int .u8 dst_A0_, .int .u8 dst_A1_, .int .u8 dst_A2_, .int .u8 dst_A3_, .int .u8 dst_A4_, .int .u8 dst_A5_, .int .u8 dst_A6_, .int .u8 dst_A7_, .int .u8 dst_A8_, .int .u8 dst_A9_, .int .u8 dst_A10_, .int .u8 dst_A11_, .int .u8 dst_A12_, .int .u8 dst_A13_, .int .u8 dst_A14_, .int .u8 dst_A15_], .int .i64 n]) [] w (finish Tryd.prog callF Tryd.f57.results.toList R)) h)

set_option maxRecDepth 100000 in
def view_Pack_L1042846 (x0 : Int) (g1 : Nat) (t31_ : Int) (K1018 : (Int × Int → World → Prop)) (x2 : Int) (bit1 : Int) (k : Int) (w4 : World) (K1042846 : (Int × Int → World → Prop)) : Prop :=
  Br (decide ((0 : Int) ≤ k))
    (IdxVC (some ⟨g1, 0, none⟩) x0.toNat 1 (IntKind.i64.wrap (Int.tdiv bit1 8)) fun a2 =>
  ∃ x3 : Int, w4.cell? a2 = some (.int .u8 x3) ∧
  ShVC (IntKind.u64.wrap k) (
  ShVC (IntKind.u64.wrap (7 - IntKind.u64.wrap (Int.tmod bit1 8))) (
  IdxVC (some ⟨g1, 0, none⟩) x0.toNat 1 (IntKind.i64.wrap (Int.tdiv bit1 8)) fun a3 =>
  SetVC w4 a3 (.int .u8 (bitv .or .u8 x3 (IntKind.u8.wrap (IntKind.u8.wrap (bitv .and .i64 (Int.fdiv x2 (2 ^ (min ((IntKind.u64.wrap k).toNat) 64))) 1) * 2 ^ (min ((IntKind.u64.wrap (7 - IntKind.u64.wrap (Int.tmod bit1 8))).toNat) 8))))) fun w5 =>
  K1042846 (IntKind.i64.wrap (bit1 + 1), IntKind.i64.wrap (k - 1)) w5)))
    (K1018 (bit1, IntKind.i64.wrap (t31_ + 1)) w4)
set_option maxRecDepth 100000 in
def view_Pack_L1018 (R : Ending → World → Prop) (widthsA : Option Addr) (widthsn : Nat) (valuesA : Option Addr) (valuesn : Nat) (x0 : Int) (g1 : Nat) (bit : Int) (t31_ : Int) (w3 : World) (K1018 : (Int × Int → World → Prop)) : Prop :=
  Br (decide (t31_ < (widthsn : Int)))
    (IdxVC widthsA widthsn 1 t31_ fun a =>
  ∃ x : Int, w3.cell? a = some (.int .i64 x) ∧
  IdxVC valuesA valuesn 1 t31_ fun a1 =>
  ∃ x2 : Int, w3.cell? a1 = some (.int .i64 x2) ∧
  Br (decide (x2 < 0))
    (R (.returned (.tuple #[.slice none 0 0, .int .i64 12])) w3)
    (ShVC (IntKind.u64.wrap x) (
    Br (decide (Int.fdiv x2 (2 ^ (min ((IntKind.u64.wrap x).toNat) 64)) ≠ 0))
    (R (.returned (.tuple #[.slice none 0 0, .int .i64 12])) w3)
    (LoopVC (S := Int × Int) (fun s w4 K1042846 => view_Pack_L1042846 x0 g1 t31_ K1018 x2 s.1 s.2 w4 K1042846) (bit, IntKind.i64.wrap (x - 1)) w3))))
    (R (.returned (.tuple #[.slice (some ⟨g1, 0, none⟩) x0.toNat x0.toNat, .int .i64 0])) w3)
set_option maxRecDepth 100000 in
def view_Pack_VC (widthsA : Option Addr) (widthsn : Nat) (widthsc : Nat) (valuesA : Option Addr) (valuesn : Nat) (_valuesc : Nat) (w : World) (R : Ending → World → Prop) : Prop :=
  Calls Tryd.prog 88 #[.slice widthsA widthsn widthsc] w (onRet (fun r_ w1 => ∃ x0 : Int, ∃ x1 : Int, r_ = .tuple #[.int .i64 x0, .int .i64 x1] ∧
  Br (decide (x1 ≠ 0))
    (R (.returned (.tuple #[.slice none 0 0, .int .i64 x1])) w1)
    (Br (decide ((valuesn : Int) ≠ (widthsn : Int)))
    (R (.returned (.tuple #[.slice none 0 0, .int .i64 1])) w1)
    (MakeVC w1 5 1 [.int .u8 0] x0 x0 fun g1 w2 =>
  LoopVC (S := Int × Int) (fun s w3 K1018 => view_Pack_L1018 R widthsA widthsn valuesA valuesn x0 g1 s.1 s.2 w3 K1018) (0, 0) w2)))
    (fun ch w1 => R (.panicked ch) w1))
def view_Pack_H : Hints := [(1018, [(9, .int .i64), (31, .int .i64)]), (1042846, [(9, .int .i64), (13, .int .i64)])]
set_option maxRecDepth 100000 in
theorem view_Pack_of (widthsA : Option Addr) (widthsn : Nat) (widthsc : Nat) (valuesA : Option Addr) (valuesn : Nat) (valuesc : Nat) (w : World) (R : Ending → World → Prop) (h : view_Pack_VC widthsA widthsn widthsc valuesA valuesn valuesc w R) :
    Calls Tryd.prog 58 #[.slice widthsA widthsn widthsc, .slice valuesA valuesn valuesc] w R :=
  calls_of_wpc callOk mixedOk (H := view_Pack_H) (args := [.slice widthsA widthsn widthsc, .slice valuesA valuesn valuesc]) (fn := Tryd.f58) (c := bodyOf Tryd.f58) Tryd.func58 rfl (Nat.le_of_ble_eq_true rfl)
    (Eq.mp (by kernel_rfl : view_Pack_VC widthsA widthsn widthsc valuesA valuesn valuesc w R = wpc Tryd.prog callF Tryd.f58.ntmps view_Pack_H 1 (bodyOf Tryd.f58) (argEnv 0 [.slice widthsA widthsn widthsc, .slice valuesA valuesn valuesc]) [] w (finish Tryd.prog callF Tryd.f58.results.toList R)) h)

set_option maxRecDepth 100000 in
def icmp_widths_VC  (w : World) (R : Ending → World → Prop) : Prop :=
  NewVC w (.cells #[.int .i64 8, .int .i64 8, .int .i64 16, .int .i64 32] 3) fun g1 w1 =>
  R (.returned (.slice (some ⟨g1, 0, none⟩) 4 4)) w1
def icmp_widths_H : Hints := []
set_option maxRecDepth 100000 in
theorem icmp_widths_of  (w : World) (R : Ending → World → Prop) (h : icmp_widths_VC  w R) :
    Calls Tryd.prog 59 #[] w R :=
  calls_of_wpc callOk mixedOk (H := icmp_widths_H) (args := []) (fn := Tryd.f59) (c := bodyOf Tryd.f59) Tryd.func59 rfl (Nat.le_of_ble_eq_true rfl)
    (Eq.mp (by kernel_rfl : icmp_widths_VC  w R = wpc Tryd.prog callF Tryd.f59.ntmps icmp_widths_H 1 (bodyOf Tryd.f59) (argEnv 0 []) [] w (finish Tryd.prog callF Tryd.f59.results.toList R)) h)

set_option maxRecDepth 100000 in
def sum_Check_VC (partsA : Option Addr) (partsn : Nat) (partsc : Nat) (w : World) (R : Ending → World → Prop) : Prop :=
  Calls Tryd.prog 89 #[.slice partsA partsn partsc] w (onRet (fun r_ w1 => ∃ x : Int, r_ = .int .i64 x ∧
  R (.returned (.int .i64 (IntKind.i64.wrap (65535 - x)))) w1)
    (fun ch w1 => R (.panicked ch) w1))
def sum_Check_H : Hints := []
set_option maxRecDepth 100000 in
theorem sum_Check_of (partsA : Option Addr) (partsn : Nat) (partsc : Nat) (w : World) (R : Ending → World → Prop) (h : sum_Check_VC partsA partsn partsc w R) :
    Calls Tryd.prog 60 #[.slice partsA partsn partsc] w R :=
  calls_of_wpc callOk mixedOk (H := sum_Check_H) (args := [.slice partsA partsn partsc]) (fn := Tryd.f60) (c := bodyOf Tryd.f60) Tryd.func60 rfl (Nat.le_of_ble_eq_true rfl)
    (Eq.mp (by kernel_rfl : sum_Check_VC partsA partsn partsc w R = wpc Tryd.prog callF Tryd.f60.ntmps sum_Check_H 1 (bodyOf Tryd.f60) (argEnv 0 [.slice partsA partsn partsc]) [] w (finish Tryd.prog callF Tryd.f60.results.toList R)) h)

set_option maxRecDepth 100000 in
def weirref8_six_VC (src_V : Int) (src_A0_ : Int) (src_A1_ : Int) (src_A2_ : Int) (src_A3_ : Int) (src_A4_ : Int) (src_A5_ : Int) (src_A6_ : Int) (src_A7_ : Int) (src_A8_ : Int) (src_A9_ : Int) (src_A10_ : Int) (src_A11_ : Int) (src_A12_ : Int) (src_A13_ : Int) (src_A14_ : Int) (src_A15_ : Int) (dst_V : Int) (dst_A0_ : Int) (dst_A1_ : Int) (dst_A2_ : Int) (dst_A3_ : Int) (dst_A4_ : Int) (dst_A5_ : Int) (dst_A6_ : Int) (dst_A7_ : Int) (dst_A8_ : Int) (dst_A9_ : Int) (dst_A10_ : Int) (dst_A11_ : Int) (dst_A12_ : Int) (dst_A13_ : Int) (dst_A14_ : Int) (dst_A15_ : Int) (w : World) (R : Ending → World → Prop) : Prop :=
  NewVC w (.cells #[.int .i64 src_V, .int .u8 src_A0_, .int .u8 src_A1_, .int .u8 src_A2_, .int .u8 src_A3_, .int .u8 src_A4_, .int .u8 src_A5_, .int .u8 src_A6_, .int .u8 src_A7_, .int .u8 src_A8_, .int .u8 src_A9_, .int .u8 src_A10_, .int .u8 src_A11_, .int .u8 src_A12_, .int .u8 src_A13_, .int .u8 src_A14_, .int .u8 src_A15_] 31) fun g1 w1 =>
  NewVC w1 (.cells #[.int .i64 dst_V, .int .u8 dst_A0_, .int .u8 dst_A1_, .int .u8 dst_A2_, .int .u8 dst_A3_, .int .u8 dst_A4_, .int .u8 dst_A5_, .int .u8 dst_A6_, .int .u8 dst_A7_, .int .u8 dst_A8_, .int .u8 dst_A9_, .int .u8 dst_A10_, .int .u8 dst_A11_, .int .u8 dst_A12_, .int .u8 dst_A13_, .int .u8 dst_A14_, .int .u8 dst_A15_] 31) fun g2 w2 =>
  ∃ x : Int, w2.cell? ⟨g1, 0, none⟩ = some (.int .i64 x) ∧
  Br (decide (x = 6))
    (∃ x1 : Int, w2.cell? ⟨g2, 0, none⟩ = some (.int .i64 x1) ∧
    R (.returned (.bool (decide (x1 = 6)))) w2)
    (R (.returned (.bool false)) w2)
def weirref8_six_H : Hints := []
set_option maxRecDepth 100000 in
theorem weirref8_six_of (src_V : Int) (src_A0_ : Int) (src_A1_ : Int) (src_A2_ : Int) (src_A3_ : Int) (src_A4_ : Int) (src_A5_ : Int) (src_A6_ : Int) (src_A7_ : Int) (src_A8_ : Int) (src_A9_ : Int) (src_A10_ : Int) (src_A11_ : Int) (src_A12_ : Int) (src_A13_ : Int) (src_A14_ : Int) (src_A15_ : Int) (dst_V : Int) (dst_A0_ : Int) (dst_A1_ : Int) (dst_A2_ : Int) (dst_A3_ : Int) (dst_A4_ : Int) (dst_A5_ : Int) (dst_A6_ : Int) (dst_A7_ : Int) (dst_A8_ : Int) (dst_A9_ : Int) (dst_A10_ : Int) (dst_A11_ : Int) (dst_A12_ : Int) (dst_A13_ : Int) (dst_A14_ : Int) (dst_A15_ : Int) (w : World) (R : Ending → World → Prop) (h : weirref8_six_VC src_V src_A0_ src_A1_ src_A2_ src_A3_ src_A4_ src_A5_ src_A6_ src_A7_ src_A8_ src_A9_ src_A10_ src_A11_ src_A12_ src_A13_ src_A14_ src_A15_ dst_V dst_A0_ dst_A1_ dst_A2_ dst_A3_ dst_A4_ dst_A5_ dst_A6_ dst_A7_ dst_A8_ dst_A9_ dst_A10_ dst_A11_ dst_A12_ dst_A13_ dst_A14_ dst_A15_ w R) :
    Calls Tryd.prog 61 #[.agg #[.int .i64 src_V, .int .u8 src_A0_, .int .u8 src_A1_, .int .u8 src_A2_, .int .u8 src_A3_, .int .u8 src_A4_, .int .u8 src_A5_, .int .u8 src_A6_, .int .u8 src_A7_, .int .u8 src_A8_, .int .u8 src_A9_, .int .u8 src_A10_, .int .u8 src_A11_, .int .u8 src_A12_, .int .u8 src_A13_, .int .u8 src_A14_, .int .u8 src_A15_], .agg #[.int .i64 dst_V, .int .u8 dst_A0_, .int .u8 dst_A1_, .int .u8 dst_A2_, .int .u8 dst_A3_, .int .u8 dst_A4_, .int .u8 dst_A5_, .int .u8 dst_A6_, .int .u8 dst_A7_, .int .u8 dst_A8_, .int .u8 dst_A9_, .int .u8 dst_A10_, .int .u8 dst_A11_, .int .u8 dst_A12_, .int .u8 dst_A13_, .int .u8 dst_A14_, .int .u8 dst_A15_]] w R :=
  calls_of_wpc callOk mixedOk (H := weirref8_six_H) (args := [.agg #[.int .i64 src_V, .int .u8 src_A0_, .int .u8 src_A1_, .int .u8 src_A2_, .int .u8 src_A3_, .int .u8 src_A4_, .int .u8 src_A5_, .int .u8 src_A6_, .int .u8 src_A7_, .int .u8 src_A8_, .int .u8 src_A9_, .int .u8 src_A10_, .int .u8 src_A11_, .int .u8 src_A12_, .int .u8 src_A13_, .int .u8 src_A14_, .int .u8 src_A15_], .agg #[.int .i64 dst_V, .int .u8 dst_A0_, .int .u8 dst_A1_, .int .u8 dst_A2_, .int .u8 dst_A3_, .int .u8 dst_A4_, .int .u8 dst_A5_, .int .u8 dst_A6_, .int .u8 dst_A7_, .int .u8 dst_A8_, .int .u8 dst_A9_, .int .u8 dst_A10_, .int .u8 dst_A11_, .int .u8 dst_A12_, .int .u8 dst_A13_, .int .u8 dst_A14_, .int .u8 dst_A15_]]) (fn := Tryd.f61) (c := bodyOf Tryd.f61) Tryd.func61 rfl (Nat.le_of_ble_eq_true rfl)
    (Eq.mp (by kernel_rfl : weirref8_six_VC src_V src_A0_ src_A1_ src_A2_ src_A3_ src_A4_ src_A5_ src_A6_ src_A7_ src_A8_ src_A9_ src_A10_ src_A11_ src_A12_ src_A13_ src_A14_ src_A15_ dst_V dst_A0_ dst_A1_ dst_A2_ dst_A3_ dst_A4_ dst_A5_ dst_A6_ dst_A7_ dst_A8_ dst_A9_ dst_A10_ dst_A11_ dst_A12_ dst_A13_ dst_A14_ dst_A15_ w R = wpc Tryd.prog callF Tryd.f61.ntmps weirref8_six_H 1 (bodyOf Tryd.f61) (argEnv 0 [.agg #[.int .i64 src_V, .int .u8 src_A0_, .int .u8 src_A1_, .int .u8 src_A2_, .int .u8 src_A3_, .int .u8 src_A4_, .int .u8 src_A5_, .int .u8 src_A6_, .int .u8 src_A7_, .int .u8 src_A8_, .int .u8 src_A9_, .int .u8 src_A10_, .int .u8 src_A11_, .int .u8 src_A12_, .int .u8 src_A13_, .int .u8 src_A14_, .int .u8 src_A15_], .agg #[.int .i64 dst_V, .int .u8 dst_A0_, .int .u8 dst_A1_, .int .u8 dst_A2_, .int .u8 dst_A3_, .int .u8 dst_A4_, .int .u8 dst_A5_, .int .u8 dst_A6_, .int .u8 dst_A7_, .int .u8 dst_A8_, .int .u8 dst_A9_, .int .u8 dst_A10_, .int .u8 dst_A11_, .int .u8 dst_A12_, .int .u8 dst_A13_, .int .u8 dst_A14_, .int .u8 dst_A15_]]) [] w (finish Tryd.prog callF Tryd.f61.results.toList R)) h)

set_option maxRecDepth 100000 in
def weirref2_Check_VC (partsA : Option Addr) (partsn : Nat) (partsc : Nat) (w : World) (R : Ending → World → Prop) : Prop :=
  Calls Tryd.prog 90 #[.slice partsA partsn partsc] w (onRet (fun r_ w1 => ∃ x : Int, r_ = .int .i64 x ∧
  R (.returned (.int .i64 (IntKind.i64.wrap (65535 - x)))) w1)
    (fun ch w1 => R (.panicked ch) w1))
def weirref2_Check_H : Hints := []
set_option maxRecDepth 100000 in
theorem weirref2_Check_of (partsA : Option Addr) (partsn : Nat) (partsc : Nat) (w : World) (R : Ending → World → Prop) (h : weirref2_Check_VC partsA partsn partsc w R) :
    Calls Tryd.prog 62 #[.slice partsA partsn partsc] w R :=
  calls_of_wpc callOk mixedOk (H := weirref2_Check_H) (args := [.slice partsA partsn partsc]) (fn := Tryd.f62) (c := bodyOf Tryd.f62) Tryd.func62 rfl (Nat.le_of_ble_eq_true rfl)
    (Eq.mp (by kernel_rfl : weirref2_Check_VC partsA partsn partsc w R = wpc Tryd.prog callF Tryd.f62.ntmps weirref2_Check_H 1 (bodyOf Tryd.f62) (argEnv 0 [.slice partsA partsn partsc]) [] w (finish Tryd.prog callF Tryd.f62.results.toList R)) h)

set_option maxRecDepth 100000 in
def weirref8_parts_VC (v_ : Int) (src_V : Int) (src_A0_ : Int) (src_A1_ : Int) (src_A2_ : Int) (src_A3_ : Int) (src_A4_ : Int) (src_A5_ : Int) (src_A6_ : Int) (src_A7_ : Int) (src_A8_ : Int) (src_A9_ : Int) (src_A10_ : Int) (src_A11_ : Int) (src_A12_ : Int) (src_A13_ : Int) (src_A14_ : Int) (src_A15_ : Int) (dst_V : Int) (dst_A0_ : Int) (dst_A1_ : Int) (dst_A2_ : Int) (dst_A3_ : Int) (dst_A4_ : Int) (dst_A5_ : Int) (dst_A6_ : Int) (dst_A7_ : Int) (dst_A8_ : Int) (dst_A9_ : Int) (dst_A10_ : Int) (dst_A11_ : Int) (dst_A12_ : Int) (dst_A13_ : Int) (dst_A14_ : Int) (dst_A15_ : Int) (bA : Option Addr) (bn : Nat) (bc : Nat) (w : World) (R : Ending → World → Prop) : Prop :=
  NewVC w (.cells #[.int .i64 src_V, .int .u8 src_A0_, .int .u8 src_A1_, .int .u8 src_A2_, .int .u8 src_A3_, .int .u8 src_A4_, .int .u8 src_A5_, .int .u8 src_A6_, .int .u8 src_A7_, .int .u8 src_A8_, .int .u8 src_A9_, .int .u8 src_A10_, .int .u8 src_A11_, .int .u8 src_A12_, .int .u8 src_A13_, .int .u8 src_A14_, .int .u8 src_A15_] 31) fun g1 w1 =>
  NewVC w1 (.cells #[.int .i64 dst_V, .int .u8 dst_A0_, .int .u8 dst_A1_, .int .u8 dst_A2_, .int .u8 dst_A3_, .int .u8 dst_A4_, .int .u8 dst_A5_, .int .u8 dst_A6_, .int .u8 dst_A7_, .int .u8 dst_A8_, .int .u8 dst_A9_, .int .u8 dst_A10_, .int .u8 dst_A11_, .int .u8 dst_A12_, .int .u8 dst_A13_, .int .u8 dst_A14_, .int .u8 dst_A15_] 31) fun g2 w2 =>
  Br (decide (v_ = 4))
    (NewVC w2 (.cells #[.slice bA bn bc] 22) fun g3 w3 =>
    R (.returned (.slice (some ⟨g3, 0, none⟩) 1 1)) w3)
    (∃ x0 : Int, ∃ x1 : Int, ∃ x2 : Int, ∃ x3 : Int, ∃ x4 : Int, ∃ x5 : Int, ∃ x6 : Int, ∃ x7 : Int, ∃ x8 : Int, ∃ x9 : Int, ∃ x10 : Int, ∃ x11 : Int, ∃ x12 : Int, ∃ x13 : Int, ∃ x14 : Int, ∃ x15 : Int, ∃ x16 : Int, CellsAt w2 ⟨g1, 0, none⟩ 0 [.int .i64 x0, .int .u8 x1, .int .u8 x2, .int .u8 x3, .int .u8 x4, .int .u8 x5, .int .u8 x6, .int .u8 x7, .int .u8 x8, .int .u8 x9, .int .u8 x10, .int .u8 x11, .int .u8 x12, .int .u8 x13, .int .u8 x14, .int .u8 x15, .int .u8 x16] ∧
  ∃ x01 : Int, ∃ x17 : Int, ∃ x21 : Int, ∃ x31 : Int, ∃ x41 : Int, ∃ x51 : Int, ∃ x61 : Int, ∃ x71 : Int, ∃ x81 : Int, ∃ x91 : Int, ∃ x101 : Int, ∃ x111 : Int, ∃ x121 : Int, ∃ x131 : Int, ∃ x141 : Int, ∃ x151 : Int, ∃ x161 : Int, CellsAt w2 ⟨g2, 0, none⟩ 0 [.int .i64 x01, .int .u8 x17, .int .u8 x21, .int .u8 x31, .int .u8 x41, .int .u8 x51, .int .u8 x61, .int .u8 x71, .int .u8 x81, .int .u8 x91, .int .u8 x101, .int .u8 x111, .int .u8 x121, .int .u8 x131, .int .u8 x141, .int .u8 x151, .int .u8 x161] ∧
  Calls Tryd.prog 91 #[.agg #[.int .i64 x0, .int .u8 x1, .int .u8 x2, .int .u8 x3, .int .u8 x4, .int .u8 x5, .int .u8 x6, .int .u8 x7, .int .u8 x8, .int .u8 x9, .int .u8 x10, .int .u8 x11, .int .u8 x12, .int .u8 x13, .int .u8 x14, .int .u8 x15, .int .u8 x16], .agg #[.int .i64 x01, .int .u8 x17, .int .u8 x21, .int .u8 x31, .int .u8 x41, .int .u8 x51, .int .u8 x61, .int .u8 x71, .int .u8 x81, .int .u8 x91, .int .u8 x101, .int .u8 x111, .int .u8 x121, .int .u8 x131, .int .u8 x141, .int .u8 x151, .int .u8 x161], .int .i64 58, .int .i64 (bn : Int)] w2 (onRet (fun r_ w4 => ∃ (x0A : Option Addr) (x0n x0c : Nat), ∃ x18 : Int, r_ = .tuple #[.slice x0A x0n x0c, .int .i64 x18] ∧
  NewVC w4 (.cells #[.slice x0A x0n x0c, .slice bA bn bc] 22) fun g4 w5 =>
  R (.returned (.slice (some ⟨g4, 0, none⟩) 2 2)) w5)
    (fun ch w4 => R (.panicked ch) w4)))
def weirref8_parts_H : Hints := []
set_option maxRecDepth 100000 in
theorem weirref8_parts_of (v_ : Int) (src_V : Int) (src_A0_ : Int) (src_A1_ : Int) (src_A2_ : Int) (src_A3_ : Int) (src_A4_ : Int) (src_A5_ : Int) (src_A6_ : Int) (src_A7_ : Int) (src_A8_ : Int) (src_A9_ : Int) (src_A10_ : Int) (src_A11_ : Int) (src_A12_ : Int) (src_A13_ : Int) (src_A14_ : Int) (src_A15_ : Int) (dst_V : Int) (dst_A0_ : Int) (dst_A1_ : Int) (dst_A2_ : Int) (dst_A3_ : Int) (dst_A4_ : Int) (dst_A5_ : Int) (dst_A6_ : Int) (dst_A7_ : Int) (dst_A8_ : Int) (dst_A9_ : Int) (dst_A10_ : Int) (dst_A11_ : Int) (dst_A12_ : Int) (dst_A13_ : Int) (dst_A14_ : Int) (dst_A15_ : Int) (bA : Option Addr) (bn : Nat) (bc : Nat) (w : World) (R : Ending → World → Prop) (h : weirref8_parts_VC v_ src_V src_A0_ src_A1_ src_A2_ src_A3_ src_A4_ src_A5_ src_A6_ src_A7_ src_A8_ src_A9_ src_A10_ src_A11_ src_A12_ src_A13_ src_A14_ src_A15_ dst_V dst_A0_ dst_A1_ dst_A2_ dst_A3_ dst_A4_ dst_A5_ dst_A6_ dst_A7_ dst_A8_ dst_A9_ dst_A10_ dst_A11_ dst_A12_ dst_A13_ dst_A14_ dst_A15_ bA bn bc w R) :
    Calls Tryd.prog 63 #[.int .i64 v_, .agg #[.int .i64 src_V, .int .u8 src_A0_, .int .u8 src_A1_, .int .u8 src_A2_, .int .u8 src_A3_, .int .u8 src_A4_, .int .u8 src_A5_, .int .u8 src_A6_, .int .u8 src_A7_, .int .u8 src_A8_, .int .u8 src_A9_, .int .u8 src_A10_, .int .u8 src_A11_, .int .u8 src_A12_, .int .u8 src_A13_, .int .u8 src_A14_, .int .u8 src_A15_], .agg #[.int .i64 dst_V, .int .u8 dst_A0_, .int .u8 dst_A1_, .int .u8 dst_A2_, .int .u8 dst_A3_, .int .u8 dst_A4_, .int .u8 dst_A5_, .int .u8 dst_A6_, .int .u8 dst_A7_, .int .u8 dst_A8_, .int .u8 dst_A9_, .int .u8 dst_A10_, .int .u8 dst_A11_, .int .u8 dst_A12_, .int .u8 dst_A13_, .int .u8 dst_A14_, .int .u8 dst_A15_], .slice bA bn bc] w R :=
  calls_of_wpc callOk mixedOk (H := weirref8_parts_H) (args := [.int .i64 v_, .agg #[.int .i64 src_V, .int .u8 src_A0_, .int .u8 src_A1_, .int .u8 src_A2_, .int .u8 src_A3_, .int .u8 src_A4_, .int .u8 src_A5_, .int .u8 src_A6_, .int .u8 src_A7_, .int .u8 src_A8_, .int .u8 src_A9_, .int .u8 src_A10_, .int .u8 src_A11_, .int .u8 src_A12_, .int .u8 src_A13_, .int .u8 src_A14_, .int .u8 src_A15_], .agg #[.int .i64 dst_V, .int .u8 dst_A0_, .int .u8 dst_A1_, .int .u8 dst_A2_, .int .u8 dst_A3_, .int .u8 dst_A4_, .int .u8 dst_A5_, .int .u8 dst_A6_, .int .u8 dst_A7_, .int .u8 dst_A8_, .int .u8 dst_A9_, .int .u8 dst_A10_, .int .u8 dst_A11_, .int .u8 dst_A12_, .int .u8 dst_A13_, .int .u8 dst_A14_, .int .u8 dst_A15_], .slice bA bn bc]) (fn := Tryd.f63) (c := bodyOf Tryd.f63) Tryd.func63 rfl (Nat.le_of_ble_eq_true rfl)
    (Eq.mp (by kernel_rfl : weirref8_parts_VC v_ src_V src_A0_ src_A1_ src_A2_ src_A3_ src_A4_ src_A5_ src_A6_ src_A7_ src_A8_ src_A9_ src_A10_ src_A11_ src_A12_ src_A13_ src_A14_ src_A15_ dst_V dst_A0_ dst_A1_ dst_A2_ dst_A3_ dst_A4_ dst_A5_ dst_A6_ dst_A7_ dst_A8_ dst_A9_ dst_A10_ dst_A11_ dst_A12_ dst_A13_ dst_A14_ dst_A15_ bA bn bc w R = wpc Tryd.prog callF Tryd.f63.ntmps weirref8_parts_H 1 (bodyOf Tryd.f63) (argEnv 0 [.int .i64 v_, .agg #[.int .i64 src_V, .int .u8 src_A0_, .int .u8 src_A1_, .int .u8 src_A2_, .int .u8 src_A3_, .int .u8 src_A4_, .int .u8 src_A5_, .int .u8 src_A6_, .int .u8 src_A7_, .int .u8 src_A8_, .int .u8 src_A9_, .int .u8 src_A10_, .int .u8 src_A11_, .int .u8 src_A12_, .int .u8 src_A13_, .int .u8 src_A14_, .int .u8 src_A15_], .agg #[.int .i64 dst_V, .int .u8 dst_A0_, .int .u8 dst_A1_, .int .u8 dst_A2_, .int .u8 dst_A3_, .int .u8 dst_A4_, .int .u8 dst_A5_, .int .u8 dst_A6_, .int .u8 dst_A7_, .int .u8 dst_A8_, .int .u8 dst_A9_, .int .u8 dst_A10_, .int .u8 dst_A11_, .int .u8 dst_A12_, .int .u8 dst_A13_, .int .u8 dst_A14_, .int .u8 dst_A15_], .slice bA bn bc]) [] w (finish Tryd.prog callF Tryd.f63.results.toList R)) h)

set_option maxRecDepth 100000 in
def sum_Good_VC (partsA : Option Addr) (partsn : Nat) (partsc : Nat) (w : World) (R : Ending → World → Prop) : Prop :=
  Calls Tryd.prog 89 #[.slice partsA partsn partsc] w (onRet (fun r_ w1 => ∃ x : Int, r_ = .int .i64 x ∧
  R (.returned (.bool (decide (x = 65535)))) w1)
    (fun ch w1 => R (.panicked ch) w1))
def sum_Good_H : Hints := []
set_option maxRecDepth 100000 in
theorem sum_Good_of (partsA : Option Addr) (partsn : Nat) (partsc : Nat) (w : World) (R : Ending → World → Prop) (h : sum_Good_VC partsA partsn partsc w R) :
    Calls Tryd.prog 64 #[.slice partsA partsn partsc] w R :=
  calls_of_wpc callOk mixedOk (H := sum_Good_H) (args := [.slice partsA partsn partsc]) (fn := Tryd.f64) (c := bodyOf Tryd.f64) Tryd.func64 rfl (Nat.le_of_ble_eq_true rfl)
    (Eq.mp (by kernel_rfl : sum_Good_VC partsA partsn partsc w R = wpc Tryd.prog callF Tryd.f64.ntmps sum_Good_H 1 (bodyOf Tryd.f64) (argEnv 0 [.slice partsA partsn partsc]) [] w (finish Tryd.prog callF Tryd.f64.results.toList R)) h)

set_option maxRecDepth 100000 in
def view_Fields_L1042842 (R : Ending → World → Prop) (g1 : Nat) (g2 : Nat) (g3 : Nat) (xA : Option Addr) (xn : Nat) (xc : Nat) (t30_ : Int) (K1018 : (Int × Int → World → Prop)) (x3 : Int) (bit1 : Int) (v_ : Int) (t35_ : Int) (w12 : World) (K1042842 : (Int × Int × Int → World → Prop)) : Prop :=
  Br (decide (t35_ < x3))
    (Calls Tryd.prog 94 #[.slice xA xn xc, .int .i64 (IntKind.i64.wrap (Int.tdiv bit1 8))] w12 (onRet (fun r_2 w13 => ∃ x4 : Int, r_2 = .int .u8 x4 ∧
  ShVC (IntKind.u64.wrap (7 - IntKind.u64.wrap (Int.tmod bit1 8))) (
  ([{ target := .fn (.func 92) #[.pointer (some ⟨g1, 0, none⟩), .pointer (some ⟨g2, 0, none⟩), .pointer (some ⟨g3, 0, none⟩)], args := #[] }] : List Deferred) = [{ target := .fn (.func 92) #[.pointer (some ⟨g1, 0, none⟩), .pointer (some ⟨g2, 0, none⟩), .pointer (some ⟨g3, 0, none⟩)], args := #[] }] ∧ K1042842 (IntKind.i64.wrap (bit1 + 1), bitv .or .i64 (IntKind.i64.wrap (v_ * 2)) (IntKind.i64.wrap (bitv .and .u8 (Int.fdiv x4 (2 ^ (min ((IntKind.u64.wrap (7 - IntKind.u64.wrap (Int.tmod bit1 8))).toNat) 8))) 1)), IntKind.i64.wrap (t35_ + 1)) w13))
    (fun ch2 w13 => leaveWp Tryd.prog callF (fun w14 => ∃ (resA1 : Option Addr) (resn1 resc1 : Nat), w14.cell? ⟨g1, 0, none⟩ = some (.slice resA1 resn1 resc1) ∧
    ∃ res2 : Int, w14.cell? ⟨g2, 0, none⟩ = some (.int .i64 res2) ∧
    ∃ res3 : Int, w14.cell? ⟨g3, 0, none⟩ = some (.int .i64 res3) ∧
    R (.returned (.tuple #[.slice resA1 resn1 resc1, .int .i64 res2, .int .i64 res3])) w14)
    R [{ target := .fn (.func 92) #[.pointer (some ⟨g1, 0, none⟩), .pointer (some ⟨g2, 0, none⟩), .pointer (some ⟨g3, 0, none⟩)], args := #[] }] (.panicking ch2) w13)))
    (∃ (xA1 : Option Addr) (xn1 xc1 : Nat), w12.cell? ⟨g1, 0, none⟩ = some (.slice xA1 xn1 xc1) ∧
  NewVC w12 (.cells #[.int .i64 v_] 3) fun g4 w15 =>
  AppVC Tryd.prog #[108, 108] 108 (.slice xA1 xn1 xc1) (.slice (some ⟨g4, 0, none⟩) 1 1) w15 fun lA ln lc w16 =>
  SetVC w16 ⟨g1, 0, none⟩ (.slice lA ln lc) fun w17 =>
  ([{ target := .fn (.func 92) #[.pointer (some ⟨g1, 0, none⟩), .pointer (some ⟨g2, 0, none⟩), .pointer (some ⟨g3, 0, none⟩)], args := #[] }] : List Deferred) = [{ target := .fn (.func 92) #[.pointer (some ⟨g1, 0, none⟩), .pointer (some ⟨g2, 0, none⟩), .pointer (some ⟨g3, 0, none⟩)], args := #[] }] ∧ K1018 (bit1, IntKind.i64.wrap (t30_ + 1)) w17)
set_option maxRecDepth 100000 in
def view_Fields_L1018 (R : Ending → World → Prop) (at_ : Int) (widthsA : Option Addr) (widthsn : Nat) (g1 : Nat) (g2 : Nat) (g3 : Nat) (x0 : Int) (xA : Option Addr) (xn : Nat) (xc : Nat) (bit : Int) (t30_ : Int) (w11 : World) (K1018 : (Int × Int → World → Prop)) : Prop :=
  Br (decide (t30_ < (widthsn : Int)))
    (IdxVC widthsA widthsn 1 t30_ fun a =>
  ∃ x3 : Int, w11.cell? a = some (.int .i64 x3) ∧
  LoopVC (S := Int × Int × Int) (fun s w12 K1042842 => view_Fields_L1042842 R g1 g2 g3 xA xn xc t30_ K1018 x3 s.1 s.2.1 s.2.2 w12 K1042842) (bit, 0, 0) w11)
    (∃ (xA2 : Option Addr) (xn2 xc2 : Nat), w11.cell? ⟨g1, 0, none⟩ = some (.slice xA2 xn2 xc2) ∧
  SetVC w11 ⟨g1, 0, none⟩ (.slice xA2 xn2 xc2) fun w18 =>
  SetVC w18 ⟨g2, 0, none⟩ (.int .i64 (IntKind.i64.wrap (at_ + x0))) fun w19 =>
  SetVC w19 ⟨g3, 0, none⟩ (.int .i64 0) fun w20 =>
  leaveWp Tryd.prog callF (fun w21 => ∃ (resA2 : Option Addr) (resn2 resc2 : Nat), w21.cell? ⟨g1, 0, none⟩ = some (.slice resA2 resn2 resc2) ∧
    ∃ res4 : Int, w21.cell? ⟨g2, 0, none⟩ = some (.int .i64 res4) ∧
    ∃ res5 : Int, w21.cell? ⟨g3, 0, none⟩ = some (.int .i64 res5) ∧
    R (.returned (.tuple #[.slice resA2 resn2 resc2, .int .i64 res4, .int .i64 res5])) w21)
    R [{ target := .fn (.func 92) #[.pointer (some ⟨g1, 0, none⟩), .pointer (some ⟨g2, 0, none⟩), .pointer (some ⟨g3, 0, none⟩)], args := #[] }] .returning w20)
set_option maxRecDepth 100000 in
def view_Fields_VC (bA : Option Addr) (bn : Nat) (bc : Nat) (at_ : Int) (widthsA : Option Addr) (widthsn : Nat) (widthsc : Nat) (w : World) (R : Ending → World → Prop) : Prop :=
  NewVC w (.cells #[.slice none 0 0] 108) fun g1 w1 =>
  NewVC w1 (.cells #[.int .i64 0] 3) fun g2 w2 =>
  NewVC w2 (.cells #[.int .i64 0] 36) fun g3 w3 =>
  Calls Tryd.prog 88 #[.slice widthsA widthsn widthsc] w3 (onRet (fun r_ w4 => ∃ x0 : Int, ∃ x1 : Int, r_ = .tuple #[.int .i64 x0, .int .i64 x1] ∧
  SetVC w4 ⟨g3, 0, none⟩ (.int .i64 x1) fun w5 =>
  ∃ x : Int, w5.cell? ⟨g3, 0, none⟩ = some (.int .i64 x) ∧
  Br (decide (x ≠ 0))
    (DrawVC w5 fun S1 w6 =>
    ∃ x2 : Int, (∀ w' : World, S1 w' → w'.cell? ⟨g3, 0, none⟩ = some (.int .i64 x2)) ∧
    SetVC w6 ⟨g1, 0, none⟩ (.slice none 0 0) fun w7 =>
    S1 w7 ∧
    SetVC w7 ⟨g2, 0, none⟩ (.int .i64 0) fun w8 =>
    S1 w8 ∧
    SetVC w8 ⟨g3, 0, none⟩ (.int .i64 x2) fun w9 =>
    ∃ (resA : Option Addr) (resn resc : Nat), w9.cell? ⟨g1, 0, none⟩ = some (.slice resA resn resc) ∧
  ∃ res : Int, w9.cell? ⟨g2, 0, none⟩ = some (.int .i64 res) ∧
  ∃ res1 : Int, w9.cell? ⟨g3, 0, none⟩ = some (.int .i64 res1) ∧
  R (.returned (.tuple #[.slice resA resn resc, .int .i64 res, .int .i64 res1])) w9)
    (Calls Tryd.prog 93 #[.slice bA bn bc, .int .i64 at_, .int .i64 x0] w5 (onRet (fun r_1 w10 => ∃ (xA : Option Addr) (xn xc : Nat), r_1 = .slice xA xn xc ∧
  LoopVC (S := Int × Int) (fun s w11 K1018 => view_Fields_L1018 R at_ widthsA widthsn g1 g2 g3 x0 xA xn xc s.1 s.2 w11 K1018) (0, 0) w10)
    (fun ch1 w10 => leaveWp Tryd.prog callF (fun w22 => ∃ (resA3 : Option Addr) (resn3 resc3 : Nat), w22.cell? ⟨g1, 0, none⟩ = some (.slice resA3 resn3 resc3) ∧
    ∃ res6 : Int, w22.cell? ⟨g2, 0, none⟩ = some (.int .i64 res6) ∧
    ∃ res7 : Int, w22.cell? ⟨g3, 0, none⟩ = some (.int .i64 res7) ∧
    R (.returned (.tuple #[.slice resA3 resn3 resc3, .int .i64 res6, .int .i64 res7])) w22)
    R [{ target := .fn (.func 92) #[.pointer (some ⟨g1, 0, none⟩), .pointer (some ⟨g2, 0, none⟩), .pointer (some ⟨g3, 0, none⟩)], args := #[] }] (.panicking ch1) w10))))
    (fun ch w4 => R (.panicked ch) w4))
def view_Fields_H : Hints := [(1018, [(11, .int .i64), (30, .int .i64)]), (1042842, [(11, .int .i64), (14, .int .i64), (35, .int .i64)])]
set_option maxRecDepth 100000 in
theorem view_Fields_of (bA : Option Addr) (bn : Nat) (bc : Nat) (at_ : Int) (widthsA : Option Addr) (widthsn : Nat) (widthsc : Nat) (w : World) (R : Ending → World → Prop) (h : view_Fields_VC bA bn bc at_ widthsA widthsn widthsc w R) :
    Calls Tryd.prog 65 #[.slice bA bn bc, .int .i64 at_, .slice widthsA widthsn widthsc] w R :=
  calls_of_wpc callOk mixedOk (H := view_Fields_H) (args := [.slice bA bn bc, .int .i64 at_, .slice widthsA widthsn widthsc]) (fn := Tryd.f65) (c := bodyOf Tryd.f65) Tryd.func65 rfl (Nat.le_of_ble_eq_true rfl)
    (Eq.mp (by kernel_rfl : view_Fields_VC bA bn bc at_ widthsA widthsn widthsc w R = wpc Tryd.prog callF Tryd.f65.ntmps view_Fields_H 1 (bodyOf Tryd.f65) (argEnv 0 [.slice bA bn bc, .int .i64 at_, .slice widthsA widthsn widthsc]) [] w (finish Tryd.prog callF Tryd.f65.results.toList R)) h)

set_option maxRecDepth 100000 in
def weirref2_Good_VC (partsA : Option Addr) (partsn : Nat) (partsc : Nat) (w : World) (R : Ending → World → Prop) : Prop :=
  Calls Tryd.prog 90 #[.slice partsA partsn partsc] w (onRet (fun r_ w1 => ∃ x : Int, r_ = .int .i64 x ∧
  R (.returned (.bool (decide (x = 65535)))) w1)
    (fun ch w1 => R (.panicked ch) w1))
def weirref2_Good_H : Hints := []
set_option maxRecDepth 100000 in
theorem weirref2_Good_of (partsA : Option Addr) (partsn : Nat) (partsc : Nat) (w : World) (R : Ending → World → Prop) (h : weirref2_Good_VC partsA partsn partsc w R) :
    Calls Tryd.prog 66 #[.slice partsA partsn partsc] w R :=
  calls_of_wpc callOk mixedOk (H := weirref2_Good_H) (args := [.slice partsA partsn partsc]) (fn := Tryd.f66) (c := bodyOf Tryd.f66) Tryd.func66 rfl (Nat.le_of_ble_eq_true rfl)
    (Eq.mp (by kernel_rfl : weirref2_Good_VC partsA partsn partsc w R = wpc Tryd.prog callF Tryd.f66.ntmps weirref2_Good_H 1 (bodyOf Tryd.f66) (argEnv 0 [.slice partsA partsn partsc]) [] w (finish Tryd.prog callF Tryd.f66.results.toList R)) h)

set_option maxRecDepth 100000 in
def sum_Pseudo_J28 (R : Ending → World → Prop) (proto : Int) (n : Int) (g1 : Nat) (g2 : Nat) (x : Int) (t14_ : Bool) (w5 : World) : Prop :=
  Br t14_
    (R (.returned (.tuple #[.slice none 0 0, .int .i64 20])) w5)
    (Br (decide (proto < 0))
      (R (.returned (.tuple #[.slice none 0 0, .int .i64 1])) w5)
      (Br (decide ((255 : Int) < proto))
        (R (.returned (.tuple #[.slice none 0 0, .int .i64 1])) w5)
        (Br (decide (n < 0))
          (R (.returned (.tuple #[.slice none 0 0, .int .i64 1])) w5)
          (Br (decide ((65535 : Int) < n))
      (R (.returned (.tuple #[.slice none 0 0, .int .i64 1])) w5)
      (Br (decide (x = 4))
    (SliceVC (some ⟨g1, 1, none⟩) 16 16 1 none (some 4) none fun sA sn sc =>
    AppVC Tryd.prog #[22, 22] 22 (.slice none 0 0) (.slice sA sn sc) w5 fun lA ln lc w6 =>
    SliceVC (some ⟨g2, 1, none⟩) 16 16 1 none (some 4) none fun sA1 sn1 sc1 =>
    AppVC Tryd.prog #[22, 22] 22 (.slice lA ln lc) (.slice sA1 sn1 sc1) w6 fun lA1 ln1 lc1 w7 =>
    NewVC w7 (.cells #[.int .u8 0, .int .u8 (IntKind.u8.wrap proto), .int .u8 (IntKind.u8.wrap (Int.fdiv n 256)), .int .u8 (IntKind.u8.wrap n)] 5) fun g3 w8 =>
    AppVC Tryd.prog #[22, 22] 22 (.slice lA1 ln1 lc1) (.slice (some ⟨g3, 0, none⟩) 4 4) w8 fun lA2 ln2 lc2 w9 =>
    R (.returned (.tuple #[.slice lA2 ln2 lc2, .int .i64 0])) w9)
    (SliceVC (some ⟨g1, 1, none⟩) 16 16 1 none none none fun sA2 sn2 sc2 =>
  AppVC Tryd.prog #[22, 22] 22 (.slice none 0 0) (.slice sA2 sn2 sc2) w5 fun lA3 ln3 lc3 w10 =>
  SliceVC (some ⟨g2, 1, none⟩) 16 16 1 none none none fun sA3 sn3 sc3 =>
  AppVC Tryd.prog #[22, 22] 22 (.slice lA3 ln3 lc3) (.slice sA3 sn3 sc3) w10 fun lA4 ln4 lc4 w11 =>
  NewVC w11 (.cells #[.int .u8 0, .int .u8 0, .int .u8 (IntKind.u8.wrap (Int.fdiv n 256)), .int .u8 (IntKind.u8.wrap n), .int .u8 0, .int .u8 0, .int .u8 0, .int .u8 (IntKind.u8.wrap proto)] 5) fun g4 w12 =>
  AppVC Tryd.prog #[22, 22] 22 (.slice lA4 ln4 lc4) (.slice (some ⟨g4, 0, none⟩) 8 8) w12 fun lA5 ln5 lc5 w13 =>
  R (.returned (.tuple #[.slice lA5 ln5 lc5, .int .i64 0])) w13))))))
set_option maxRecDepth 100000 in
def sum_Pseudo_VC (src_V : Int) (src_A0_ : Int) (src_A1_ : Int) (src_A2_ : Int) (src_A3_ : Int) (src_A4_ : Int) (src_A5_ : Int) (src_A6_ : Int) (src_A7_ : Int) (src_A8_ : Int) (src_A9_ : Int) (src_A10_ : Int) (src_A11_ : Int) (src_A12_ : Int) (src_A13_ : Int) (src_A14_ : Int) (src_A15_ : Int) (dst_V : Int) (dst_A0_ : Int) (dst_A1_ : Int) (dst_A2_ : Int) (dst_A3_ : Int) (dst_A4_ : Int) (dst_A5_ : Int) (dst_A6_ : Int) (dst_A7_ : Int) (dst_A8_ : Int) (dst_A9_ : Int) (dst_A10_ : Int) (dst_A11_ : Int) (dst_A12_ : Int) (dst_A13_ : Int) (dst_A14_ : Int) (dst_A15_ : Int) (proto : Int) (n : Int) (w : World) (R : Ending → World → Prop) : Prop :=
  NewVC w (.cells #[.int .i64 src_V, .int .u8 src_A0_, .int .u8 src_A1_, .int .u8 src_A2_, .int .u8 src_A3_, .int .u8 src_A4_, .int .u8 src_A5_, .int .u8 src_A6_, .int .u8 src_A7_, .int .u8 src_A8_, .int .u8 src_A9_, .int .u8 src_A10_, .int .u8 src_A11_, .int .u8 src_A12_, .int .u8 src_A13_, .int .u8 src_A14_, .int .u8 src_A15_] 31) fun g1 w1 =>
  NewVC w1 (.cells #[.int .i64 dst_V, .int .u8 dst_A0_, .int .u8 dst_A1_, .int .u8 dst_A2_, .int .u8 dst_A3_, .int .u8 dst_A4_, .int .u8 dst_A5_, .int .u8 dst_A6_, .int .u8 dst_A7_, .int .u8 dst_A8_, .int .u8 dst_A9_, .int .u8 dst_A10_, .int .u8 dst_A11_, .int .u8 dst_A12_, .int .u8 dst_A13_, .int .u8 dst_A14_, .int .u8 dst_A15_] 31) fun g2 w2 =>
  ∃ x0 : Int, ∃ x1 : Int, ∃ x2 : Int, ∃ x3 : Int, ∃ x4 : Int, ∃ x5 : Int, ∃ x6 : Int, ∃ x7 : Int, ∃ x8 : Int, ∃ x9 : Int, ∃ x10 : Int, ∃ x11 : Int, ∃ x12 : Int, ∃ x13 : Int, ∃ x14 : Int, ∃ x15 : Int, ∃ x16 : Int, CellsAt w2 ⟨g1, 0, none⟩ 0 [.int .i64 x0, .int .u8 x1, .int .u8 x2, .int .u8 x3, .int .u8 x4, .int .u8 x5, .int .u8 x6, .int .u8 x7, .int .u8 x8, .int .u8 x9, .int .u8 x10, .int .u8 x11, .int .u8 x12, .int .u8 x13, .int .u8 x14, .int .u8 x15, .int .u8 x16] ∧
  Calls Tryd.prog 115 #[.agg #[.int .i64 x0, .int .u8 x1, .int .u8 x2, .int .u8 x3, .int .u8 x4, .int .u8 x5, .int .u8 x6, .int .u8 x7, .int .u8 x8, .int .u8 x9, .int .u8 x10, .int .u8 x11, .int .u8 x12, .int .u8 x13, .int .u8 x14, .int .u8 x15, .int .u8 x16]] w2 (onRet (fun r_ w3 => ∃ x : Int, r_ = .int .i64 x ∧
  JoinVC (S := Bool) (fun J28 =>
      Br (decide (x = 0))
        (J28 true w3)
        (∃ x01 : Int, ∃ x17 : Int, ∃ x21 : Int, ∃ x31 : Int, ∃ x41 : Int, ∃ x51 : Int, ∃ x61 : Int, ∃ x71 : Int, ∃ x81 : Int, ∃ x91 : Int, ∃ x101 : Int, ∃ x111 : Int, ∃ x121 : Int, ∃ x131 : Int, ∃ x141 : Int, ∃ x151 : Int, ∃ x161 : Int, CellsAt w3 ⟨g2, 0, none⟩ 0 [.int .i64 x01, .int .u8 x17, .int .u8 x21, .int .u8 x31, .int .u8 x41, .int .u8 x51, .int .u8 x61, .int .u8 x71, .int .u8 x81, .int .u8 x91, .int .u8 x101, .int .u8 x111, .int .u8 x121, .int .u8 x131, .int .u8 x141, .int .u8 x151, .int .u8 x161] ∧
        Calls Tryd.prog 115 #[.agg #[.int .i64 x01, .int .u8 x17, .int .u8 x21, .int .u8 x31, .int .u8 x41, .int .u8 x51, .int .u8 x61, .int .u8 x71, .int .u8 x81, .int .u8 x91, .int .u8 x101, .int .u8 x111, .int .u8 x121, .int .u8 x131, .int .u8 x141, .int .u8 x151, .int .u8 x161]] w3 (onRet (fun r_1 w4 => ∃ x18 : Int, r_1 = .int .i64 x18 ∧
        J28 (decide (x18 ≠ x)) w4)
          (fun ch1 w4 => R (.panicked ch1) w4))))
    (fun s w5 => sum_Pseudo_J28 R proto n g1 g2 x s w5))
    (fun ch w3 => R (.panicked ch) w3))
def sum_Pseudo_H : Hints := [(28, [(14, .bool)])]
set_option maxRecDepth 100000 in
theorem sum_Pseudo_of (src_V : Int) (src_A0_ : Int) (src_A1_ : Int) (src_A2_ : Int) (src_A3_ : Int) (src_A4_ : Int) (src_A5_ : Int) (src_A6_ : Int) (src_A7_ : Int) (src_A8_ : Int) (src_A9_ : Int) (src_A10_ : Int) (src_A11_ : Int) (src_A12_ : Int) (src_A13_ : Int) (src_A14_ : Int) (src_A15_ : Int) (dst_V : Int) (dst_A0_ : Int) (dst_A1_ : Int) (dst_A2_ : Int) (dst_A3_ : Int) (dst_A4_ : Int) (dst_A5_ : Int) (dst_A6_ : Int) (dst_A7_ : Int) (dst_A8_ : Int) (dst_A9_ : Int) (dst_A10_ : Int) (dst_A11_ : Int) (dst_A12_ : Int) (dst_A13_ : Int) (dst_A14_ : Int) (dst_A15_ : Int) (proto : Int) (n : Int) (w : World) (R : Ending → World → Prop) (h : sum_Pseudo_VC src_V src_A0_ src_A1_ src_A2_ src_A3_ src_A4_ src_A5_ src_A6_ src_A7_ src_A8_ src_A9_ src_A10_ src_A11_ src_A12_ src_A13_ src_A14_ src_A15_ dst_V dst_A0_ dst_A1_ dst_A2_ dst_A3_ dst_A4_ dst_A5_ dst_A6_ dst_A7_ dst_A8_ dst_A9_ dst_A10_ dst_A11_ dst_A12_ dst_A13_ dst_A14_ dst_A15_ proto n w R) :
    Calls Tryd.prog 87 #[.agg #[.int .i64 src_V, .int .u8 src_A0_, .int .u8 src_A1_, .int .u8 src_A2_, .int .u8 src_A3_, .int .u8 src_A4_, .int .u8 src_A5_, .int .u8 src_A6_, .int .u8 src_A7_, .int .u8 src_A8_, .int .u8 src_A9_, .int .u8 src_A10_, .int .u8 src_A11_, .int .u8 src_A12_, .int .u8 src_A13_, .int .u8 src_A14_, .int .u8 src_A15_], .agg #[.int .i64 dst_V, .int .u8 dst_A0_, .int .u8 dst_A1_, .int .u8 dst_A2_, .int .u8 dst_A3_, .int .u8 dst_A4_, .int .u8 dst_A5_, .int .u8 dst_A6_, .int .u8 dst_A7_, .int .u8 dst_A8_, .int .u8 dst_A9_, .int .u8 dst_A10_, .int .u8 dst_A11_, .int .u8 dst_A12_, .int .u8 dst_A13_, .int .u8 dst_A14_, .int .u8 dst_A15_], .int .i64 proto, .int .i64 n] w R :=
  calls_of_wpc callOk mixedOk (H := sum_Pseudo_H) (args := [.agg #[.int .i64 src_V, .int .u8 src_A0_, .int .u8 src_A1_, .int .u8 src_A2_, .int .u8 src_A3_, .int .u8 src_A4_, .int .u8 src_A5_, .int .u8 src_A6_, .int .u8 src_A7_, .int .u8 src_A8_, .int .u8 src_A9_, .int .u8 src_A10_, .int .u8 src_A11_, .int .u8 src_A12_, .int .u8 src_A13_, .int .u8 src_A14_, .int .u8 src_A15_], .agg #[.int .i64 dst_V, .int .u8 dst_A0_, .int .u8 dst_A1_, .int .u8 dst_A2_, .int .u8 dst_A3_, .int .u8 dst_A4_, .int .u8 dst_A5_, .int .u8 dst_A6_, .int .u8 dst_A7_, .int .u8 dst_A8_, .int .u8 dst_A9_, .int .u8 dst_A10_, .int .u8 dst_A11_, .int .u8 dst_A12_, .int .u8 dst_A13_, .int .u8 dst_A14_, .int .u8 dst_A15_], .int .i64 proto, .int .i64 n]) (fn := Tryd.f87) (c := bodyOf Tryd.f87) Tryd.func87 rfl (Nat.le_of_ble_eq_true rfl)
    (Eq.mp (by kernel_rfl : sum_Pseudo_VC src_V src_A0_ src_A1_ src_A2_ src_A3_ src_A4_ src_A5_ src_A6_ src_A7_ src_A8_ src_A9_ src_A10_ src_A11_ src_A12_ src_A13_ src_A14_ src_A15_ dst_V dst_A0_ dst_A1_ dst_A2_ dst_A3_ dst_A4_ dst_A5_ dst_A6_ dst_A7_ dst_A8_ dst_A9_ dst_A10_ dst_A11_ dst_A12_ dst_A13_ dst_A14_ dst_A15_ proto n w R = wpc Tryd.prog callF Tryd.f87.ntmps sum_Pseudo_H 1 (bodyOf Tryd.f87) (argEnv 0 [.agg #[.int .i64 src_V, .int .u8 src_A0_, .int .u8 src_A1_, .int .u8 src_A2_, .int .u8 src_A3_, .int .u8 src_A4_, .int .u8 src_A5_, .int .u8 src_A6_, .int .u8 src_A7_, .int .u8 src_A8_, .int .u8 src_A9_, .int .u8 src_A10_, .int .u8 src_A11_, .int .u8 src_A12_, .int .u8 src_A13_, .int .u8 src_A14_, .int .u8 src_A15_], .agg #[.int .i64 dst_V, .int .u8 dst_A0_, .int .u8 dst_A1_, .int .u8 dst_A2_, .int .u8 dst_A3_, .int .u8 dst_A4_, .int .u8 dst_A5_, .int .u8 dst_A6_, .int .u8 dst_A7_, .int .u8 dst_A8_, .int .u8 dst_A9_, .int .u8 dst_A10_, .int .u8 dst_A11_, .int .u8 dst_A12_, .int .u8 dst_A13_, .int .u8 dst_A14_, .int .u8 dst_A15_], .int .i64 proto, .int .i64 n]) [] w (finish Tryd.prog callF Tryd.f87.results.toList R)) h)

set_option maxRecDepth 100000 in
def view_bits_L122 (R : Ending → World → Prop) (widthsA : Option Addr) (widthsn : Nat) (all : Int) (t12_ : Int) (w1 : World) (K122 : (Int × Int → World → Prop)) : Prop :=
  Br (decide (t12_ < (widthsn : Int)))
    (IdxVC widthsA widthsn 1 t12_ fun a =>
  ∃ x : Int, w1.cell? a = some (.int .i64 x) ∧
  Br (decide (x < 1))
    (R (.returned (.tuple #[.int .i64 0, .int .i64 11])) w1)
    (Br (decide ((32 : Int) < x))
    (R (.returned (.tuple #[.int .i64 0, .int .i64 11])) w1)
    (K122 (IntKind.i64.wrap (all + x), IntKind.i64.wrap (t12_ + 1)) w1)))
    (Br (decide (Int.tmod all 8 ≠ 0))
    (R (.returned (.tuple #[.int .i64 0, .int .i64 11])) w1)
    (R (.returned (.tuple #[.int .i64 (IntKind.i64.wrap (Int.tdiv all 8)), .int .i64 0])) w1))
set_option maxRecDepth 100000 in
def view_bits_VC (widthsA : Option Addr) (widthsn : Nat) (_widthsc : Nat) (w : World) (R : Ending → World → Prop) : Prop :=
  Br (decide ((64 : Int) < (widthsn : Int)))
    (R (.returned (.tuple #[.int .i64 0, .int .i64 11])) w)
    (LoopVC (S := Int × Int) (fun s w1 K122 => view_bits_L122 R widthsA widthsn s.1 s.2 w1 K122) (0, 0) w)
def view_bits_H : Hints := [(122, [(4, .int .i64), (12, .int .i64)])]
set_option maxRecDepth 100000 in
theorem view_bits_of (widthsA : Option Addr) (widthsn : Nat) (widthsc : Nat) (w : World) (R : Ending → World → Prop) (h : view_bits_VC widthsA widthsn widthsc w R) :
    Calls Tryd.prog 88 #[.slice widthsA widthsn widthsc] w R :=
  calls_of_wpc callOk mixedOk (H := view_bits_H) (args := [.slice widthsA widthsn widthsc]) (fn := Tryd.f88) (c := bodyOf Tryd.f88) Tryd.func88 rfl (Nat.le_of_ble_eq_true rfl)
    (Eq.mp (by kernel_rfl : view_bits_VC widthsA widthsn widthsc w R = wpc Tryd.prog callF Tryd.f88.ntmps view_bits_H 1 (bodyOf Tryd.f88) (argEnv 0 [.slice widthsA widthsn widthsc]) [] w (finish Tryd.prog callF Tryd.f88.results.toList R)) h)

set_option maxRecDepth 100000 in
def sum_Sum_L29898 (R : Ending → World → Prop) (t11_ : Int) (K58 : (Int × Bool × Int → World → Prop)) (xA : Option Addr) (xn : Nat) (n1 : Int) (high1 : Bool) (t17_ : Int) (w2 : World) (K29898 : (Int × Bool × Int → World → Prop)) : Prop :=
  Br (decide (t17_ < (xn : Int)))
    (IdxVC xA xn 1 t17_ fun a1 =>
  ∃ x : Int, w2.cell? a1 = some (.int .u8 x) ∧
  Br high1
    (K29898 (IntKind.i64.wrap (n1 + IntKind.i64.wrap (IntKind.i64.wrap x * 256)), !high1, IntKind.i64.wrap (t17_ + 1)) w2)
    (K29898 (IntKind.i64.wrap (n1 + IntKind.i64.wrap x), !high1, IntKind.i64.wrap (t17_ + 1)) w2))
    (Calls Tryd.prog 116 #[.int .i64 n1] w2 (onRet (fun r_ w3 => ∃ x1 : Int, r_ = .int .i64 x1 ∧
  K58 (x1, high1, IntKind.i64.wrap (t11_ + 1)) w3)
    (fun ch w3 => R (.panicked ch) w3)))
set_option maxRecDepth 100000 in
def sum_Sum_L58 (R : Ending → World → Prop) (partsA : Option Addr) (partsn : Nat) (n : Int) (high : Bool) (t11_ : Int) (w1 : World) (K58 : (Int × Bool × Int → World → Prop)) : Prop :=
  Br (decide (t11_ < (partsn : Int)))
    (IdxVC partsA partsn 1 t11_ fun a =>
  ∃ (xA : Option Addr) (xn xc : Nat), w1.cell? a = some (.slice xA xn xc) ∧
  LoopVC (S := Int × Bool × Int) (fun s w2 K29898 => sum_Sum_L29898 R t11_ K58 xA xn s.1 s.2.1 s.2.2 w2 K29898) (n, high, 0) w1)
    (R (.returned (.int .i64 n)) w1)
set_option maxRecDepth 100000 in
def sum_Sum_VC (partsA : Option Addr) (partsn : Nat) (_partsc : Nat) (w : World) (R : Ending → World → Prop) : Prop :=
  LoopVC (S := Int × Bool × Int) (fun s w1 K58 => sum_Sum_L58 R partsA partsn s.1 s.2.1 s.2.2 w1 K58) (0, true, 0) w
def sum_Sum_H : Hints := [(58, [(3, .int .i64), (4, .bool), (11, .int .i64)]), (29898, [(3, .int .i64), (4, .bool), (17, .int .i64)])]
set_option maxRecDepth 100000 in
theorem sum_Sum_of (partsA : Option Addr) (partsn : Nat) (partsc : Nat) (w : World) (R : Ending → World → Prop) (h : sum_Sum_VC partsA partsn partsc w R) :
    Calls Tryd.prog 89 #[.slice partsA partsn partsc] w R :=
  calls_of_wpc callOk mixedOk (H := sum_Sum_H) (args := [.slice partsA partsn partsc]) (fn := Tryd.f89) (c := bodyOf Tryd.f89) Tryd.func89 rfl (Nat.le_of_ble_eq_true rfl)
    (Eq.mp (by kernel_rfl : sum_Sum_VC partsA partsn partsc w R = wpc Tryd.prog callF Tryd.f89.ntmps sum_Sum_H 1 (bodyOf Tryd.f89) (argEnv 0 [.slice partsA partsn partsc]) [] w (finish Tryd.prog callF Tryd.f89.results.toList R)) h)

set_option maxRecDepth 100000 in
def weirref2_Sum_L7826 (partsA : Option Addr) (partsn : Nat) (i : Int) (K122 : (Int × Int × Int → World → Prop)) (at_1 : Int) (n1 : Int) (k : Int) (w2 : World) (K7826 : (Int × Int × Int → World → Prop)) : Prop :=
  IdxVC partsA partsn 1 i fun a =>
  ∃ (xA : Option Addr) (xn xc : Nat), w2.cell? a = some (.slice xA xn xc) ∧
  Br (decide (k < (xn : Int)))
    (IdxVC partsA partsn 1 i fun a1 =>
  ∃ (xA1 : Option Addr) (xn1 xc1 : Nat), w2.cell? a1 = some (.slice xA1 xn1 xc1) ∧
  IdxVC xA1 xn1 1 k fun a2 =>
  ∃ x : Int, w2.cell? a2 = some (.int .u8 x) ∧
  Br (decide (Int.tmod at_1 2 = 0))
    (K7826 (IntKind.i64.wrap (at_1 + 1), IntKind.i64.wrap (n1 + IntKind.i64.wrap (IntKind.i64.wrap x * 256)), IntKind.i64.wrap (k + 1)) w2)
    (K7826 (IntKind.i64.wrap (at_1 + 1), IntKind.i64.wrap (n1 + IntKind.i64.wrap x), IntKind.i64.wrap (k + 1)) w2))
    (K122 (at_1, n1, IntKind.i64.wrap (i + 1)) w2)
set_option maxRecDepth 100000 in
def weirref2_Sum_L122 (R : Ending → World → Prop) (partsA : Option Addr) (partsn : Nat) (at_ : Int) (n : Int) (i : Int) (w1 : World) (K122 : (Int × Int × Int → World → Prop)) : Prop :=
  Br (decide (i < (partsn : Int)))
    (LoopVC (S := Int × Int × Int) (fun s w2 K7826 => weirref2_Sum_L7826 partsA partsn i K122 s.1 s.2.1 s.2.2 w2 K7826) (at_, n, 0) w1)
    (Calls Tryd.prog 117 #[.int .i64 n] w1 (onRet (fun r_ w3 => ∃ x1 : Int, r_ = .int .i64 x1 ∧
  R (.returned (.int .i64 x1)) w3)
    (fun ch w3 => R (.panicked ch) w3)))
set_option maxRecDepth 100000 in
def weirref2_Sum_VC (partsA : Option Addr) (partsn : Nat) (_partsc : Nat) (w : World) (R : Ending → World → Prop) : Prop :=
  LoopVC (S := Int × Int × Int) (fun s w1 K122 => weirref2_Sum_L122 R partsA partsn s.1 s.2.1 s.2.2 w1 K122) (0, 0, 0) w
def weirref2_Sum_H : Hints := [(122, [(3, .int .i64), (4, .int .i64), (5, .int .i64)]), (7826, [(3, .int .i64), (4, .int .i64), (6, .int .i64)])]
set_option maxRecDepth 100000 in
theorem weirref2_Sum_of (partsA : Option Addr) (partsn : Nat) (partsc : Nat) (w : World) (R : Ending → World → Prop) (h : weirref2_Sum_VC partsA partsn partsc w R) :
    Calls Tryd.prog 90 #[.slice partsA partsn partsc] w R :=
  calls_of_wpc callOk mixedOk (H := weirref2_Sum_H) (args := [.slice partsA partsn partsc]) (fn := Tryd.f90) (c := bodyOf Tryd.f90) Tryd.func90 rfl (Nat.le_of_ble_eq_true rfl)
    (Eq.mp (by kernel_rfl : weirref2_Sum_VC partsA partsn partsc w R = wpc Tryd.prog callF Tryd.f90.ntmps weirref2_Sum_H 1 (bodyOf Tryd.f90) (argEnv 0 [.slice partsA partsn partsc]) [] w (finish Tryd.prog callF Tryd.f90.results.toList R)) h)

set_option maxRecDepth 100000 in
def weirref2_Pseudo_L2042 (R : Ending → World → Prop) (proto : Int) (n : Int) (g2 : Nat) (outA1 : Option Addr) (outn1 : Nat) (outc1 : Nat) (i1 : Int) (w12 : World) (K2042 : ((Option Addr × Nat × Nat) × Int → World → Prop)) : Prop :=
  Br (decide (i1 < 16))
    (IdxVC (some ⟨g2, 1, none⟩) 16 1 i1 fun a9 =>
  ∃ x29 : Int, w12.cell? a9 = some (.int .u8 x29) ∧
  NewVC w12 (.cells #[.int .u8 x29] 5) fun g6 w13 =>
  AppVC Tryd.prog #[22, 22] 22 (.slice outA1 outn1 outc1) (.slice (some ⟨g6, 0, none⟩) 1 1) w13 fun lA3 ln3 lc3 w14 =>
  K2042 ((lA3, ln3, lc3), IntKind.i64.wrap (i1 + 1)) w14)
    (NewVC w12 (.cells #[.int .u8 0, .int .u8 0, .int .u8 (IntKind.u8.wrap (IntKind.i64.wrap (Int.tdiv n 256))), .int .u8 (IntKind.u8.wrap (Int.tmod n 256)), .int .u8 0, .int .u8 0, .int .u8 0, .int .u8 (IntKind.u8.wrap proto)] 5) fun g7 w15 =>
  AppVC Tryd.prog #[22, 22] 22 (.slice outA1 outn1 outc1) (.slice (some ⟨g7, 0, none⟩) 8 8) w15 fun lA4 ln4 lc4 w16 =>
  R (.returned (.tuple #[.slice lA4 ln4 lc4, .int .i64 0])) w16)
set_option maxRecDepth 100000 in
def weirref2_Pseudo_L1018 (R : Ending → World → Prop) (proto : Int) (n : Int) (g1 : Nat) (g2 : Nat) (outA : Option Addr) (outn : Nat) (outc : Nat) (i : Int) (w9 : World) (K1018 : ((Option Addr × Nat × Nat) × Int → World → Prop)) : Prop :=
  Br (decide (i < 16))
    (IdxVC (some ⟨g1, 1, none⟩) 16 1 i fun a8 =>
  ∃ x28 : Int, w9.cell? a8 = some (.int .u8 x28) ∧
  NewVC w9 (.cells #[.int .u8 x28] 5) fun g5 w10 =>
  AppVC Tryd.prog #[22, 22] 22 (.slice outA outn outc) (.slice (some ⟨g5, 0, none⟩) 1 1) w10 fun lA2 ln2 lc2 w11 =>
  K1018 ((lA2, ln2, lc2), IntKind.i64.wrap (i + 1)) w11)
    (LoopVC (S := (Option Addr × Nat × Nat) × Int) (fun s w12 K2042 => weirref2_Pseudo_L2042 R proto n g2 s.1.1 s.1.2.1 s.1.2.2 s.2 w12 K2042) ((outA, outn, outc), 0) w9)
set_option maxRecDepth 100000 in
def weirref2_Pseudo_VC (src_V : Int) (src_A0_ : Int) (src_A1_ : Int) (src_A2_ : Int) (src_A3_ : Int) (src_A4_ : Int) (src_A5_ : Int) (src_A6_ : Int) (src_A7_ : Int) (src_A8_ : Int) (src_A9_ : Int) (src_A10_ : Int) (src_A11_ : Int) (src_A12_ : Int) (src_A13_ : Int) (src_A14_ : Int) (src_A15_ : Int) (dst_V : Int) (dst_A0_ : Int) (dst_A1_ : Int) (dst_A2_ : Int) (dst_A3_ : Int) (dst_A4_ : Int) (dst_A5_ : Int) (dst_A6_ : Int) (dst_A7_ : Int) (dst_A8_ : Int) (dst_A9_ : Int) (dst_A10_ : Int) (dst_A11_ : Int) (dst_A12_ : Int) (dst_A13_ : Int) (dst_A14_ : Int) (dst_A15_ : Int) (proto : Int) (n : Int) (w : World) (R : Ending → World → Prop) : Prop :=
  NewVC w (.cells #[.int .i64 src_V, .int .u8 src_A0_, .int .u8 src_A1_, .int .u8 src_A2_, .int .u8 src_A3_, .int .u8 src_A4_, .int .u8 src_A5_, .int .u8 src_A6_, .int .u8 src_A7_, .int .u8 src_A8_, .int .u8 src_A9_, .int .u8 src_A10_, .int .u8 src_A11_, .int .u8 src_A12_, .int .u8 src_A13_, .int .u8 src_A14_, .int .u8 src_A15_] 31) fun g1 w1 =>
  NewVC w1 (.cells #[.int .i64 dst_V, .int .u8 dst_A0_, .int .u8 dst_A1_, .int .u8 dst_A2_, .int .u8 dst_A3_, .int .u8 dst_A4_, .int .u8 dst_A5_, .int .u8 dst_A6_, .int .u8 dst_A7_, .int .u8 dst_A8_, .int .u8 dst_A9_, .int .u8 dst_A10_, .int .u8 dst_A11_, .int .u8 dst_A12_, .int .u8 dst_A13_, .int .u8 dst_A14_, .int .u8 dst_A15_] 31) fun g2 w2 =>
  ∃ x0 : Int, ∃ x1 : Int, ∃ x2 : Int, ∃ x3 : Int, ∃ x4 : Int, ∃ x5 : Int, ∃ x6 : Int, ∃ x7 : Int, ∃ x8 : Int, ∃ x9 : Int, ∃ x10 : Int, ∃ x11 : Int, ∃ x12 : Int, ∃ x13 : Int, ∃ x14 : Int, ∃ x15 : Int, ∃ x16 : Int, CellsAt w2 ⟨g1, 0, none⟩ 0 [.int .i64 x0, .int .u8 x1, .int .u8 x2, .int .u8 x3, .int .u8 x4, .int .u8 x5, .int .u8 x6, .int .u8 x7, .int .u8 x8, .int .u8 x9, .int .u8 x10, .int .u8 x11, .int .u8 x12, .int .u8 x13, .int .u8 x14, .int .u8 x15, .int .u8 x16] ∧
  Calls Tryd.prog 118 #[.agg #[.int .i64 x0, .int .u8 x1, .int .u8 x2, .int .u8 x3, .int .u8 x4, .int .u8 x5, .int .u8 x6, .int .u8 x7, .int .u8 x8, .int .u8 x9, .int .u8 x10, .int .u8 x11, .int .u8 x12, .int .u8 x13, .int .u8 x14, .int .u8 x15, .int .u8 x16]] w2 (onRet (fun r_ w3 => ∃ x : Int, r_ = .int .i64 x ∧
  Br (decide (x = 0))
    (R (.returned (.tuple #[.slice none 0 0, .int .i64 20])) w3)
    (∃ x01 : Int, ∃ x17 : Int, ∃ x21 : Int, ∃ x31 : Int, ∃ x41 : Int, ∃ x51 : Int, ∃ x61 : Int, ∃ x71 : Int, ∃ x81 : Int, ∃ x91 : Int, ∃ x101 : Int, ∃ x111 : Int, ∃ x121 : Int, ∃ x131 : Int, ∃ x141 : Int, ∃ x151 : Int, ∃ x161 : Int, CellsAt w3 ⟨g2, 0, none⟩ 0 [.int .i64 x01, .int .u8 x17, .int .u8 x21, .int .u8 x31, .int .u8 x41, .int .u8 x51, .int .u8 x61, .int .u8 x71, .int .u8 x81, .int .u8 x91, .int .u8 x101, .int .u8 x111, .int .u8 x121, .int .u8 x131, .int .u8 x141, .int .u8 x151, .int .u8 x161] ∧
    Calls Tryd.prog 118 #[.agg #[.int .i64 x01, .int .u8 x17, .int .u8 x21, .int .u8 x31, .int .u8 x41, .int .u8 x51, .int .u8 x61, .int .u8 x71, .int .u8 x81, .int .u8 x91, .int .u8 x101, .int .u8 x111, .int .u8 x121, .int .u8 x131, .int .u8 x141, .int .u8 x151, .int .u8 x161]] w3 (onRet (fun r_1 w4 => ∃ x18 : Int, r_1 = .int .i64 x18 ∧
    Br (decide (x18 ≠ x))
    (R (.returned (.tuple #[.slice none 0 0, .int .i64 20])) w4)
    (Br (decide (proto < 0))
    (R (.returned (.tuple #[.slice none 0 0, .int .i64 1])) w4)
    (Br (decide ((255 : Int) < proto))
      (R (.returned (.tuple #[.slice none 0 0, .int .i64 1])) w4)
      (Br (decide (n < 0))
        (R (.returned (.tuple #[.slice none 0 0, .int .i64 1])) w4)
        (Br (decide ((65535 : Int) < n))
    (R (.returned (.tuple #[.slice none 0 0, .int .i64 1])) w4)
    (Br (decide (x = 4))
    (IdxVC (some ⟨g1, 1, none⟩) 16 1 0 fun a =>
    ∃ x19 : Int, w4.cell? a = some (.int .u8 x19) ∧
    IdxVC (some ⟨g1, 1, none⟩) 16 1 1 fun a1 =>
    ∃ x20 : Int, w4.cell? a1 = some (.int .u8 x20) ∧
    IdxVC (some ⟨g1, 1, none⟩) 16 1 2 fun a2 =>
    ∃ x22 : Int, w4.cell? a2 = some (.int .u8 x22) ∧
    IdxVC (some ⟨g1, 1, none⟩) 16 1 3 fun a3 =>
    ∃ x23 : Int, w4.cell? a3 = some (.int .u8 x23) ∧
    IdxVC (some ⟨g2, 1, none⟩) 16 1 0 fun a4 =>
    ∃ x24 : Int, w4.cell? a4 = some (.int .u8 x24) ∧
    IdxVC (some ⟨g2, 1, none⟩) 16 1 1 fun a5 =>
    ∃ x25 : Int, w4.cell? a5 = some (.int .u8 x25) ∧
    IdxVC (some ⟨g2, 1, none⟩) 16 1 2 fun a6 =>
    ∃ x26 : Int, w4.cell? a6 = some (.int .u8 x26) ∧
    IdxVC (some ⟨g2, 1, none⟩) 16 1 3 fun a7 =>
    ∃ x27 : Int, w4.cell? a7 = some (.int .u8 x27) ∧
    NewVC w4 (.cells #[.int .u8 x19, .int .u8 x20, .int .u8 x22, .int .u8 x23, .int .u8 x24, .int .u8 x25, .int .u8 x26, .int .u8 x27] 5) fun g3 w5 =>
    AppVC Tryd.prog #[22, 22] 22 (.slice none 0 0) (.slice (some ⟨g3, 0, none⟩) 8 8) w5 fun lA ln lc w6 =>
    NewVC w6 (.cells #[.int .u8 0, .int .u8 (IntKind.u8.wrap proto), .int .u8 (IntKind.u8.wrap (IntKind.i64.wrap (Int.tdiv n 256))), .int .u8 (IntKind.u8.wrap (Int.tmod n 256))] 5) fun g4 w7 =>
    AppVC Tryd.prog #[22, 22] 22 (.slice lA ln lc) (.slice (some ⟨g4, 0, none⟩) 4 4) w7 fun lA1 ln1 lc1 w8 =>
    R (.returned (.tuple #[.slice lA1 ln1 lc1, .int .i64 0])) w8)
    (LoopVC (S := (Option Addr × Nat × Nat) × Int) (fun s w9 K1018 => weirref2_Pseudo_L1018 R proto n g1 g2 s.1.1 s.1.2.1 s.1.2.2 s.2 w9 K1018) ((none, 0, 0), 0) w4)))))))
      (fun ch1 w4 => R (.panicked ch1) w4))))
    (fun ch w3 => R (.panicked ch) w3))
def weirref2_Pseudo_H : Hints := [(1018, [(11, .slice), (12, .int .i64)]), (2042, [(11, .slice), (13, .int .i64)])]
set_option maxRecDepth 100000 in
theorem weirref2_Pseudo_of (src_V : Int) (src_A0_ : Int) (src_A1_ : Int) (src_A2_ : Int) (src_A3_ : Int) (src_A4_ : Int) (src_A5_ : Int) (src_A6_ : Int) (src_A7_ : Int) (src_A8_ : Int) (src_A9_ : Int) (src_A10_ : Int) (src_A11_ : Int) (src_A12_ : Int) (src_A13_ : Int) (src_A14_ : Int) (src_A15_ : Int) (dst_V : Int) (dst_A0_ : Int) (dst_A1_ : Int) (dst_A2_ : Int) (dst_A3_ : Int) (dst_A4_ : Int) (dst_A5_ : Int) (dst_A6_ : Int) (dst_A7_ : Int) (dst_A8_ : Int) (dst_A9_ : Int) (dst_A10_ : Int) (dst_A11_ : Int) (dst_A12_ : Int) (dst_A13_ : Int) (dst_A14_ : Int) (dst_A15_ : Int) (proto : Int) (n : Int) (w : World) (R : Ending → World → Prop) (h : weirref2_Pseudo_VC src_V src_A0_ src_A1_ src_A2_ src_A3_ src_A4_ src_A5_ src_A6_ src_A7_ src_A8_ src_A9_ src_A10_ src_A11_ src_A12_ src_A13_ src_A14_ src_A15_ dst_V dst_A0_ dst_A1_ dst_A2_ dst_A3_ dst_A4_ dst_A5_ dst_A6_ dst_A7_ dst_A8_ dst_A9_ dst_A10_ dst_A11_ dst_A12_ dst_A13_ dst_A14_ dst_A15_ proto n w R) :
    Calls Tryd.prog 91 #[.agg #[.int .i64 src_V, .int .u8 src_A0_, .int .u8 src_A1_, .int .u8 src_A2_, .int .u8 src_A3_, .int .u8 src_A4_, .int .u8 src_A5_, .int .u8 src_A6_, .int .u8 src_A7_, .int .u8 src_A8_, .int .u8 src_A9_, .int .u8 src_A10_, .int .u8 src_A11_, .int .u8 src_A12_, .int .u8 src_A13_, .int .u8 src_A14_, .int .u8 src_A15_], .agg #[.int .i64 dst_V, .int .u8 dst_A0_, .int .u8 dst_A1_, .int .u8 dst_A2_, .int .u8 dst_A3_, .int .u8 dst_A4_, .int .u8 dst_A5_, .int .u8 dst_A6_, .int .u8 dst_A7_, .int .u8 dst_A8_, .int .u8 dst_A9_, .int .u8 dst_A10_, .int .u8 dst_A11_, .int .u8 dst_A12_, .int .u8 dst_A13_, .int .u8 dst_A14_, .int .u8 dst_A15_], .int .i64 proto, .int .i64 n] w R :=
  calls_of_wpc callOk mixedOk (H := weirref2_Pseudo_H) (args := [.agg #[.int .i64 src_V, .int .u8 src_A0_, .int .u8 src_A1_, .int .u8 src_A2_, .int .u8 src_A3_, .int .u8 src_A4_, .int .u8 src_A5_, .int .u8 src_A6_, .int .u8 src_A7_, .int .u8 src_A8_, .int .u8 src_A9_, .int .u8 src_A10_, .int .u8 src_A11_, .int .u8 src_A12_, .int .u8 src_A13_, .int .u8 src_A14_, .int .u8 src_A15_], .agg #[.int .i64 dst_V, .int .u8 dst_A0_, .int .u8 dst_A1_, .int .u8 dst_A2_, .int .u8 dst_A3_, .int .u8 dst_A4_, .int .u8 dst_A5_, .int .u8 dst_A6_, .int .u8 dst_A7_, .int .u8 dst_A8_, .int .u8 dst_A9_, .int .u8 dst_A10_, .int .u8 dst_A11_, .int .u8 dst_A12_, .int .u8 dst_A13_, .int .u8 dst_A14_, .int .u8 dst_A15_], .int .i64 proto, .int .i64 n]) (fn := Tryd.f91) (c := bodyOf Tryd.f91) Tryd.func91 rfl (Nat.le_of_ble_eq_true rfl)
    (Eq.mp (by kernel_rfl : weirref2_Pseudo_VC src_V src_A0_ src_A1_ src_A2_ src_A3_ src_A4_ src_A5_ src_A6_ src_A7_ src_A8_ src_A9_ src_A10_ src_A11_ src_A12_ src_A13_ src_A14_ src_A15_ dst_V dst_A0_ dst_A1_ dst_A2_ dst_A3_ dst_A4_ dst_A5_ dst_A6_ dst_A7_ dst_A8_ dst_A9_ dst_A10_ dst_A11_ dst_A12_ dst_A13_ dst_A14_ dst_A15_ proto n w R = wpc Tryd.prog callF Tryd.f91.ntmps weirref2_Pseudo_H 1 (bodyOf Tryd.f91) (argEnv 0 [.agg #[.int .i64 src_V, .int .u8 src_A0_, .int .u8 src_A1_, .int .u8 src_A2_, .int .u8 src_A3_, .int .u8 src_A4_, .int .u8 src_A5_, .int .u8 src_A6_, .int .u8 src_A7_, .int .u8 src_A8_, .int .u8 src_A9_, .int .u8 src_A10_, .int .u8 src_A11_, .int .u8 src_A12_, .int .u8 src_A13_, .int .u8 src_A14_, .int .u8 src_A15_], .agg #[.int .i64 dst_V, .int .u8 dst_A0_, .int .u8 dst_A1_, .int .u8 dst_A2_, .int .u8 dst_A3_, .int .u8 dst_A4_, .int .u8 dst_A5_, .int .u8 dst_A6_, .int .u8 dst_A7_, .int .u8 dst_A8_, .int .u8 dst_A9_, .int .u8 dst_A10_, .int .u8 dst_A11_, .int .u8 dst_A12_, .int .u8 dst_A13_, .int .u8 dst_A14_, .int .u8 dst_A15_], .int .i64 proto, .int .i64 n]) [] w (finish Tryd.prog callF Tryd.f91.results.toList R)) h)

set_option maxRecDepth 100000 in
def view_part_VC (bA : Option Addr) (bn : Nat) (bc : Nat) (at_ : Int) (n : Int) (w : World) (R : Ending → World → Prop) : Prop :=
  Br (decide (at_ < 0))
    (R (.panicked [{ v := .iface 166 (.agg #[]), recovered := false }]) w)
    (Br (decide ((bn : Int) < at_))
      (R (.panicked [{ v := .iface 166 (.agg #[]), recovered := false }]) w)
      (Br (decide (IntKind.i64.wrap ((bn : Int) - at_) < n))
    (R (.panicked [{ v := .iface 166 (.agg #[]), recovered := false }]) w)
    (SliceVC bA bn bc 1 (some at_) (some (IntKind.i64.wrap (at_ + n))) (some (IntKind.i64.wrap (at_ + n))) fun sA sn sc =>
  R (.returned (.slice sA sn sc)) w)))
def view_part_H : Hints := []
set_option maxRecDepth 100000 in
theorem view_part_of (bA : Option Addr) (bn : Nat) (bc : Nat) (at_ : Int) (n : Int) (w : World) (R : Ending → World → Prop) (h : view_part_VC bA bn bc at_ n w R) :
    Calls Tryd.prog 93 #[.slice bA bn bc, .int .i64 at_, .int .i64 n] w R :=
  calls_of_wpc callOk mixedOk (H := view_part_H) (args := [.slice bA bn bc, .int .i64 at_, .int .i64 n]) (fn := Tryd.f93) (c := bodyOf Tryd.f93) Tryd.func93 rfl (Nat.le_of_ble_eq_true rfl)
    (Eq.mp (by kernel_rfl : view_part_VC bA bn bc at_ n w R = wpc Tryd.prog callF Tryd.f93.ntmps view_part_H 1 (bodyOf Tryd.f93) (argEnv 0 [.slice bA bn bc, .int .i64 at_, .int .i64 n]) [] w (finish Tryd.prog callF Tryd.f93.results.toList R)) h)

set_option maxRecDepth 100000 in
def view_look_VC (bA : Option Addr) (bn : Nat) (_bc : Nat) (i : Int) (w : World) (R : Ending → World → Prop) : Prop :=
  Br (decide (i < 0))
    (R (.panicked [{ v := .iface 166 (.agg #[]), recovered := false }]) w)
    (Br (decide ((bn : Int) ≤ i))
    (R (.panicked [{ v := .iface 166 (.agg #[]), recovered := false }]) w)
    (IdxVC bA bn 1 i fun a =>
  ∃ x : Int, w.cell? a = some (.int .u8 x) ∧
  R (.returned (.int .u8 x)) w))
def view_look_H : Hints := []
set_option maxRecDepth 100000 in
theorem view_look_of (bA : Option Addr) (bn : Nat) (bc : Nat) (i : Int) (w : World) (R : Ending → World → Prop) (h : view_look_VC bA bn bc i w R) :
    Calls Tryd.prog 94 #[.slice bA bn bc, .int .i64 i] w R :=
  calls_of_wpc callOk mixedOk (H := view_look_H) (args := [.slice bA bn bc, .int .i64 i]) (fn := Tryd.f94) (c := bodyOf Tryd.f94) Tryd.func94 rfl (Nat.le_of_ble_eq_true rfl)
    (Eq.mp (by kernel_rfl : view_look_VC bA bn bc i w R = wpc Tryd.prog callF Tryd.f94.ntmps view_look_H 1 (bodyOf Tryd.f94) (argEnv 0 [.slice bA bn bc, .int .i64 i]) [] w (finish Tryd.prog callF Tryd.f94.results.toList R)) h)

set_option maxRecDepth 100000 in
def sum_version_VC (ip_V : Int) (ip_A0_ : Int) (ip_A1_ : Int) (ip_A2_ : Int) (ip_A3_ : Int) (ip_A4_ : Int) (ip_A5_ : Int) (ip_A6_ : Int) (ip_A7_ : Int) (ip_A8_ : Int) (ip_A9_ : Int) (ip_A10_ : Int) (ip_A11_ : Int) (ip_A12_ : Int) (ip_A13_ : Int) (ip_A14_ : Int) (ip_A15_ : Int) (w : World) (R : Ending → World → Prop) : Prop :=
  NewVC w (.cells #[.int .i64 ip_V, .int .u8 ip_A0_, .int .u8 ip_A1_, .int .u8 ip_A2_, .int .u8 ip_A3_, .int .u8 ip_A4_, .int .u8 ip_A5_, .int .u8 ip_A6_, .int .u8 ip_A7_, .int .u8 ip_A8_, .int .u8 ip_A9_, .int .u8 ip_A10_, .int .u8 ip_A11_, .int .u8 ip_A12_, .int .u8 ip_A13_, .int .u8 ip_A14_, .int .u8 ip_A15_] 31) fun g1 w1 =>
  ∃ x : Int, w1.cell? ⟨g1, 0, none⟩ = some (.int .i64 x) ∧
  Br (decide (x = 6))
    (R (.returned (.int .i64 6)) w1)
    (∃ x1 : Int, w1.cell? ⟨g1, 0, none⟩ = some (.int .i64 x1) ∧
    Br (decide (x1 ≠ 4))
      (R (.returned (.int .i64 0)) w1)
      (IdxVC (some ⟨g1, 1, none⟩) 16 1 0 fun a =>
  ∃ x2 : Int, w1.cell? a = some (.int .u8 x2) ∧
  IdxVC (some ⟨g1, 1, none⟩) 16 1 1 fun a1 =>
  ∃ x3 : Int, w1.cell? a1 = some (.int .u8 x3) ∧
  IdxVC (some ⟨g1, 1, none⟩) 16 1 2 fun a2 =>
  ∃ x4 : Int, w1.cell? a2 = some (.int .u8 x4) ∧
  IdxVC (some ⟨g1, 1, none⟩) 16 1 3 fun a3 =>
  ∃ x5 : Int, w1.cell? a3 = some (.int .u8 x5) ∧
  NewVC w1 (.cells #[.int .u8 0, .int .u8 0, .int .u8 0, .int .u8 0, .int .u8 0, .int .u8 0, .int .u8 0, .int .u8 0, .int .u8 0, .int .u8 0, .int .u8 0, .int .u8 0, .int .u8 0, .int .u8 0, .int .u8 0, .int .u8 0] 29) fun g2 w2 =>
  SetVC w2 ⟨g2, 0, none⟩ (.int .u8 x2) fun w3 =>
  SetVC w3 ⟨g2, 1, none⟩ (.int .u8 x3) fun w4 =>
  SetVC w4 ⟨g2, 2, none⟩ (.int .u8 x4) fun w5 =>
  SetVC w5 ⟨g2, 3, none⟩ (.int .u8 x5) fun w6 =>
  SetVC w6 ⟨g2, 4, none⟩ (.int .u8 0) fun w7 =>
  SetVC w7 ⟨g2, 5, none⟩ (.int .u8 0) fun w8 =>
  SetVC w8 ⟨g2, 6, none⟩ (.int .u8 0) fun w9 =>
  SetVC w9 ⟨g2, 7, none⟩ (.int .u8 0) fun w10 =>
  SetVC w10 ⟨g2, 8, none⟩ (.int .u8 0) fun w11 =>
  SetVC w11 ⟨g2, 9, none⟩ (.int .u8 0) fun w12 =>
  SetVC w12 ⟨g2, 10, none⟩ (.int .u8 0) fun w13 =>
  SetVC w13 ⟨g2, 11, none⟩ (.int .u8 0) fun w14 =>
  SetVC w14 ⟨g2, 12, none⟩ (.int .u8 0) fun w15 =>
  SetVC w15 ⟨g2, 13, none⟩ (.int .u8 0) fun w16 =>
  SetVC w16 ⟨g2, 14, none⟩ (.int .u8 0) fun w17 =>
  SetVC w17 ⟨g2, 15, none⟩ (.int .u8 0) fun w18 =>
  ∃ x0 : Int, ∃ x11 : Int, ∃ x21 : Int, ∃ x31 : Int, ∃ x41 : Int, ∃ x51 : Int, ∃ x6 : Int, ∃ x7 : Int, ∃ x8 : Int, ∃ x9 : Int, ∃ x10 : Int, ∃ x111 : Int, ∃ x12 : Int, ∃ x13 : Int, ∃ x14 : Int, ∃ x15 : Int, CellsAt w18 ⟨g1, 1, none⟩ 0 [.int .u8 x0, .int .u8 x11, .int .u8 x21, .int .u8 x31, .int .u8 x41, .int .u8 x51, .int .u8 x6, .int .u8 x7, .int .u8 x8, .int .u8 x9, .int .u8 x10, .int .u8 x111, .int .u8 x12, .int .u8 x13, .int .u8 x14, .int .u8 x15] ∧
  ∃ x01 : Int, ∃ x16 : Int, ∃ x22 : Int, ∃ x32 : Int, ∃ x42 : Int, ∃ x52 : Int, ∃ x61 : Int, ∃ x71 : Int, ∃ x81 : Int, ∃ x91 : Int, ∃ x101 : Int, ∃ x112 : Int, ∃ x121 : Int, ∃ x131 : Int, ∃ x141 : Int, ∃ x151 : Int, CellsAt w18 ⟨g2, 0, none⟩ 0 [.int .u8 x01, .int .u8 x16, .int .u8 x22, .int .u8 x32, .int .u8 x42, .int .u8 x52, .int .u8 x61, .int .u8 x71, .int .u8 x81, .int .u8 x91, .int .u8 x101, .int .u8 x112, .int .u8 x121, .int .u8 x131, .int .u8 x141, .int .u8 x151] ∧
  Br (!(((decide (x0 = x01)) && ((decide (x11 = x16)) && ((decide (x21 = x22)) && ((decide (x31 = x32)) && ((decide (x41 = x42)) && ((decide (x51 = x52)) && ((decide (x6 = x61)) && ((decide (x7 = x71)) && ((decide (x8 = x81)) && ((decide (x9 = x91)) && ((decide (x10 = x101)) && ((decide (x111 = x112)) && ((decide (x12 = x121)) && ((decide (x13 = x131)) && ((decide (x14 = x141)) && ((decide (x15 = x151)) && true))))))))))))))))))
    (R (.returned (.int .i64 0)) w18)
    (R (.returned (.int .i64 4)) w18)))
def sum_version_H : Hints := []
set_option maxRecDepth 100000 in
theorem sum_version_of (ip_V : Int) (ip_A0_ : Int) (ip_A1_ : Int) (ip_A2_ : Int) (ip_A3_ : Int) (ip_A4_ : Int) (ip_A5_ : Int) (ip_A6_ : Int) (ip_A7_ : Int) (ip_A8_ : Int) (ip_A9_ : Int) (ip_A10_ : Int) (ip_A11_ : Int) (ip_A12_ : Int) (ip_A13_ : Int) (ip_A14_ : Int) (ip_A15_ : Int) (w : World) (R : Ending → World → Prop) (h : sum_version_VC ip_V ip_A0_ ip_A1_ ip_A2_ ip_A3_ ip_A4_ ip_A5_ ip_A6_ ip_A7_ ip_A8_ ip_A9_ ip_A10_ ip_A11_ ip_A12_ ip_A13_ ip_A14_ ip_A15_ w R) :
    Calls Tryd.prog 115 #[.agg #[.int .i64 ip_V, .int .u8 ip_A0_, .int .u8 ip_A1_, .int .u8 ip_A2_, .int .u8 ip_A3_, .int .u8 ip_A4_, .int .u8 ip_A5_, .int .u8 ip_A6_, .int .u8 ip_A7_, .int .u8 ip_A8_, .int .u8 ip_A9_, .int .u8 ip_A10_, .int .u8 ip_A11_, .int .u8 ip_A12_, .int .u8 ip_A13_, .int .u8 ip_A14_, .int .u8 ip_A15_]] w R :=
  calls_of_wpc callOk mixedOk (H := sum_version_H) (args := [.agg #[.int .i64 ip_V, .int .u8 ip_A0_, .int .u8 ip_A1_, .int .u8 ip_A2_, .int .u8 ip_A3_, .int .u8 ip_A4_, .int .u8 ip_A5_, .int .u8 ip_A6_, .int .u8 ip_A7_, .int .u8 ip_A8_, .int .u8 ip_A9_, .int .u8 ip_A10_, .int .u8 ip_A11_, .int .u8 ip_A12_, .int .u8 ip_A13_, .int .u8 ip_A14_, .int .u8 ip_A15_]]) (fn := Tryd.f115) (c := bodyOf Tryd.f115) Tryd.func115 rfl (Nat.le_of_ble_eq_true rfl)
    (Eq.mp (by kernel_rfl : sum_version_VC ip_V ip_A0_ ip_A1_ ip_A2_ ip_A3_ ip_A4_ ip_A5_ ip_A6_ ip_A7_ ip_A8_ ip_A9_ ip_A10_ ip_A11_ ip_A12_ ip_A13_ ip_A14_ ip_A15_ w R = wpc Tryd.prog callF Tryd.f115.ntmps sum_version_H 1 (bodyOf Tryd.f115) (argEnv 0 [.agg #[.int .i64 ip_V, .int .u8 ip_A0_, .int .u8 ip_A1_, .int .u8 ip_A2_, .int .u8 ip_A3_, .int .u8 ip_A4_, .int .u8 ip_A5_, .int .u8 ip_A6_, .int .u8 ip_A7_, .int .u8 ip_A8_, .int .u8 ip_A9_, .int .u8 ip_A10_, .int .u8 ip_A11_, .int .u8 ip_A12_, .int .u8 ip_A13_, .int .u8 ip_A14_, .int .u8 ip_A15_]]) [] w (finish Tryd.prog callF Tryd.f115.results.toList R)) h)

set_option maxRecDepth 100000 in
def sum_fold_L12 (R : Ending → World → Prop)  (n1 : Int) (w1 : World) (K12 : (Int → World → Prop)) : Prop :=
  Br (decide ((65535 : Int) < n1))
    (K12 (IntKind.i64.wrap (bitv .and .i64 n1 65535 + Int.fdiv n1 65536)) w1)
    (R (.returned (.int .i64 n1)) w1)
set_option maxRecDepth 100000 in
def sum_fold_VC (n : Int) (w : World) (R : Ending → World → Prop) : Prop :=
  LoopVC (S := Int) (fun s w1 K12 => sum_fold_L12 R s w1 K12) n w
def sum_fold_H : Hints := [(12, [(0, .int .i64)])]
set_option maxRecDepth 100000 in
theorem sum_fold_of (n : Int) (w : World) (R : Ending → World → Prop) (h : sum_fold_VC n w R) :
    Calls Tryd.prog 116 #[.int .i64 n] w R :=
  calls_of_wpc callOk mixedOk (H := sum_fold_H) (args := [.int .i64 n]) (fn := Tryd.f116) (c := bodyOf Tryd.f116) Tryd.func116 rfl (Nat.le_of_ble_eq_true rfl)
    (Eq.mp (by kernel_rfl : sum_fold_VC n w R = wpc Tryd.prog callF Tryd.f116.ntmps sum_fold_H 1 (bodyOf Tryd.f116) (argEnv 0 [.int .i64 n]) [] w (finish Tryd.prog callF Tryd.f116.results.toList R)) h)

set_option maxRecDepth 100000 in
def weirref2_folded_VC (n : Int) (w : World) (R : Ending → World → Prop) : Prop :=
  Br (decide (n = 0))
    (R (.returned (.int .i64 0)) w)
    (R (.returned (.int .i64 (IntKind.i64.wrap (Int.tmod (IntKind.i64.wrap (n - 1)) 65535 + 1)))) w)
def weirref2_folded_H : Hints := []
set_option maxRecDepth 100000 in
theorem weirref2_folded_of (n : Int) (w : World) (R : Ending → World → Prop) (h : weirref2_folded_VC n w R) :
    Calls Tryd.prog 117 #[.int .i64 n] w R :=
  calls_of_wpc callOk mixedOk (H := weirref2_folded_H) (args := [.int .i64 n]) (fn := Tryd.f117) (c := bodyOf Tryd.f117) Tryd.func117 rfl (Nat.le_of_ble_eq_true rfl)
    (Eq.mp (by kernel_rfl : weirref2_folded_VC n w R = wpc Tryd.prog callF Tryd.f117.ntmps weirref2_folded_H 1 (bodyOf Tryd.f117) (argEnv 0 [.int .i64 n]) [] w (finish Tryd.prog callF Tryd.f117.results.toList R)) h)

set_option maxRecDepth 100000 in
def weirref2_version_L58 (R : Ending → World → Prop) (g1 : Nat) (i : Int) (w2 : World) (K58 : (Int → World → Prop)) : Prop :=
  Br (decide (i < 16))
    (IdxVC (some ⟨g1, 1, none⟩) 16 1 i fun a =>
  ∃ x1 : Int, w2.cell? a = some (.int .u8 x1) ∧
  Br (decide (x1 ≠ 0))
    (R (.returned (.int .i64 0)) w2)
    (K58 (IntKind.i64.wrap (i + 1)) w2))
    (∃ x2 : Int, w2.cell? ⟨g1, 0, none⟩ = some (.int .i64 x2) ∧
  Br (decide (x2 = 4))
    (R (.returned (.int .i64 4)) w2)
    (R (.returned (.int .i64 0)) w2))
set_option maxRecDepth 100000 in
def weirref2_version_VC (ip_V : Int) (ip_A0_ : Int) (ip_A1_ : Int) (ip_A2_ : Int) (ip_A3_ : Int) (ip_A4_ : Int) (ip_A5_ : Int) (ip_A6_ : Int) (ip_A7_ : Int) (ip_A8_ : Int) (ip_A9_ : Int) (ip_A10_ : Int) (ip_A11_ : Int) (ip_A12_ : Int) (ip_A13_ : Int) (ip_A14_ : Int) (ip_A15_ : Int) (w : World) (R : Ending → World → Prop) : Prop :=
  NewVC w (.cells #[.int .i64 ip_V, .int .u8 ip_A0_, .int .u8 ip_A1_, .int .u8 ip_A2_, .int .u8 ip_A3_, .int .u8 ip_A4_, .int .u8 ip_A5_, .int .u8 ip_A6_, .int .u8 ip_A7_, .int .u8 ip_A8_, .int .u8 ip_A9_, .int .u8 ip_A10_, .int .u8 ip_A11_, .int .u8 ip_A12_, .int .u8 ip_A13_, .int .u8 ip_A14_, .int .u8 ip_A15_] 31) fun g1 w1 =>
  ∃ x : Int, w1.cell? ⟨g1, 0, none⟩ = some (.int .i64 x) ∧
  Br (decide (x = 6))
    (R (.returned (.int .i64 6)) w1)
    (LoopVC (S := Int) (fun s w2 K58 => weirref2_version_L58 R g1 s w2 K58) 4 w1)
def weirref2_version_H : Hints := [(58, [(3, .int .i64)])]
set_option maxRecDepth 100000 in
theorem weirref2_version_of (ip_V : Int) (ip_A0_ : Int) (ip_A1_ : Int) (ip_A2_ : Int) (ip_A3_ : Int) (ip_A4_ : Int) (ip_A5_ : Int) (ip_A6_ : Int) (ip_A7_ : Int) (ip_A8_ : Int) (ip_A9_ : Int) (ip_A10_ : Int) (ip_A11_ : Int) (ip_A12_ : Int) (ip_A13_ : Int) (ip_A14_ : Int) (ip_A15_ : Int) (w : World) (R : Ending → World → Prop) (h : weirref2_version_VC ip_V ip_A0_ ip_A1_ ip_A2_ ip_A3_ ip_A4_ ip_A5_ ip_A6_ ip_A7_ ip_A8_ ip_A9_ ip_A10_ ip_A11_ ip_A12_ ip_A13_ ip_A14_ ip_A15_ w R) :
    Calls Tryd.prog 118 #[.agg #[.int .i64 ip_V, .int .u8 ip_A0_, .int .u8 ip_A1_, .int .u8 ip_A2_, .int .u8 ip_A3_, .int .u8 ip_A4_, .int .u8 ip_A5_, .int .u8 ip_A6_, .int .u8 ip_A7_, .int .u8 ip_A8_, .int .u8 ip_A9_, .int .u8 ip_A10_, .int .u8 ip_A11_, .int .u8 ip_A12_, .int .u8 ip_A13_, .int .u8 ip_A14_, .int .u8 ip_A15_]] w R :=
  calls_of_wpc callOk mixedOk (H := weirref2_version_H) (args := [.agg #[.int .i64 ip_V, .int .u8 ip_A0_, .int .u8 ip_A1_, .int .u8 ip_A2_, .int .u8 ip_A3_, .int .u8 ip_A4_, .int .u8 ip_A5_, .int .u8 ip_A6_, .int .u8 ip_A7_, .int .u8 ip_A8_, .int .u8 ip_A9_, .int .u8 ip_A10_, .int .u8 ip_A11_, .int .u8 ip_A12_, .int .u8 ip_A13_, .int .u8 ip_A14_, .int .u8 ip_A15_]]) (fn := Tryd.f118) (c := bodyOf Tryd.f118) Tryd.func118 rfl (Nat.le_of_ble_eq_true rfl)
    (Eq.mp (by kernel_rfl : weirref2_version_VC ip_V ip_A0_ ip_A1_ ip_A2_ ip_A3_ ip_A4_ ip_A5_ ip_A6_ ip_A7_ ip_A8_ ip_A9_ ip_A10_ ip_A11_ ip_A12_ ip_A13_ ip_A14_ ip_A15_ w R = wpc Tryd.prog callF Tryd.f118.ntmps weirref2_version_H 1 (bodyOf Tryd.f118) (argEnv 0 [.agg #[.int .i64 ip_V, .int .u8 ip_A0_, .int .u8 ip_A1_, .int .u8 ip_A2_, .int .u8 ip_A3_, .int .u8 ip_A4_, .int .u8 ip_A5_, .int .u8 ip_A6_, .int .u8 ip_A7_, .int .u8 ip_A8_, .int .u8 ip_A9_, .int .u8 ip_A10_, .int .u8 ip_A11_, .int .u8 ip_A12_, .int .u8 ip_A13_, .int .u8 ip_A14_, .int .u8 ip_A15_]]) [] w (finish Tryd.prog callF Tryd.f118.results.toList R)) h)
end Go.Proofs.YtjngdcilnipjcaaDoor
