/- WRITTEN BY a program of this session (vc.py): for each Go function the condition that is enough for its contract, and the theorem that it is. -/
import Derived.Test.YteppichfkeknbaaGreatDoorProg
import Derived.Test.YteppichfkeknbaaGreatDoorBq
import Derived.Test.YteppichfkeknbaaGreatDoorBl
import Derived.Test.YteppichfkeknbaaGreatDoorBe
import Derived.Test.YteppichfkeknbaaGreatDoorBm
namespace Go.Proofs.YteppichfkeknbaaGreatDoor
open Go.Eng
namespace N6

set_option maxRecDepth 100000 in
def weirref6_Alike_VC (aA : Option Addr) (an : Nat) (ac : Nat) (bA : Option Addr) (bn : Nat) (bc : Nat) (w : World) (R : Ending → World → Prop) : Prop :=
  StrVC Tryz.prog (.slice aA an ac) w fun str =>
  StrVC Tryz.prog (.slice bA bn bc) w fun str1 =>
  R (.returned (.bool (str.toList == str1.toList))) w
def weirref6_Alike_H : Hints := []
set_option maxRecDepth 100000 in
theorem weirref6_Alike_of (aA : Option Addr) (an : Nat) (ac : Nat) (bA : Option Addr) (bn : Nat) (bc : Nat) (w : World) (R : Ending → World → Prop) (hvc_ : weirref6_Alike_VC aA an ac bA bn bc w R) :
    Calls Tryz.prog 80 #[.slice aA an ac, .slice bA bn bc] w R :=
  calls_of_wpc callOk mixedOk (H := weirref6_Alike_H) (args := [.slice aA an ac, .slice bA bn bc]) (fn := Tryz.f80) (c := bodyOf Tryz.f80) Tryz.func80 rfl (Nat.le_of_ble_eq_true rfl)
    (Eq.mp (by kernel_rfl : weirref6_Alike_VC aA an ac bA bn bc w R = wpc Tryz.prog callF Tryz.f80.ntmps weirref6_Alike_H 1 (bodyOf Tryz.f80) (argEnv 0 [.slice aA an ac, .slice bA bn bc]) [] w (finish Tryz.prog callF Tryz.f80.results.toList R)) hvc_)

set_option maxRecDepth 100000 in
def weirref7_Alike_VC (aA : Option Addr) (an : Nat) (ac : Nat) (bA : Option Addr) (bn : Nat) (bc : Nat) (w : World) (R : Ending → World → Prop) : Prop :=
  StrVC Tryz.prog (.slice aA an ac) w fun str =>
  StrVC Tryz.prog (.slice bA bn bc) w fun str1 =>
  R (.returned (.bool (str.toList == str1.toList))) w
def weirref7_Alike_H : Hints := []
set_option maxRecDepth 100000 in
theorem weirref7_Alike_of (aA : Option Addr) (an : Nat) (ac : Nat) (bA : Option Addr) (bn : Nat) (bc : Nat) (w : World) (R : Ending → World → Prop) (hvc_ : weirref7_Alike_VC aA an ac bA bn bc w R) :
    Calls Tryz.prog 54 #[.slice aA an ac, .slice bA bn bc] w R :=
  calls_of_wpc callOk mixedOk (H := weirref7_Alike_H) (args := [.slice aA an ac, .slice bA bn bc]) (fn := Tryz.f54) (c := bodyOf Tryz.f54) Tryz.func54 rfl (Nat.le_of_ble_eq_true rfl)
    (Eq.mp (by kernel_rfl : weirref7_Alike_VC aA an ac bA bn bc w R = wpc Tryz.prog callF Tryz.f54.ntmps weirref7_Alike_H 1 (bodyOf Tryz.f54) (argEnv 0 [.slice aA an ac, .slice bA bn bc]) [] w (finish Tryz.prog callF Tryz.f54.results.toList R)) hvc_)

set_option maxRecDepth 100000 in
def weirref6_SameOpts_L58 (R : Ending → World → Prop) (aA : Option Addr) (an : Nat) (bA : Option Addr) (bn : Nat) (i : Int) (w1 : World) (K58 : (Int → World → Prop)) : Prop :=
  Br (decide (i < (an : Int)))
    (DrawVC w1 fun S1 w2 =>
  IdxVC aA an 2 i fun a =>
  ∃ (xA : Option Addr) (xn xc : Nat), (∀ w' : World, S1 w' → w'.cell? (a.add 1) = some (.slice xA xn xc)) ∧
  IdxVC bA bn 2 i fun a1 =>
  ∃ (xA1 : Option Addr) (xn1 xc1 : Nat), (∀ w' : World, S1 w' → w'.cell? (a1.add 1) = some (.slice xA1 xn1 xc1)) ∧
  Calls Tryz.prog 80 #[.slice xA xn xc, .slice xA1 xn1 xc1] w2 (onRet (fun r_ w3 => ∃ x : Bool, r_ = .bool x ∧
  S1 w3 ∧
  DrawVC w3 fun S2 w4 =>
  IdxVC aA an 2 i fun a2 =>
  ∃ x1 : Int, (∀ w' : World, S2 w' → w'.cell? a2 = some (.int .i64 x1)) ∧
  IdxVC bA bn 2 i fun a3 =>
  ∃ x2 : Int, (∀ w' : World, S2 w' → w'.cell? a3 = some (.int .i64 x2)) ∧
  Br (decide (x1 ≠ x2))
    (R (.returned (.bool false)) w4)
    (Br (!x)
    (R (.returned (.bool false)) w4)
    (K58 (IntKind.i64.wrap (i + 1)) w4)))
    (fun _ _ => False)))
    (R (.returned (.bool true)) w1)
set_option maxRecDepth 100000 in
def weirref6_SameOpts_VC (aA : Option Addr) (an : Nat) (_ac : Nat) (bA : Option Addr) (bn : Nat) (_bc : Nat) (w : World) (R : Ending → World → Prop) : Prop :=
  Br (decide ((an : Int) ≠ (bn : Int)))
    (R (.returned (.bool false)) w)
    (LoopVC (S := Int) (fun s_ w1 K58 => weirref6_SameOpts_L58 R aA an bA bn s_ w1 K58) 0 w)
def weirref6_SameOpts_H : Hints := [(58, [(5, .int .i64)])]
set_option maxRecDepth 100000 in
theorem weirref6_SameOpts_of (aA : Option Addr) (an : Nat) (ac : Nat) (bA : Option Addr) (bn : Nat) (bc : Nat) (w : World) (R : Ending → World → Prop) (hvc_ : weirref6_SameOpts_VC aA an ac bA bn bc w R) :
    Calls Tryz.prog 79 #[.slice aA an ac, .slice bA bn bc] w R :=
  calls_of_wpc callOk mixedOk (H := weirref6_SameOpts_H) (args := [.slice aA an ac, .slice bA bn bc]) (fn := Tryz.f79) (c := bodyOf Tryz.f79) Tryz.func79 rfl (Nat.le_of_ble_eq_true rfl)
    (Eq.mp (by kernel_rfl : weirref6_SameOpts_VC aA an ac bA bn bc w R = wpc Tryz.prog callF Tryz.f79.ntmps weirref6_SameOpts_H 1 (bodyOf Tryz.f79) (argEnv 0 [.slice aA an ac, .slice bA bn bc]) [] w (finish Tryz.prog callF Tryz.f79.results.toList R)) hvc_)

set_option maxRecDepth 100000 in
def weirref7_SameOpts_L58 (R : Ending → World → Prop) (aA : Option Addr) (an : Nat) (bA : Option Addr) (bn : Nat) (i : Int) (w1 : World) (K58 : (Int → World → Prop)) : Prop :=
  Br (decide (i < (an : Int)))
    (DrawVC w1 fun S1 w2 =>
  IdxVC aA an 2 i fun a =>
  ∃ x : Int, (∀ w' : World, S1 w' → w'.cell? a = some (.int .i64 x)) ∧
  IdxVC bA bn 2 i fun a1 =>
  ∃ x1 : Int, (∀ w' : World, S1 w' → w'.cell? a1 = some (.int .i64 x1)) ∧
  Br (decide (x ≠ x1))
    (R (.returned (.bool false)) w2)
    (IdxVC aA an 2 i fun a2 =>
    ∃ (xA : Option Addr) (xn xc : Nat), (∀ w' : World, S1 w' → w'.cell? (a2.add 1) = some (.slice xA xn xc)) ∧
    IdxVC bA bn 2 i fun a3 =>
    ∃ (xA1 : Option Addr) (xn1 xc1 : Nat), (∀ w' : World, S1 w' → w'.cell? (a3.add 1) = some (.slice xA1 xn1 xc1)) ∧
    Calls Tryz.prog 54 #[.slice xA xn xc, .slice xA1 xn1 xc1] w2 (onRet (fun r_ w3 => ∃ x2 : Bool, r_ = .bool x2 ∧
    S1 w3 ∧
    Br (!x2)
    (R (.returned (.bool false)) w3)
    (K58 (IntKind.i64.wrap (i + 1)) w3))
      (fun _ _ => False))))
    (R (.returned (.bool true)) w1)
set_option maxRecDepth 100000 in
def weirref7_SameOpts_VC (aA : Option Addr) (an : Nat) (_ac : Nat) (bA : Option Addr) (bn : Nat) (_bc : Nat) (w : World) (R : Ending → World → Prop) : Prop :=
  Br (decide ((an : Int) ≠ (bn : Int)))
    (R (.returned (.bool false)) w)
    (LoopVC (S := Int) (fun s_ w1 K58 => weirref7_SameOpts_L58 R aA an bA bn s_ w1 K58) 0 w)
def weirref7_SameOpts_H : Hints := [(58, [(5, .int .i64)])]
set_option maxRecDepth 100000 in
theorem weirref7_SameOpts_of (aA : Option Addr) (an : Nat) (ac : Nat) (bA : Option Addr) (bn : Nat) (bc : Nat) (w : World) (R : Ending → World → Prop) (hvc_ : weirref7_SameOpts_VC aA an ac bA bn bc w R) :
    Calls Tryz.prog 94 #[.slice aA an ac, .slice bA bn bc] w R :=
  calls_of_wpc callOk mixedOk (H := weirref7_SameOpts_H) (args := [.slice aA an ac, .slice bA bn bc]) (fn := Tryz.f94) (c := bodyOf Tryz.f94) Tryz.func94 rfl (Nat.le_of_ble_eq_true rfl)
    (Eq.mp (by kernel_rfl : weirref7_SameOpts_VC aA an ac bA bn bc w R = wpc Tryz.prog callF Tryz.f94.ntmps weirref7_SameOpts_H 1 (bodyOf Tryz.f94) (argEnv 0 [.slice aA an ac, .slice bA bn bc]) [] w (finish Tryz.prog callF Tryz.f94.results.toList R)) hvc_)

set_option maxRecDepth 100000 in
def weirref7_SameExts_L58 (R : Ending → World → Prop) (aA : Option Addr) (an : Nat) (bA : Option Addr) (bn : Nat) (i : Int) (w1 : World) (K58 : (Int → World → Prop)) : Prop :=
  Br (decide (i < (an : Int)))
    (DrawVC w1 fun S1 w2 =>
  IdxVC aA an 3 i fun a =>
  ∃ x : Int, (∀ w' : World, S1 w' → w'.cell? a = some (.int .i64 x)) ∧
  IdxVC bA bn 3 i fun a1 =>
  ∃ x1 : Int, (∀ w' : World, S1 w' → w'.cell? a1 = some (.int .i64 x1)) ∧
  Br (decide (x ≠ x1))
    (R (.returned (.bool false)) w2)
    (IdxVC aA an 3 i fun a2 =>
    ∃ (xA : Option Addr) (xn xc : Nat), (∀ w' : World, S1 w' → w'.cell? (a2.add 2) = some (.slice xA xn xc)) ∧
    IdxVC bA bn 3 i fun a3 =>
    ∃ (xA1 : Option Addr) (xn1 xc1 : Nat), (∀ w' : World, S1 w' → w'.cell? (a3.add 2) = some (.slice xA1 xn1 xc1)) ∧
    Calls Tryz.prog 54 #[.slice xA xn xc, .slice xA1 xn1 xc1] w2 (onRet (fun r_ w3 => ∃ x2 : Bool, r_ = .bool x2 ∧
    S1 w3 ∧
    Br (!x2)
      (R (.returned (.bool false)) w3)
      (IdxVC aA an 3 i fun a4 =>
      ∃ (xA2 : Option Addr) (xn2 xc2 : Nat), (∀ w' : World, S1 w' → w'.cell? (a4.add 1) = some (.slice xA2 xn2 xc2)) ∧
      IdxVC bA bn 3 i fun a5 =>
      ∃ (xA3 : Option Addr) (xn3 xc3 : Nat), (∀ w' : World, S1 w' → w'.cell? (a5.add 1) = some (.slice xA3 xn3 xc3)) ∧
      Calls Tryz.prog 94 #[.slice xA2 xn2 xc2, .slice xA3 xn3 xc3] w3 (onRet (fun r_1 w4 => ∃ x3 : Bool, r_1 = .bool x3 ∧
      S1 w4 ∧
      Br (!x3)
    (R (.returned (.bool false)) w4)
    (K58 (IntKind.i64.wrap (i + 1)) w4))
        (fun _ _ => False))))
      (fun _ _ => False))))
    (R (.returned (.bool true)) w1)
set_option maxRecDepth 100000 in
def weirref7_SameExts_VC (aA : Option Addr) (an : Nat) (_ac : Nat) (bA : Option Addr) (bn : Nat) (_bc : Nat) (w : World) (R : Ending → World → Prop) : Prop :=
  Br (decide ((an : Int) ≠ (bn : Int)))
    (R (.returned (.bool false)) w)
    (LoopVC (S := Int) (fun s_ w1 K58 => weirref7_SameExts_L58 R aA an bA bn s_ w1 K58) 0 w)
def weirref7_SameExts_H : Hints := [(58, [(5, .int .i64)])]
set_option maxRecDepth 100000 in
theorem weirref7_SameExts_of (aA : Option Addr) (an : Nat) (ac : Nat) (bA : Option Addr) (bn : Nat) (bc : Nat) (w : World) (R : Ending → World → Prop) (hvc_ : weirref7_SameExts_VC aA an ac bA bn bc w R) :
    Calls Tryz.prog 81 #[.slice aA an ac, .slice bA bn bc] w R :=
  calls_of_wpc callOk mixedOk (H := weirref7_SameExts_H) (args := [.slice aA an ac, .slice bA bn bc]) (fn := Tryz.f81) (c := bodyOf Tryz.f81) Tryz.func81 rfl (Nat.le_of_ble_eq_true rfl)
    (Eq.mp (by kernel_rfl : weirref7_SameExts_VC aA an ac bA bn bc w R = wpc Tryz.prog callF Tryz.f81.ntmps weirref7_SameExts_H 1 (bodyOf Tryz.f81) (argEnv 0 [.slice aA an ac, .slice bA bn bc]) [] w (finish Tryz.prog callF Tryz.f81.results.toList R)) hvc_)

set_option maxRecDepth 100000 in
def weirref6_Same_VC (a : Ip4V) (b : Ip4V) (w : World) (R : Ending → World → Prop) : Prop :=
  NewVC w (.cells a.cells.toArray 28) fun g1 w1 =>
  NewVC w1 (.cells b.cells.toArray 28) fun g2 w2 =>
  ∃ x : Int, w2.cell? ⟨g1, 0, none⟩ = some (.int .i64 x) ∧
  ∃ x1 : Int, w2.cell? ⟨g2, 0, none⟩ = some (.int .i64 x1) ∧
  Br (decide (x ≠ x1))
    (R (.returned (.bool false)) w2)
    (∃ x2 : Int, w2.cell? ⟨g1, 1, none⟩ = some (.int .i64 x2) ∧
    ∃ x3 : Int, w2.cell? ⟨g2, 1, none⟩ = some (.int .i64 x3) ∧
    Br (decide (x2 ≠ x3))
      (R (.returned (.bool false)) w2)
      (∃ x4 : Bool, w2.cell? ⟨g1, 2, none⟩ = some (.bool x4) ∧
      ∃ x5 : Bool, w2.cell? ⟨g2, 2, none⟩ = some (.bool x5) ∧
      Br (!(x4 == x5))
        (R (.returned (.bool false)) w2)
        (∃ x6 : Bool, w2.cell? ⟨g1, 3, none⟩ = some (.bool x6) ∧
        ∃ x7 : Bool, w2.cell? ⟨g2, 3, none⟩ = some (.bool x7) ∧
        Br (!(x6 == x7))
          (R (.returned (.bool false)) w2)
          (∃ x8 : Int, w2.cell? ⟨g1, 4, none⟩ = some (.int .i64 x8) ∧
          ∃ x9 : Int, w2.cell? ⟨g2, 4, none⟩ = some (.int .i64 x9) ∧
          Br (decide (x8 ≠ x9))
            (R (.returned (.bool false)) w2)
            (∃ x10 : Int, w2.cell? ⟨g1, 5, none⟩ = some (.int .i64 x10) ∧
            ∃ x11 : Int, w2.cell? ⟨g2, 5, none⟩ = some (.int .i64 x11) ∧
            Br (decide (x10 ≠ x11))
              (R (.returned (.bool false)) w2)
              (∃ x12 : Int, w2.cell? ⟨g1, 6, none⟩ = some (.int .i64 x12) ∧
              ∃ x13 : Int, w2.cell? ⟨g2, 6, none⟩ = some (.int .i64 x13) ∧
              Br (decide (x12 ≠ x13))
                (R (.returned (.bool false)) w2)
                (IPV.ex fun h => CellsAt w2 ⟨g1, 7, none⟩ 0 h.cells ∧
                IPV.ex fun h1 => CellsAt w2 ⟨g2, 7, none⟩ 0 h1.cells ∧
                Br (!((IPV.beq h h1)))
                  (R (.returned (.bool false)) w2)
                  (IPV.ex fun h2 => CellsAt w2 ⟨g1, 24, none⟩ 0 h2.cells ∧
                  IPV.ex fun h3 => CellsAt w2 ⟨g2, 24, none⟩ 0 h3.cells ∧
                  Br (!((IPV.beq h2 h3)))
    (R (.returned (.bool false)) w2)
    (∃ (xA : Option Addr) (xn xc : Nat), w2.cell? ⟨g1, 41, none⟩ = some (.slice xA xn xc) ∧
  ∃ (xA1 : Option Addr) (xn1 xc1 : Nat), w2.cell? ⟨g2, 41, none⟩ = some (.slice xA1 xn1 xc1) ∧
  Calls Tryz.prog 79 #[.slice xA xn xc, .slice xA1 xn1 xc1] w2 (onRet (fun r_ w3 => ∃ x14 : Bool, r_ = .bool x14 ∧
  Br x14
    (∃ (xA2 : Option Addr) (xn2 xc2 : Nat), w3.cell? ⟨g1, 42, none⟩ = some (.slice xA2 xn2 xc2) ∧
    ∃ (xA3 : Option Addr) (xn3 xc3 : Nat), w3.cell? ⟨g2, 42, none⟩ = some (.slice xA3 xn3 xc3) ∧
    Calls Tryz.prog 80 #[.slice xA2 xn2 xc2, .slice xA3 xn3 xc3] w3 (onRet (fun r_1 w4 => ∃ x15 : Bool, r_1 = .bool x15 ∧
    R (.returned (.bool x15)) w4)
      (fun ch1 w4 => R (.panicked ch1) w4)))
    (R (.returned (.bool false)) w3))
    (fun ch w3 => R (.panicked ch) w3)))))))))))
def weirref6_Same_H : Hints := []
set_option maxRecDepth 100000 in
theorem weirref6_Same_of (a : Ip4V) (b : Ip4V) (w : World) (R : Ending → World → Prop) (hvc_ : weirref6_Same_VC a b w R) :
    Calls Tryz.prog 43 #[a.val, b.val] w R :=
  calls_of_wpc callOk mixedOk (H := weirref6_Same_H) (args := [a.val, b.val]) (fn := Tryz.f43) (c := bodyOf Tryz.f43) Tryz.func43 rfl (Nat.le_of_ble_eq_true rfl)
    (Eq.mp (by kernel_rfl : weirref6_Same_VC a b w R = wpc Tryz.prog callF Tryz.f43.ntmps weirref6_Same_H 1 (bodyOf Tryz.f43) (argEnv 0 [a.val, b.val]) [] w (finish Tryz.prog callF Tryz.f43.results.toList R)) hvc_)

set_option maxRecDepth 100000 in
def weirref7_Same_VC (a : Ip6V) (b : Ip6V) (w : World) (R : Ending → World → Prop) : Prop :=
  NewVC w (.cells a.cells.toArray 33) fun g1 w1 =>
  NewVC w1 (.cells b.cells.toArray 33) fun g2 w2 =>
  ∃ x : Int, w2.cell? ⟨g1, 0, none⟩ = some (.int .i64 x) ∧
  ∃ x1 : Int, w2.cell? ⟨g2, 0, none⟩ = some (.int .i64 x1) ∧
  Br (decide (x ≠ x1))
    (R (.returned (.bool false)) w2)
    (∃ x2 : Int, w2.cell? ⟨g1, 1, none⟩ = some (.int .i64 x2) ∧
    ∃ x3 : Int, w2.cell? ⟨g2, 1, none⟩ = some (.int .i64 x3) ∧
    Br (decide (x2 ≠ x3))
      (R (.returned (.bool false)) w2)
      (∃ x4 : Int, w2.cell? ⟨g1, 2, none⟩ = some (.int .i64 x4) ∧
      ∃ x5 : Int, w2.cell? ⟨g2, 2, none⟩ = some (.int .i64 x5) ∧
      Br (decide (x4 ≠ x5))
        (R (.returned (.bool false)) w2)
        (IPV.ex fun h => CellsAt w2 ⟨g1, 3, none⟩ 0 h.cells ∧
        IPV.ex fun h1 => CellsAt w2 ⟨g2, 3, none⟩ 0 h1.cells ∧
        Br (!((IPV.beq h h1)))
          (R (.returned (.bool false)) w2)
          (IPV.ex fun h2 => CellsAt w2 ⟨g1, 20, none⟩ 0 h2.cells ∧
          IPV.ex fun h3 => CellsAt w2 ⟨g2, 20, none⟩ 0 h3.cells ∧
          Br (!((IPV.beq h2 h3)))
            (R (.returned (.bool false)) w2)
            (FragV.ex fun h4 => CellsAt w2 ⟨g1, 38, none⟩ 0 h4.cells ∧
            FragV.ex fun h5 => CellsAt w2 ⟨g2, 38, none⟩ 0 h5.cells ∧
            Br (!((FragV.beq h4 h5)))
              (R (.returned (.bool false)) w2)
              (∃ x6 : Int, w2.cell? ⟨g1, 42, none⟩ = some (.int .i64 x6) ∧
              ∃ x7 : Int, w2.cell? ⟨g2, 42, none⟩ = some (.int .i64 x7) ∧
              Br (decide (x6 ≠ x7))
    (R (.returned (.bool false)) w2)
    (∃ (xA : Option Addr) (xn xc : Nat), w2.cell? ⟨g1, 37, none⟩ = some (.slice xA xn xc) ∧
  ∃ (xA1 : Option Addr) (xn1 xc1 : Nat), w2.cell? ⟨g2, 37, none⟩ = some (.slice xA1 xn1 xc1) ∧
  Calls Tryz.prog 81 #[.slice xA xn xc, .slice xA1 xn1 xc1] w2 (onRet (fun r_ w3 => ∃ x8 : Bool, r_ = .bool x8 ∧
  Br x8
    (∃ (xA2 : Option Addr) (xn2 xc2 : Nat), w3.cell? ⟨g1, 43, none⟩ = some (.slice xA2 xn2 xc2) ∧
    ∃ (xA3 : Option Addr) (xn3 xc3 : Nat), w3.cell? ⟨g2, 43, none⟩ = some (.slice xA3 xn3 xc3) ∧
    Calls Tryz.prog 54 #[.slice xA2 xn2 xc2, .slice xA3 xn3 xc3] w3 (onRet (fun r_1 w4 => ∃ x9 : Bool, r_1 = .bool x9 ∧
    R (.returned (.bool x9)) w4)
      (fun ch1 w4 => R (.panicked ch1) w4)))
    (R (.returned (.bool false)) w3))
    (fun ch w3 => R (.panicked ch) w3)))))))))
def weirref7_Same_H : Hints := []
set_option maxRecDepth 100000 in
theorem weirref7_Same_of (a : Ip6V) (b : Ip6V) (w : World) (R : Ending → World → Prop) (hvc_ : weirref7_Same_VC a b w R) :
    Calls Tryz.prog 44 #[a.val, b.val] w R :=
  calls_of_wpc callOk mixedOk (H := weirref7_Same_H) (args := [a.val, b.val]) (fn := Tryz.f44) (c := bodyOf Tryz.f44) Tryz.func44 rfl (Nat.le_of_ble_eq_true rfl)
    (Eq.mp (by kernel_rfl : weirref7_Same_VC a b w R = wpc Tryz.prog callF Tryz.f44.ntmps weirref7_Same_H 1 (bodyOf Tryz.f44) (argEnv 0 [a.val, b.val]) [] w (finish Tryz.prog callF Tryz.f44.results.toList R)) hvc_)

set_option maxRecDepth 100000 in
def weirlaw13_num_VC (e_ : Int) (w : World) (R : Ending → World → Prop) : Prop :=
  R (.returned (.int .i64 e_)) w
def weirlaw13_num_H : Hints := []
set_option maxRecDepth 100000 in
theorem weirlaw13_num_of (e_ : Int) (w : World) (R : Ending → World → Prop) (hvc_ : weirlaw13_num_VC e_ w R) :
    Calls Tryz.prog 48 #[.int .i64 e_] w R :=
  calls_of_wpc callOk mixedOk (H := weirlaw13_num_H) (args := [.int .i64 e_]) (fn := Tryz.f48) (c := bodyOf Tryz.f48) Tryz.func48 rfl (Nat.le_of_ble_eq_true rfl)
    (Eq.mp (by kernel_rfl : weirlaw13_num_VC e_ w R = wpc Tryz.prog callF Tryz.f48.ntmps weirlaw13_num_H 1 (bodyOf Tryz.f48) (argEnv 0 [.int .i64 e_]) [] w (finish Tryz.prog callF Tryz.f48.results.toList R)) hvc_)

set_option maxRecDepth 100000 in
def weirlaw13_four_L58 (R : Ending → World → Prop) (n : Int) (g1 : Nat) (g2 : Nat) (i : Int) (w4 : World) (K58 : (Int → World → Prop)) : Prop :=
  Br (decide (i < n))
    (∃ (xA : Option Addr) (xn xc : Nat), w4.cell? ⟨g2, 42, none⟩ = some (.slice xA xn xc) ∧
  NewVC w4 (.cells #[.int .u8 (IntKind.u8.wrap i)] 5) fun g3 w5 =>
  AppVC Tryz.prog #[26, 26] 26 (.slice xA xn xc) (.slice (some ⟨g3, 0, none⟩) 1 1) w5 fun lA ln lc w6 =>
  SetVC w6 ⟨g2, 42, none⟩ (.slice lA ln lc) fun w7 =>
  K58 (IntKind.i64.wrap (i + 1)) w7)
    (Ip4V.ex fun h => CellsAt w4 ⟨g2, 0, none⟩ 0 h.cells ∧
  Stores ⟨g1, 0, none⟩ 0 h.cells w4 fun w8 =>
  Ip4V.ex fun res => CellsAt w8 ⟨g1, 0, none⟩ 0 res.cells ∧
  R (.returned res.val) w8)
set_option maxRecDepth 100000 in
def weirlaw13_four_VC (n : Int) (w : World) (R : Ending → World → Prop) : Prop :=
  NewVC w (.cells (Ip4V.z : Ip4V).cells.toArray 28) fun g1 w1 =>
  NewVC w1 (.cells (Ip4V.z : Ip4V).cells.toArray 28) fun g2 w2 =>
  Stores ⟨g2, 0, none⟩ 0 [.int .i64 0, .int .i64 7, .bool false, .bool false, .int .i64 0, .int .i64 64, .int .i64 17, .int .i64 4, .int .u8 10, .int .u8 0, .int .u8 0, .int .u8 1, .int .u8 0, .int .u8 0, .int .u8 0, .int .u8 0, .int .u8 0, .int .u8 0, .int .u8 0, .int .u8 0, .int .u8 0, .int .u8 0, .int .u8 0, .int .u8 0, .int .i64 4, .int .u8 10, .int .u8 0, .int .u8 0, .int .u8 2, .int .u8 0, .int .u8 0, .int .u8 0, .int .u8 0, .int .u8 0, .int .u8 0, .int .u8 0, .int .u8 0, .int .u8 0, .int .u8 0, .int .u8 0, .int .u8 0, .slice none 0 0, .slice none 0 0] w2 fun w3 =>
  LoopVC (S := Int) (fun s_ w4 K58 => weirlaw13_four_L58 R n g1 g2 s_ w4 K58) 0 w3
def weirlaw13_four_H : Hints := [(58, [(4, .int .i64)])]
set_option maxRecDepth 100000 in
theorem weirlaw13_four_of (n : Int) (w : World) (R : Ending → World → Prop) (hvc_ : weirlaw13_four_VC n w R) :
    Calls Tryz.prog 46 #[.int .i64 n] w R :=
  calls_of_wpc callOk mixedOk (H := weirlaw13_four_H) (args := [.int .i64 n]) (fn := Tryz.f46) (c := bodyOf Tryz.f46) Tryz.func46 rfl (Nat.le_of_ble_eq_true rfl)
    (Eq.mp (by kernel_rfl : weirlaw13_four_VC n w R = wpc Tryz.prog callF Tryz.f46.ntmps weirlaw13_four_H 1 (bodyOf Tryz.f46) (argEnv 0 [.int .i64 n]) [] w (finish Tryz.prog callF Tryz.f46.results.toList R)) hvc_)

set_option maxRecDepth 100000 in
def weirlaw13_six_L58 (R : Ending → World → Prop) (n : Int) (g1 : Nat) (g2 : Nat) (i : Int) (w4 : World) (K58 : (Int → World → Prop)) : Prop :=
  Br (decide (i < n))
    (∃ (xA : Option Addr) (xn xc : Nat), w4.cell? ⟨g2, 43, none⟩ = some (.slice xA xn xc) ∧
  NewVC w4 (.cells #[.int .u8 (IntKind.u8.wrap i)] 5) fun g3 w5 =>
  AppVC Tryz.prog #[26, 26] 26 (.slice xA xn xc) (.slice (some ⟨g3, 0, none⟩) 1 1) w5 fun lA ln lc w6 =>
  SetVC w6 ⟨g2, 43, none⟩ (.slice lA ln lc) fun w7 =>
  K58 (IntKind.i64.wrap (i + 1)) w7)
    (Ip6V.ex fun h => CellsAt w4 ⟨g2, 0, none⟩ 0 h.cells ∧
  Stores ⟨g1, 0, none⟩ 0 h.cells w4 fun w8 =>
  Ip6V.ex fun res => CellsAt w8 ⟨g1, 0, none⟩ 0 res.cells ∧
  R (.returned res.val) w8)
set_option maxRecDepth 100000 in
def weirlaw13_six_VC (n : Int) (w : World) (R : Ending → World → Prop) : Prop :=
  NewVC w (.cells (Ip6V.z : Ip6V).cells.toArray 33) fun g1 w1 =>
  NewVC w1 (.cells (Ip6V.z : Ip6V).cells.toArray 33) fun g2 w2 =>
  Stores ⟨g2, 0, none⟩ 0 [.int .i64 0, .int .i64 0, .int .i64 64, .int .i64 6, .int .u8 32, .int .u8 1, .int .u8 0, .int .u8 0, .int .u8 0, .int .u8 0, .int .u8 0, .int .u8 0, .int .u8 0, .int .u8 0, .int .u8 0, .int .u8 0, .int .u8 0, .int .u8 0, .int .u8 0, .int .u8 1, .int .i64 6, .int .u8 32, .int .u8 1, .int .u8 0, .int .u8 0, .int .u8 0, .int .u8 0, .int .u8 0, .int .u8 0, .int .u8 0, .int .u8 0, .int .u8 0, .int .u8 0, .int .u8 0, .int .u8 0, .int .u8 0, .int .u8 2, .slice none 0 0, .bool false, .bool false, .int .i64 0, .int .i64 0, .int .i64 17, .slice none 0 0] w2 fun w3 =>
  LoopVC (S := Int) (fun s_ w4 K58 => weirlaw13_six_L58 R n g1 g2 s_ w4 K58) 0 w3
def weirlaw13_six_H : Hints := [(58, [(4, .int .i64)])]
set_option maxRecDepth 100000 in
theorem weirlaw13_six_of (n : Int) (w : World) (R : Ending → World → Prop) (hvc_ : weirlaw13_six_VC n w R) :
    Calls Tryz.prog 47 #[.int .i64 n] w R :=
  calls_of_wpc callOk mixedOk (H := weirlaw13_six_H) (args := [.int .i64 n]) (fn := Tryz.f47) (c := bodyOf Tryz.f47) Tryz.func47 rfl (Nat.le_of_ble_eq_true rfl)
    (Eq.mp (by kernel_rfl : weirlaw13_six_VC n w R = wpc Tryz.prog callF Tryz.f47.ntmps weirlaw13_six_H 1 (bodyOf Tryz.f47) (argEnv 0 [.int .i64 n]) [] w (finish Tryz.prog callF Tryz.f47.results.toList R)) hvc_)

set_option maxRecDepth 100000 in
def weirlaw13_started_VC  (w : World) (R : Ending → World → Prop) : Prop :=
  Calls Tryz.prog 46 #[.int .i64 100] w (onRet (fun r_ w1 => Ip4V.ex fun h => r_ = h.val ∧
  Calls Tryz.prog 7 #[h.val, .int .i64 119] w1 (onRet (fun r_1 w2 => ∃ (x0A : Option Addr) (x0n x0c : Nat), ∃ x1 : Int, r_1 = .tuple #[.slice x0A x0n x0c, .int .i64 x1] ∧
  Calls Tryz.prog 47 #[.int .i64 1300] w2 (onRet (fun r_2 w3 => Ip6V.ex fun h1 => r_2 = h1.val ∧
  Calls Tryz.prog 8 #[h1.val, .int .i64 1280, .int .i64 7] w3 (onRet (fun r_3 w4 => ∃ (x0A1 : Option Addr) (x0n1 x0c1 : Nat), ∃ x11 : Int, r_3 = .tuple #[.slice x0A1 x0n1 x0c1, .int .i64 x11] ∧
  Calls Tryz.prog 48 #[.int .i64 x1] w4 (onRet (fun r_4 w5 => ∃ x : Int, r_4 = .int .i64 x ∧
  Br (decide (x ≠ 0))
    (R (.returned (.bool false)) w5)
    (Calls Tryz.prog 48 #[.int .i64 x11] w5 (onRet (fun r_5 w6 => ∃ x2 : Int, r_5 = .int .i64 x2 ∧
    Br (decide (x2 ≠ 0))
      (R (.returned (.bool false)) w6)
      (Br (decide ((x0n : Int) ≠ 2))
        (R (.returned (.bool false)) w6)
        (Br (decide ((x0n1 : Int) ≠ 2))
    (R (.returned (.bool false)) w6)
    (IdxVC x0A x0n 43 0 fun a =>
  ∃ x3 : Bool, w6.cell? (a.add 3) = some (.bool x3) ∧
  Br (!x3)
    (R (.returned (.bool false)) w6)
    (IdxVC x0A x0n 43 0 fun a1 =>
    ∃ (xA : Option Addr) (xn xc : Nat), w6.cell? (a1.add 42) = some (.slice xA xn xc) ∧
    Br (decide ((xn : Int) ≠ 96))
      (R (.returned (.bool false)) w6)
      (IdxVC x0A x0n 43 1 fun a2 =>
      ∃ x4 : Int, w6.cell? (a2.add 4) = some (.int .i64 x4) ∧
      Br (decide (x4 ≠ 96))
        (R (.returned (.bool false)) w6)
        (IdxVC x0A x0n 43 1 fun a3 =>
        ∃ x5 : Bool, w6.cell? (a3.add 3) = some (.bool x5) ∧
        Br x5
          (R (.returned (.bool false)) w6)
          (IdxVC x0A x0n 43 1 fun a4 =>
          ∃ (xA1 : Option Addr) (xn1 xc1 : Nat), w6.cell? (a4.add 42) = some (.slice xA1 xn1 xc1) ∧
          Br (decide ((xn1 : Int) ≠ 4))
    (R (.returned (.bool false)) w6)
    (IdxVC x0A1 x0n1 44 0 fun a5 =>
  FragV.ex fun h2 => CellsAt w6 (a5.add 38) 0 h2.cells ∧
  Br ((h2.has == true) && ((h2.more == true) && ((decide (h2.id = 7)) && ((decide (h2.off = 0)) && true))))
    (IdxVC x0A1 x0n1 44 1 fun a6 =>
    FragV.ex fun h3 => CellsAt w6 (a6.add 38) 0 h3.cells ∧
    Br ((h3.has == true) && ((h3.more == false) && ((decide (h3.id = 7)) && ((decide (h3.off = 1232)) && true))))
      (IdxVC x0A1 x0n1 44 1 fun a7 =>
      ∃ (xA2 : Option Addr) (xn2 xc2 : Nat), w6.cell? (a7.add 43) = some (.slice xA2 xn2 xc2) ∧
      R (.returned (.bool (decide ((xn2 : Int) = 68)))) w6)
      (R (.returned (.bool false)) w6))
    (R (.returned (.bool false)) w6))))))))))
      (fun ch5 w6 => R (.panicked ch5) w6))))
    (fun ch4 w5 => R (.panicked ch4) w5)))
    (fun ch3 w4 => R (.panicked ch3) w4)))
    (fun ch2 w3 => R (.panicked ch2) w3)))
    (fun ch1 w2 => R (.panicked ch1) w2)))
    (fun ch w1 => R (.panicked ch) w1))
def weirlaw13_started_H : Hints := []
set_option maxRecDepth 100000 in
theorem weirlaw13_started_of  (w : World) (R : Ending → World → Prop) (hvc_ : weirlaw13_started_VC  w R) :
    Calls Tryz.prog 19 #[] w R :=
  calls_of_wpc callOk mixedOk (H := weirlaw13_started_H) (args := []) (fn := Tryz.f19) (c := bodyOf Tryz.f19) Tryz.func19 rfl (Nat.le_of_ble_eq_true rfl)
    (Eq.mp (by kernel_rfl : weirlaw13_started_VC  w R = wpc Tryz.prog callF Tryz.f19.ntmps weirlaw13_started_H 1 (bodyOf Tryz.f19) (argEnv 0 []) [] w (finish Tryz.prog callF Tryz.f19.results.toList R)) hvc_)

set_option maxRecDepth 100000 in
def weirlaw13_same4_L58 (R : Ending → World → Prop) (aA : Option Addr) (an : Nat) (bA : Option Addr) (bn : Nat) (i : Int) (w1 : World) (K58 : (Int → World → Prop)) : Prop :=
  Br (decide (i < (an : Int)))
    (DrawVC w1 fun S1 w2 =>
  IdxVC aA an 43 i fun a =>
  Ip4V.ex fun h => (∀ w' : World, S1 w' → CellsAt w' a 0 h.cells) ∧
  IdxVC bA bn 43 i fun a1 =>
  Ip4V.ex fun h1 => (∀ w' : World, S1 w' → CellsAt w' a1 0 h1.cells) ∧
  Calls Tryz.prog 43 #[h.val, h1.val] w2 (onRet (fun r_ w3 => ∃ x : Bool, r_ = .bool x ∧
  S1 w3 ∧
  Br (!x)
    (R (.returned (.bool false)) w3)
    (K58 (IntKind.i64.wrap (i + 1)) w3))
    (fun _ _ => False)))
    (R (.returned (.bool true)) w1)
set_option maxRecDepth 100000 in
def weirlaw13_same4_VC (aA : Option Addr) (an : Nat) (_ac : Nat) (bA : Option Addr) (bn : Nat) (_bc : Nat) (w : World) (R : Ending → World → Prop) : Prop :=
  Br (decide ((an : Int) ≠ (bn : Int)))
    (R (.returned (.bool false)) w)
    (LoopVC (S := Int) (fun s_ w1 K58 => weirlaw13_same4_L58 R aA an bA bn s_ w1 K58) 0 w)
def weirlaw13_same4_H : Hints := [(58, [(5, .int .i64)])]
set_option maxRecDepth 100000 in
theorem weirlaw13_same4_of (aA : Option Addr) (an : Nat) (ac : Nat) (bA : Option Addr) (bn : Nat) (bc : Nat) (w : World) (R : Ending → World → Prop) (hvc_ : weirlaw13_same4_VC aA an ac bA bn bc w R) :
    Calls Tryz.prog 9 #[.slice aA an ac, .slice bA bn bc] w R :=
  calls_of_wpc callOk mixedOk (H := weirlaw13_same4_H) (args := [.slice aA an ac, .slice bA bn bc]) (fn := Tryz.f9) (c := bodyOf Tryz.f9) Tryz.func9 rfl (Nat.le_of_ble_eq_true rfl)
    (Eq.mp (by kernel_rfl : weirlaw13_same4_VC aA an ac bA bn bc w R = wpc Tryz.prog callF Tryz.f9.ntmps weirlaw13_same4_H 1 (bodyOf Tryz.f9) (argEnv 0 [.slice aA an ac, .slice bA bn bc]) [] w (finish Tryz.prog callF Tryz.f9.results.toList R)) hvc_)

set_option maxRecDepth 100000 in
def weirlaw13_same6_L58 (R : Ending → World → Prop) (aA : Option Addr) (an : Nat) (bA : Option Addr) (bn : Nat) (i : Int) (w1 : World) (K58 : (Int → World → Prop)) : Prop :=
  Br (decide (i < (an : Int)))
    (DrawVC w1 fun S1 w2 =>
  IdxVC aA an 44 i fun a =>
  Ip6V.ex fun h => (∀ w' : World, S1 w' → CellsAt w' a 0 h.cells) ∧
  IdxVC bA bn 44 i fun a1 =>
  Ip6V.ex fun h1 => (∀ w' : World, S1 w' → CellsAt w' a1 0 h1.cells) ∧
  Calls Tryz.prog 44 #[h.val, h1.val] w2 (onRet (fun r_ w3 => ∃ x : Bool, r_ = .bool x ∧
  S1 w3 ∧
  Br (!x)
    (R (.returned (.bool false)) w3)
    (K58 (IntKind.i64.wrap (i + 1)) w3))
    (fun _ _ => False)))
    (R (.returned (.bool true)) w1)
set_option maxRecDepth 100000 in
def weirlaw13_same6_VC (aA : Option Addr) (an : Nat) (_ac : Nat) (bA : Option Addr) (bn : Nat) (_bc : Nat) (w : World) (R : Ending → World → Prop) : Prop :=
  Br (decide ((an : Int) ≠ (bn : Int)))
    (R (.returned (.bool false)) w)
    (LoopVC (S := Int) (fun s_ w1 K58 => weirlaw13_same6_L58 R aA an bA bn s_ w1 K58) 0 w)
def weirlaw13_same6_H : Hints := [(58, [(5, .int .i64)])]
set_option maxRecDepth 100000 in
theorem weirlaw13_same6_of (aA : Option Addr) (an : Nat) (ac : Nat) (bA : Option Addr) (bn : Nat) (bc : Nat) (w : World) (R : Ending → World → Prop) (hvc_ : weirlaw13_same6_VC aA an ac bA bn bc w R) :
    Calls Tryz.prog 10 #[.slice aA an ac, .slice bA bn bc] w R :=
  calls_of_wpc callOk mixedOk (H := weirlaw13_same6_H) (args := [.slice aA an ac, .slice bA bn bc]) (fn := Tryz.f10) (c := bodyOf Tryz.f10) Tryz.func10 rfl (Nat.le_of_ble_eq_true rfl)
    (Eq.mp (by kernel_rfl : weirlaw13_same6_VC aA an ac bA bn bc w R = wpc Tryz.prog callF Tryz.f10.ntmps weirlaw13_same6_H 1 (bodyOf Tryz.f10) (argEnv 0 [.slice aA an ac, .slice bA bn bc]) [] w (finish Tryz.prog callF Tryz.f10.results.toList R)) hvc_)
end N6
end Go.Proofs.YteppichfkeknbaaGreatDoor
/- Whether two things hold the same: bytes, options, headers, datagrams. -/
namespace Go.Eng
open Go Go.RowKit
theorem IdxVC.recD {w : World} {A : Option Addr} {size n : Nat} {rs : List (List Value)} {i : Nat} {cs : List Value} {F : Addr → Prop} (S : World → Prop) (hw : S w) (hS : ∀ w', S w' → Recs w' A size rs) (hl : rs.length = n) (hi : rs[i]? = some cs)
    (hF : ∀ a, (∀ w', S w' → CellsAt w' a 0 cs) → F a) : IdxVC A n size (i : Int) F := by
  have hlt := (List.getElem?_eq_some_iff.1 hi).1
  obtain ⟨a, ha, _⟩ := hS w hw i cs hi
  refine ⟨a, ha, by omega, by omega, hF _ fun w' hw' => ?_⟩
  obtain ⟨b, hb, hc⟩ := hS w' hw' i cs hi
  rw [ha] at hb; cases hb
  rw [Int.toNat_natCast]; exact hc
theorem takes_step {α : Type} {xs ys : List α} {i : Nat} {x y : α} (hx : xs[i]? = some x) (hy : ys[i]? = some y) (ht : xs.take i = ys.take i) (h : x = y) : xs.take (i + 1) = ys.take (i + 1) := by
  rw [List.take_add_one, List.take_add_one, ht, hx, hy, h]
theorem takes_ne {α : Type} {xs ys : List α} {i : Nat} {x y : α} (hx : xs[i]? = some x) (hy : ys[i]? = some y) (h : x ≠ y) : xs ≠ ys := fun e => h (by rw [e, hy] at hx; injection hx with hx; exact hx.symm)
theorem no_iff {P : Prop} (h : ¬ P) : (false = true) ↔ P := ⟨(fun x => by cases x), fun x => absurd x h⟩
theorem yes_iff {P : Prop} (h : P) : (true = true) ↔ P := ⟨fun _ => h, fun _ => rfl⟩
theorem ipv_beq {a b : IPV} : IPV.beq a b = true ↔ a = b := by
  cases a; cases b
  unfold IPV.beq
  simp only [Bool.and_eq_true, decide_eq_true_eq, IPV.mk.injEq, and_true]
theorem frag_beq {a b : FragV} : FragV.beq a b = true ↔ a = b := by
  cases a; cases b
  unfold FragV.beq
  simp only [Bool.and_eq_true, decide_eq_true_eq, beq_iff_eq, FragV.mk.injEq, and_true]
end Go.Eng
namespace Go.Proofs.YteppichfkeknbaaGreatDoor
namespace N6
open Go.Eng Go.RowKit
/-- A call that tells whether. -/
def Tells (w : World) (P : Prop) (e : Ending) (w' : World) : Prop := ∃ b : Bool, e = .returned (.bool b) ∧ (b = true ↔ P) ∧ Ext w w'
section
variable {w : World} {s t : Sl} {xs ys : List Int}
theorem Tells.no {w' : World} {P : Prop} (hE : Ext w w') (h : ¬ P) : Tells w P (.returned (.bool false)) w' := ⟨false, rfl, no_iff h, hE⟩
theorem Tells.yes {w' : World} {P : Prop} (hE : Ext w w') (h : P) : Tells w P (.returned (.bool true)) w' := ⟨true, rfl, yes_iff h, hE⟩
theorem alike6_spec (hx : BytesAt w s xs) (hy : BytesAt w t ys) : Calls Tryz.prog 80 #[s.val, t.val] w fun e w' => w' = w ∧ e = .returned (.bool (decide (xs = ys))) := by
  refine weirref6_Alike_of s.A s.n s.k t.A t.n t.k w _ ?_
  unfold weirref6_Alike_VC
  rw [← hx.len, ← hy.len]
  refine StrVC.of hx.cells (StrVC.of hy.cells ⟨rfl, ?_⟩)
  rw [str_eq xs ys hx.bts hy.bts]
theorem alike7_spec (hx : BytesAt w s xs) (hy : BytesAt w t ys) : Calls Tryz.prog 54 #[s.val, t.val] w fun e w' => w' = w ∧ e = .returned (.bool (decide (xs = ys))) := by
  refine weirref7_Alike_of s.A s.n s.k t.A t.n t.k w _ ?_
  unfold weirref7_Alike_VC
  rw [← hx.len, ← hy.len]
  refine StrVC.of hx.cells (StrVC.of hy.cells ⟨rfl, ?_⟩)
  rw [str_eq xs ys hx.bts hy.bts]
theorem OptsAt.idxD {S : World → Prop} {rs : List OptR} (hw : S w) (hS : ∀ w', S w' → OptsAt w' s rs) {i : Nat} {r : OptR} (hi : rs[i]? = some r) {F : Addr → Prop} (hF : ∀ a, (∀ w', S w' → CellsAt w' a 0 r.v.cells) → F a) : IdxVC s.A s.n 2 (i : Int) F :=
  IdxVC.recD S hw (fun w' h => (hS w' h).recs) (by simpa using (hS w hw).len) (cs := r.v.cells) (by rw [List.getElem?_map, hi]; rfl) hF
theorem ExtsAt.idxD {S : World → Prop} {rs : List ExtR} (hw : S w) (hS : ∀ w', S w' → ExtsAt w' s rs) {i : Nat} {r : ExtR} (hi : rs[i]? = some r) {F : Addr → Prop} (hF : ∀ a, (∀ w', S w' → CellsAt w' a 0 r.v.cells) → F a) : IdxVC s.A s.n 3 (i : Int) F :=
  IdxVC.recD S hw (fun w' h => (hS w' h).recs) (by simpa using (hS w hw).len) (cs := r.v.cells) (by rw [List.getElem?_map, hi]; rfl) hF
theorem c0 {v : Value} {a : Addr} {r : List Value} (h : CellsAt w a 0 (v :: r)) : w.cell? a = some v := by simpa [add_zero] using h.1
theorem c1 {u v : Value} {a : Addr} {r : List Value} (h : CellsAt w a 0 (u :: v :: r)) : w.cell? (a.add 1) = some v := h.2.1
theorem c2 {u v x : Value} {a : Addr} {r : List Value} (h : CellsAt w a 0 (u :: v :: x :: r)) : w.cell? (a.add 2) = some x := h.2.2.1
theorem optD_ne {a b : OptD} (h : ¬ (a.kind = b.kind ∧ a.data = b.data)) : a ≠ b := fun e => h (by subst e; exact ⟨rfl, rfl⟩)
theorem extD_ne {a b : ExtD} (h : ¬ (a.kind = b.kind ∧ a.opts = b.opts ∧ a.data = b.data)) : a ≠ b := fun e => h (by subst e; exact ⟨rfl, rfl, rfl⟩)
set_option maxHeartbeats 1000000 in
theorem sameOpts6_spec {ra rb : List OptR} (ha : OptsAt w s ra) (hb : OptsAt w t rb) : Calls Tryz.prog 79 #[s.val, t.val] w (Tells w (ra.map OptR.d = rb.map OptR.d)) := by
  refine weirref6_SameOpts_of s.A s.n s.k t.A t.n t.k w _ ?_
  unfold weirref6_SameOpts_VC
  have la := ha.len
  have lb := hb.len
  have hs := ha.small
  refine Br.dec (fun hne => Tells.no (Mod.refl _ _) fun e => hne (by have := congrArg List.length e; simp at this; omega)) fun heq => ?_
  refine LoopVC.of (fun st w' => ∃ i : Nat, st = (i : Int) ∧ i ≤ s.n ∧ (ra.map OptR.d).take i = (rb.map OptR.d).take i ∧ Ext w w') (fun st _ => ((s.n : Int) - st).toNat) ⟨0, rfl, Nat.zero_le _, rfl, Mod.refl _ _⟩ ?_
  rintro _ w1 ⟨i, rfl, hi, ht, hE⟩
  unfold weirref6_SameOpts_L58
  refine Br.dec (fun hlt => ?_) fun hge => ?_
  · have hra : ra[i]? = some ra[i] := List.getElem?_eq_getElem (by omega)
    have hrb : rb[i]? = some rb[i] := List.getElem?_eq_getElem (by omega)
    have hda : (ra.map OptR.d)[i]? = some ra[i].d := by rw [List.getElem?_map, hra]; rfl
    have hdb : (rb.map OptR.d)[i]? = some rb[i].d := by rw [List.getElem?_map, hrb]; rfl
    refine DrawVC.of (fun w' => OptsAt w' s ra ∧ OptsAt w' t rb) fun w2 hE2 _ => ⟨⟨ha.ext (hE.trans hE2), hb.ext (hE.trans hE2)⟩, ?_⟩
    have hE := hE.trans hE2
    have hS2 : OptsAt w2 s ra ∧ OptsAt w2 t rb := ⟨ha.ext hE, hb.ext hE⟩
    refine OptsAt.idxD (S := fun w' => OptsAt w' s ra ∧ OptsAt w' t rb) hS2 (fun w' h => h.1) hra fun a hca => ⟨_, _, _, fun w' h => c1 (hca w' h), ?_⟩
    refine OptsAt.idxD (S := fun w' => OptsAt w' s ra ∧ OptsAt w' t rb) hS2 (fun w' h => h.2) hrb fun b hcb => ⟨_, _, _, fun w' h => c1 (hcb w' h), ?_⟩
    refine (alike6_spec (s := ra[i].v.data) (t := rb[i].v.data) ((ha.each _ (List.getElem_mem _)).ext hE) ((hb.each _ (List.getElem_mem _)).ext hE)).mono ?_
    rintro _ w3 ⟨rfl, rfl⟩
    refine ⟨_, rfl, hS2, DrawVC.of (fun w' => OptsAt w' s ra ∧ OptsAt w' t rb) fun w4 hE4 _ => ⟨⟨ha.ext (hE.trans hE4), hb.ext (hE.trans hE4)⟩, ?_⟩⟩
    have hE := hE.trans hE4
    have hS4 : OptsAt w4 s ra ∧ OptsAt w4 t rb := ⟨ha.ext hE, hb.ext hE⟩
    refine OptsAt.idxD (S := fun w' => OptsAt w' s ra ∧ OptsAt w' t rb) hS4 (fun w' h => h.1) hra fun a hca => ⟨_, fun w' h => c0 (hca w' h), ?_⟩
    refine OptsAt.idxD (S := fun w' => OptsAt w' s ra ∧ OptsAt w' t rb) hS4 (fun w' h => h.2) hrb fun b hcb => ⟨_, fun w' h => c0 (hcb w' h), ?_⟩
    refine Br.dec (fun hk => Tells.no hE (takes_ne hda hdb (optD_ne fun x => hk x.1))) fun hk => ?_
    by_cases hd : ra[i].data = rb[i].data
    · rw [decide_eq_true hd]
      refine Br.f rfl ?_
      rw [w64 (by omega) (by omega)]
      refine ⟨⟨i + 1, by omega, by omega, takes_step hda hdb ht ?_, hE⟩, by omega⟩
      have hk : ra[i].v.kind = rb[i].v.kind := Classical.not_not.1 hk
      unfold OptR.d; rw [hk, hd]
    · rw [decide_eq_false hd]
      exact Br.t rfl (Tells.no hE (takes_ne hda hdb (optD_ne fun x => hd x.2)))
  · refine Tells.yes hE ?_
    rwa [List.take_of_length_le (by simp; omega), List.take_of_length_le (by simp; omega)] at ht
set_option maxHeartbeats 1000000 in
theorem sameOpts7_spec {ra rb : List OptR} (ha : OptsAt w s ra) (hb : OptsAt w t rb) : Calls Tryz.prog 94 #[s.val, t.val] w (Tells w (ra.map OptR.d = rb.map OptR.d)) := by
  refine weirref7_SameOpts_of s.A s.n s.k t.A t.n t.k w _ ?_
  unfold weirref7_SameOpts_VC
  have la := ha.len
  have lb := hb.len
  have hs := ha.small
  refine Br.dec (fun hne => Tells.no (Mod.refl _ _) fun e => hne (by have := congrArg List.length e; simp at this; omega)) fun heq => ?_
  refine LoopVC.of (fun st w' => ∃ i : Nat, st = (i : Int) ∧ i ≤ s.n ∧ (ra.map OptR.d).take i = (rb.map OptR.d).take i ∧ Ext w w') (fun st _ => ((s.n : Int) - st).toNat) ⟨0, rfl, Nat.zero_le _, rfl, Mod.refl _ _⟩ ?_
  rintro _ w1 ⟨i, rfl, hi, ht, hE⟩
  unfold weirref7_SameOpts_L58
  refine Br.dec (fun hlt => ?_) fun hge => ?_
  · have hra : ra[i]? = some ra[i] := List.getElem?_eq_getElem (by omega)
    have hrb : rb[i]? = some rb[i] := List.getElem?_eq_getElem (by omega)
    have hda : (ra.map OptR.d)[i]? = some ra[i].d := by rw [List.getElem?_map, hra]; rfl
    have hdb : (rb.map OptR.d)[i]? = some rb[i].d := by rw [List.getElem?_map, hrb]; rfl
    refine DrawVC.of (fun w' => OptsAt w' s ra ∧ OptsAt w' t rb) fun w2 hE2 _ => ⟨⟨ha.ext (hE.trans hE2), hb.ext (hE.trans hE2)⟩, ?_⟩
    have hE := hE.trans hE2
    have hS2 : OptsAt w2 s ra ∧ OptsAt w2 t rb := ⟨ha.ext hE, hb.ext hE⟩
    refine OptsAt.idxD (S := fun w' => OptsAt w' s ra ∧ OptsAt w' t rb) hS2 (fun w' h => h.1) hra fun a hca => ⟨_, fun w' h => c0 (hca w' h), ?_⟩
    refine OptsAt.idxD (S := fun w' => OptsAt w' s ra ∧ OptsAt w' t rb) hS2 (fun w' h => h.2) hrb fun b hcb => ⟨_, fun w' h => c0 (hcb w' h), ?_⟩
    refine Br.dec (fun hk => Tells.no hE (takes_ne hda hdb (optD_ne fun x => hk x.1))) fun hk => ?_
    refine OptsAt.idxD (S := fun w' => OptsAt w' s ra ∧ OptsAt w' t rb) hS2 (fun w' h => h.1) hra fun a hca => ⟨_, _, _, fun w' h => c1 (hca w' h), ?_⟩
    refine OptsAt.idxD (S := fun w' => OptsAt w' s ra ∧ OptsAt w' t rb) hS2 (fun w' h => h.2) hrb fun b hcb => ⟨_, _, _, fun w' h => c1 (hcb w' h), ?_⟩
    refine (alike7_spec (s := ra[i].v.data) (t := rb[i].v.data) ((ha.each _ (List.getElem_mem _)).ext hE) ((hb.each _ (List.getElem_mem _)).ext hE)).mono ?_
    rintro _ w3 ⟨rfl, rfl⟩
    refine ⟨_, rfl, hS2, ?_⟩
    by_cases hd : ra[i].data = rb[i].data
    · rw [decide_eq_true hd]
      refine Br.f rfl ?_
      rw [w64 (by omega) (by omega)]
      refine ⟨⟨i + 1, by omega, by omega, takes_step hda hdb ht ?_, hE⟩, by omega⟩
      have hk : ra[i].v.kind = rb[i].v.kind := Classical.not_not.1 hk
      unfold OptR.d; rw [hk, hd]
    · rw [decide_eq_false hd]
      exact Br.t rfl (Tells.no hE (takes_ne hda hdb (optD_ne fun x => hd x.2)))
  · refine Tells.yes hE ?_
    rwa [List.take_of_length_le (by simp; omega), List.take_of_length_le (by simp; omega)] at ht
set_option maxHeartbeats 1000000 in
theorem sameExts7_spec {ra rb : List ExtR} (ha : ExtsAt w s ra) (hb : ExtsAt w t rb) : Calls Tryz.prog 81 #[s.val, t.val] w (Tells w (ra.map ExtR.d = rb.map ExtR.d)) := by
  refine weirref7_SameExts_of s.A s.n s.k t.A t.n t.k w _ ?_
  unfold weirref7_SameExts_VC
  have la := ha.len
  have lb := hb.len
  have hs := ha.small
  refine Br.dec (fun hne => Tells.no (Mod.refl _ _) fun e => hne (by have := congrArg List.length e; simp at this; omega)) fun heq => ?_
  refine LoopVC.of (fun st w' => ∃ i : Nat, st = (i : Int) ∧ i ≤ s.n ∧ (ra.map ExtR.d).take i = (rb.map ExtR.d).take i ∧ Ext w w') (fun st _ => ((s.n : Int) - st).toNat) ⟨0, rfl, Nat.zero_le _, rfl, Mod.refl _ _⟩ ?_
  rintro _ w1 ⟨i, rfl, hi, ht, hE⟩
  unfold weirref7_SameExts_L58
  refine Br.dec (fun hlt => ?_) fun hge => ?_
  · have hra : ra[i]? = some ra[i] := List.getElem?_eq_getElem (by omega)
    have hrb : rb[i]? = some rb[i] := List.getElem?_eq_getElem (by omega)
    have hda : (ra.map ExtR.d)[i]? = some ra[i].d := by rw [List.getElem?_map, hra]; rfl
    have hdb : (rb.map ExtR.d)[i]? = some rb[i].d := by rw [List.getElem?_map, hrb]; rfl
    refine DrawVC.of (fun w' => ExtsAt w' s ra ∧ ExtsAt w' t rb) fun w2 hE2 _ => ⟨⟨ha.ext (hE.trans hE2), hb.ext (hE.trans hE2)⟩, ?_⟩
    have hE := hE.trans hE2
    have hS2 : ExtsAt w2 s ra ∧ ExtsAt w2 t rb := ⟨ha.ext hE, hb.ext hE⟩
    refine ExtsAt.idxD (S := fun w' => ExtsAt w' s ra ∧ ExtsAt w' t rb) hS2 (fun w' h => h.1) hra fun a hca => ⟨_, fun w' h => c0 (hca w' h), ?_⟩
    refine ExtsAt.idxD (S := fun w' => ExtsAt w' s ra ∧ ExtsAt w' t rb) hS2 (fun w' h => h.2) hrb fun b hcb => ⟨_, fun w' h => c0 (hcb w' h), ?_⟩
    refine Br.dec (fun hk => Tells.no hE (takes_ne hda hdb (extD_ne fun x => hk x.1))) fun hk => ?_
    refine ExtsAt.idxD (S := fun w' => ExtsAt w' s ra ∧ ExtsAt w' t rb) hS2 (fun w' h => h.1) hra fun a hca => ⟨_, _, _, fun w' h => c2 (hca w' h), ?_⟩
    refine ExtsAt.idxD (S := fun w' => ExtsAt w' s ra ∧ ExtsAt w' t rb) hS2 (fun w' h => h.2) hrb fun b hcb => ⟨_, _, _, fun w' h => c2 (hcb w' h), ?_⟩
    refine (alike7_spec (s := ra[i].v.data) (t := rb[i].v.data) ((ha.data _ (List.getElem_mem _)).ext hE) ((hb.data _ (List.getElem_mem _)).ext hE)).mono ?_
    rintro _ w3 ⟨rfl, rfl⟩
    refine ⟨_, rfl, hS2, ?_⟩
    by_cases hd : ra[i].data = rb[i].data
    · rw [decide_eq_true hd]
      refine Br.f rfl ?_
      refine ExtsAt.idxD (S := fun w' => ExtsAt w' s ra ∧ ExtsAt w' t rb) hS2 (fun w' h => h.1) hra fun a hca => ⟨_, _, _, fun w' h => c1 (hca w' h), ?_⟩
      refine ExtsAt.idxD (S := fun w' => ExtsAt w' s ra ∧ ExtsAt w' t rb) hS2 (fun w' h => h.2) hrb fun b hcb => ⟨_, _, _, fun w' h => c1 (hcb w' h), ?_⟩
      refine (sameOpts7_spec (s := ra[i].v.opts) (t := rb[i].v.opts) ((ha.opts _ (List.getElem_mem _)).ext hE) ((hb.opts _ (List.getElem_mem _)).ext hE)).mono ?_
      rintro _ w4 ⟨b, rfl, hbt, hE4⟩
      have hE := hE.trans hE4
      refine ⟨_, rfl, ⟨ha.ext hE, hb.ext hE⟩, ?_⟩
      cases b with
      | true =>
        refine Br.f rfl ?_
        rw [w64 (by omega) (by omega)]
        refine ⟨⟨i + 1, by omega, by omega, takes_step hda hdb ht ?_, hE⟩, by omega⟩
        have hk : ra[i].v.kind = rb[i].v.kind := Classical.not_not.1 hk
        unfold ExtR.d; rw [hk, hd, hbt.1 rfl]
      | false => exact Br.t rfl (Tells.no hE (takes_ne hda hdb (extD_ne fun x => by have := hbt.2 x.2.1; cases this)))
    · rw [decide_eq_false hd]
      exact Br.t rfl (Tells.no hE (takes_ne hda hdb (extD_ne fun x => hd x.2.2)))
  · refine Tells.yes hE ?_
    rwa [List.take_of_length_le (by simp; omega), List.take_of_length_le (by simp; omega)] at ht
end
end N6
end Go.Proofs.YteppichfkeknbaaGreatDoor
/- The options with the highest bit set: the law's loop and the document's, which read alike. -/
namespace Go.Proofs.YteppichfkeknbaaGreatDoor
namespace N6
open Go.Eng Go.RowKit
def hiL (R : Ending → World → Prop) (lA : Option Addr) (ln : Nat) (mA : Option Addr) (mn : Nat) (mc : Nat) (i : Int) (w1 : World) (K58 : ((Option Addr × Nat × Nat) × Int → World → Prop)) : Prop :=
  Br (decide (i < (ln : Int)))
    (IdxVC lA ln 2 i fun a =>
  ∃ x : Int, w1.cell? a = some (.int .i64 x) ∧
  Br (decide ((128 : Int) ≤ x))
    (IdxVC lA ln 2 i fun a1 =>
    OptV.ex fun h => CellsAt w1 a1 0 h.cells ∧
    NewVC w1 (.cells h.cells.toArray 100) fun g1 w2 =>
    AppVC Tryz.prog #[25, 25] 25 (.slice mA mn mc) (.slice (some ⟨g1, 0, none⟩) 1 1) w2 fun lA1 ln1 lc1 w3 =>
    K58 ((lA1, ln1, lc1), IntKind.i64.wrap (i + 1)) w3)
    (K58 ((mA, mn, mc), IntKind.i64.wrap (i + 1)) w1))
    (R (.returned (.slice mA mn mc)) w1)
section
variable {w : World} {s : Sl}
theorem OptsAt.idxR {rs : List OptR} (hO : OptsAt w s rs) {i : Nat} {r : OptR} (hi : rs[i]? = some r) {F : Addr → Prop} (hF : ∀ a, CellsAt w a 0 r.v.cells → F a) : IdxVC s.A s.n 2 (i : Int) F :=
  OptsAt.idxD (S := fun w' => w' = w) rfl (fun w' e => by subst e; exact hO) hi fun a ha => hF a (ha w rfl)
def High (w : World) (rs : List OptR) (e : Ending) (w' : World) : Prop := ∃ (s' : Sl) (rs' : List OptR), e = .returned s'.val ∧ rs'.map OptR.d = (rs.map OptR.d).filter hi ∧ (∀ r ∈ rs', r ∈ rs) ∧ rs'.length = s'.n ∧ s'.n ≤ 4000000 ∧ s'.n ≤ s'.k ∧
    Sep [Fct.rest w None, rowO w.heap.size s' rs'] w'
theorem high_vc {rs : List OptR} (hO : OptsAt w s rs) : LoopVC (S := (Option Addr × Nat × Nat) × Int) (fun s_ w1 K58 => hiL (High w rs) s.A s.n s_.1.1 s_.1.2.1 s_.1.2.2 s_.2 w1 K58) ((none, 0, 0), 0) w := by
  have hl := hO.len
  have hsm := hO.small
  refine LoopVC.of (fun st w' => ∃ (i : Nat) (rs' : List OptR), st.2 = i ∧ i ≤ s.n ∧ rs'.map OptR.d = ((rs.take i).map OptR.d).filter hi ∧ (∀ r ∈ rs', r ∈ rs) ∧ rs'.length = st.1.2.1 ∧ st.1.2.1 ≤ i ∧
      Sep [Fct.rest w None, rowO w.heap.size ⟨st.1.1, st.1.2.1, st.1.2.2⟩ rs'] w') (fun st _ => ((s.n : Int) - st.2).toNat)
    ⟨0, [], rfl, Nat.zero_le _, rfl, (fun r hr => by cases hr), rfl, Nat.zero_le _, (Sep.start0 w).nil _ _ _⟩ ?_
  rintro ⟨⟨A1, n1, c1⟩, _⟩ w1 ⟨i, rs', rfl, hi', hd, hsub, hlen, hn1, H⟩
  simp only at hn1 hlen
  show hiL _ s.A s.n A1 n1 c1 (i : Int) w1 _
  unfold hiL
  refine Br.dec (fun hlt => ?_) fun hge => ?_
  · have hr : rs[i]? = some rs[i] := List.getElem?_eq_getElem (by omega)
    have hO1 := hO.ext (H.restOf 0 rfl)
    have htake : rs.take (i + 1) = rs.take i ++ [rs[i]] := by rw [List.take_add_one, hr]; rfl
    have hi1 : IntKind.i64.wrap ((i : Int) + 1) = ((i + 1 : Nat) : Int) := by rw [w64 (by omega) (by omega)]; omega
    refine OptsAt.idxR hO1 hr fun a ha => ⟨_, c0 ha, Br.dec (fun hk => ?_) fun hk => ?_⟩
    · refine OptsAt.idxR hO1 hr fun a ha => OptV.of rs[i].v ⟨ha, NewVC.sep H fun g1 w2 H => ?_⟩
      have hz2 := (H.restOf 0 rfl).size
      refine appO (o := rs[i].v) H 1 rfl (Cells.blk0 (H.blk 2 rfl)) (show n1 ≤ 1000000000 by omega) (by omega) fun A2 c2 w3 H hc2 => ⟨⟨i + 1, rs' ++ [rs[i]], hi1, by omega, ?_, ?_, ?_, by simp only; omega, ?_⟩, by simp only [hi1]; omega⟩
      · rw [htake, List.map_append, List.map_append, List.filter_append, hd]
        have : hi rs[i].d = true := decide_eq_true hk
        simp [this]
      · intro r hr
        rcases List.mem_append.1 hr with hr | hr
        · exact hsub r hr
        · simp at hr; subst hr; exact List.getElem_mem _
      · simp only [List.length_append, hlen]; rfl
      · have H := H.take 2
        simp only [rowO, List.map_append, List.flatten_append, List.map_cons, List.map_nil, List.flatten_cons, List.flatten_nil, List.append_nil]
        exact H
    · refine ⟨⟨i + 1, rs', hi1, by omega, ?_, hsub, hlen, by simp only; omega, H⟩, by simp only [hi1]; omega⟩
      rw [htake, List.map_append, List.filter_append, hd]
      have : hi rs[i].d = false := decide_eq_false hk
      simp [this]
  · have hin : i = s.n := by omega
    exact ⟨⟨A1, n1, c1⟩, rs', rfl, by rw [hd, hin, ← hl, List.take_length], hsub, hlen, by show n1 ≤ 4000000; omega, own_le (H.own 1 rfl), H⟩
end
end N6
end Go.Proofs.YteppichfkeknbaaGreatDoor
/- Whether two datagrams hold the same, or two lists of them. -/
namespace Go.Proofs.YteppichfkeknbaaGreatDoor
namespace N6
open Go.Eng Go.RowKit
section
variable {w : World} {s t : Sl}
theorem ip4_key {a b : Ip4V} {oa ob : List OptR} {da db : List Int} : a.d oa da = b.d ob db ↔ (a.tos = b.tos ∧ a.id = b.id ∧ a.df = b.df ∧ a.mf = b.mf ∧ a.off = b.off ∧ a.ttl = b.ttl ∧ a.proto = b.proto ∧ a.src = b.src ∧ a.dst = b.dst ∧ oa.map OptR.d = ob.map OptR.d ∧ da = db) := by
  unfold Ip4V.d; simp only [Ip4D.mk.injEq]
theorem ip6_key {a b : Ip6V} {oa ob : List ExtR} {da db : List Int} : a.d oa da = b.d ob db ↔ (a.cls = b.cls ∧ a.flow = b.flow ∧ a.hop = b.hop ∧ a.src = b.src ∧ a.dst = b.dst ∧ oa.map ExtR.d = ob.map ExtR.d ∧ a.frag = b.frag ∧ a.next = b.next ∧ da = db) := by
  unfold Ip6V.d; simp only [Ip6D.mk.injEq]
theorem ip6_src {g : Nat} {w' : World} {h : Ip6V} (hb : Blk w' g 33 h.cells) : CellsAt w' ⟨g, 3, none⟩ 0 h.src.cells := ⟨hb.cell 3, hb.cell 4, hb.cell 5, hb.cell 6, hb.cell 7, hb.cell 8, hb.cell 9, hb.cell 10, hb.cell 11, hb.cell 12, hb.cell 13, hb.cell 14, hb.cell 15, hb.cell 16, hb.cell 17, hb.cell 18, hb.cell 19, trivial⟩
theorem ip6_dst {g : Nat} {w' : World} {h : Ip6V} (hb : Blk w' g 33 h.cells) : CellsAt w' ⟨g, 20, none⟩ 0 h.dst.cells := ⟨hb.cell 20, hb.cell 21, hb.cell 22, hb.cell 23, hb.cell 24, hb.cell 25, hb.cell 26, hb.cell 27, hb.cell 28, hb.cell 29, hb.cell 30, hb.cell 31, hb.cell 32, hb.cell 33, hb.cell 34, hb.cell 35, hb.cell 36, trivial⟩
theorem ip6_frg {g : Nat} {w' : World} {h : Ip6V} (hb : Blk w' g 33 h.cells) : CellsAt w' ⟨g, 38, none⟩ 0 h.frag.cells := ⟨hb.cell 38, hb.cell 39, hb.cell 40, hb.cell 41, trivial⟩
theorem bne_br {x y : Bool} {A B : Prop} (h1 : x ≠ y → A) (h2 : x = y → B) : Br (!(x == y)) A B := by
  by_cases e : x = y
  · exact Br.f (by simp [e]) (h2 e)
  · exact Br.t (by cases x <;> cases y <;> simp_all) (h1 e)
theorem ipv_br {x y : IPV} {A B : Prop} (h1 : x ≠ y → A) (h2 : x = y → B) : Br (!(IPV.beq x y)) A B := by
  cases hb : IPV.beq x y with
  | true => exact Br.f rfl (h2 (ipv_beq.1 hb))
  | false => exact Br.t rfl (h1 fun e => by rw [ipv_beq.2 e] at hb; cases hb)
theorem frag_br {x y : FragV} {A B : Prop} (h1 : x ≠ y → A) (h2 : x = y → B) : Br (!(FragV.beq x y)) A B := by
  cases hb : FragV.beq x y with
  | true => exact Br.f rfl (h2 (frag_beq.1 hb))
  | false => exact Br.t rfl (h1 fun e => by rw [frag_beq.2 e] at hb; cases hb)
set_option maxHeartbeats 1000000 in
theorem same4_spec {a b : Ip4V} {oa ob : List OptR} {da db : List Int} (ha : Ip4At w a oa da) (hb : Ip4At w b ob db) : Calls Tryz.prog 43 #[a.val, b.val] w (Tells w (a.d oa da = b.d ob db)) := by
  refine weirref6_Same_of a b w _ ?_
  unfold weirref6_Same_VC
  refine NewVC.sep (Sep.start0 w) fun g1 w1 H => NewVC.sep H fun g2 w2 H => ?_
  have no : ¬ a.d oa da = b.d ob db → Tells w (a.d oa da = b.d ob db) (.returned (.bool false)) w2 := fun h => Tells.no (H.restOf 0 rfl) h
  refine ⟨_, H.cell 1 rfl 0 rfl, _, H.cell 2 rfl 0 rfl, Br.dec (fun h => no fun e => h (ip4_key.1 e).1) fun k1 => ?_⟩
  refine ⟨_, H.cell 1 rfl 1 rfl, _, H.cell 2 rfl 1 rfl, Br.dec (fun h => no fun e => h (ip4_key.1 e).2.1) fun k2 => ?_⟩
  refine ⟨_, H.cell 1 rfl 2 rfl, _, H.cell 2 rfl 2 rfl, bne_br (fun h => no fun e => h (ip4_key.1 e).2.2.1) fun k3 => ?_⟩
  refine ⟨_, H.cell 1 rfl 3 rfl, _, H.cell 2 rfl 3 rfl, bne_br (fun h => no fun e => h (ip4_key.1 e).2.2.2.1) fun k4 => ?_⟩
  refine ⟨_, H.cell 1 rfl 4 rfl, _, H.cell 2 rfl 4 rfl, Br.dec (fun h => no fun e => h (ip4_key.1 e).2.2.2.2.1) fun k5 => ?_⟩
  refine ⟨_, H.cell 1 rfl 5 rfl, _, H.cell 2 rfl 5 rfl, Br.dec (fun h => no fun e => h (ip4_key.1 e).2.2.2.2.2.1) fun k6 => ?_⟩
  refine ⟨_, H.cell 1 rfl 6 rfl, _, H.cell 2 rfl 6 rfl, Br.dec (fun h => no fun e => h (ip4_key.1 e).2.2.2.2.2.2.1) fun k7 => ?_⟩
  refine IPV.of a.src ⟨ip4_src (H.blk 1 rfl), IPV.of b.src ⟨ip4_src (H.blk 2 rfl), ipv_br (fun h => no fun e => h (ip4_key.1 e).2.2.2.2.2.2.2.1) fun k8 => ?_⟩⟩
  refine IPV.of a.dst ⟨ip4_dst (H.blk 1 rfl), IPV.of b.dst ⟨ip4_dst (H.blk 2 rfl), ipv_br (fun h => no fun e => h (ip4_key.1 e).2.2.2.2.2.2.2.2.1) fun k9 => ?_⟩⟩
  refine ⟨_, _, _, H.cell 1 rfl 41 rfl, _, _, _, H.cell 2 rfl 41 rfl, ?_⟩
  refine (sameOpts6_spec (s := a.opts) (t := b.opts) (ha.opts.ext (H.restOf 0 rfl)) (hb.opts.ext (H.restOf 0 rfl))).mono ?_
  rintro _ w3 ⟨x, rfl, hx, hE3⟩
  have H := H.ext hE3
  refine ⟨_, rfl, ?_⟩
  cases x with
  | false => exact Br.f rfl (Tells.no (H.restOf 0 rfl) fun e => by have := hx.2 (ip4_key.1 e).2.2.2.2.2.2.2.2.2.1; cases this)
  | true =>
    refine Br.t rfl ⟨_, _, _, H.cell 1 rfl 42 rfl, _, _, _, H.cell 2 rfl 42 rfl, ?_⟩
    refine (alike6_spec (s := a.data) (t := b.data) (ha.data.ext (H.restOf 0 rfl)) (hb.data.ext (H.restOf 0 rfl))).mono ?_
    rintro _ w4 ⟨rfl, rfl⟩
    refine ⟨_, rfl, _, rfl, ?_, H.restOf 0 rfl⟩
    rw [decide_eq_true_eq, ip4_key]
    exact ⟨fun h => ⟨Classical.not_not.1 k1, Classical.not_not.1 k2, k3, k4, Classical.not_not.1 k5, Classical.not_not.1 k6, Classical.not_not.1 k7, k8, k9, hx.1 rfl, h⟩, fun h => h.2.2.2.2.2.2.2.2.2.2⟩
set_option maxHeartbeats 1000000 in
theorem same6_spec {a b : Ip6V} {oa ob : List ExtR} {da db : List Int} (ha : Ip6At w a oa da) (hb : Ip6At w b ob db) : Calls Tryz.prog 44 #[a.val, b.val] w (Tells w (a.d oa da = b.d ob db)) := by
  refine weirref7_Same_of a b w _ ?_
  unfold weirref7_Same_VC
  refine NewVC.sep (Sep.start0 w) fun g1 w1 H => NewVC.sep H fun g2 w2 H => ?_
  have no : ¬ a.d oa da = b.d ob db → Tells w (a.d oa da = b.d ob db) (.returned (.bool false)) w2 := fun h => Tells.no (H.restOf 0 rfl) h
  refine ⟨_, H.cell 1 rfl 0 rfl, _, H.cell 2 rfl 0 rfl, Br.dec (fun h => no fun e => h (ip6_key.1 e).1) fun k1 => ?_⟩
  refine ⟨_, H.cell 1 rfl 1 rfl, _, H.cell 2 rfl 1 rfl, Br.dec (fun h => no fun e => h (ip6_key.1 e).2.1) fun k2 => ?_⟩
  refine ⟨_, H.cell 1 rfl 2 rfl, _, H.cell 2 rfl 2 rfl, Br.dec (fun h => no fun e => h (ip6_key.1 e).2.2.1) fun k3 => ?_⟩
  refine IPV.of a.src ⟨ip6_src (H.blk 1 rfl), IPV.of b.src ⟨ip6_src (H.blk 2 rfl), ipv_br (fun h => no fun e => h (ip6_key.1 e).2.2.2.1) fun k4 => ?_⟩⟩
  refine IPV.of a.dst ⟨ip6_dst (H.blk 1 rfl), IPV.of b.dst ⟨ip6_dst (H.blk 2 rfl), ipv_br (fun h => no fun e => h (ip6_key.1 e).2.2.2.2.1) fun k5 => ?_⟩⟩
  refine FragV.of a.frag ⟨ip6_frg (H.blk 1 rfl), FragV.of b.frag ⟨ip6_frg (H.blk 2 rfl), frag_br (fun h => no fun e => h (ip6_key.1 e).2.2.2.2.2.2.1) fun k6 => ?_⟩⟩
  refine ⟨_, H.cell 1 rfl 42 rfl, _, H.cell 2 rfl 42 rfl, Br.dec (fun h => no fun e => h (ip6_key.1 e).2.2.2.2.2.2.2.1) fun k7 => ?_⟩
  refine ⟨_, _, _, H.cell 1 rfl 37 rfl, _, _, _, H.cell 2 rfl 37 rfl, ?_⟩
  refine (sameExts7_spec (s := a.exts) (t := b.exts) (ha.exts.ext (H.restOf 0 rfl)) (hb.exts.ext (H.restOf 0 rfl))).mono ?_
  rintro _ w3 ⟨x, rfl, hx, hE3⟩
  have H := H.ext hE3
  refine ⟨_, rfl, ?_⟩
  cases x with
  | false => exact Br.f rfl (Tells.no (H.restOf 0 rfl) fun e => by have := hx.2 (ip6_key.1 e).2.2.2.2.2.1; cases this)
  | true =>
    refine Br.t rfl ⟨_, _, _, H.cell 1 rfl 43 rfl, _, _, _, H.cell 2 rfl 43 rfl, ?_⟩
    refine (alike7_spec (s := a.data) (t := b.data) (ha.data.ext (H.restOf 0 rfl)) (hb.data.ext (H.restOf 0 rfl))).mono ?_
    rintro _ w4 ⟨rfl, rfl⟩
    refine ⟨_, rfl, _, rfl, ?_, H.restOf 0 rfl⟩
    rw [decide_eq_true_eq, ip6_key]
    exact ⟨fun h => ⟨Classical.not_not.1 k1, Classical.not_not.1 k2, Classical.not_not.1 k3, k4, k5, hx.1 rfl, k6, Classical.not_not.1 k7, h⟩, fun h => h.2.2.2.2.2.2.2.2⟩
/-- Datagrams that lie there, one behind the other. -/
structure Ip4sAt (w : World) (s : Sl) (rs : List Ip4R) : Prop where
  len : rs.length = s.n
  cap : s.n ≤ s.k
  small : s.n ≤ 4000001
  recs : Recs w s.A 43 (rs.map fun r => r.v.cells)
  each : ∀ r ∈ rs, Ip4At w r.v r.opts r.data
structure Ip6sAt (w : World) (s : Sl) (rs : List Ip6R) : Prop where
  len : rs.length = s.n
  cap : s.n ≤ s.k
  small : s.n ≤ 4000001
  recs : Recs w s.A 44 (rs.map fun r => r.v.cells)
  each : ∀ r ∈ rs, Ip6At w r.v r.exts r.data
theorem Ip4sAt.ext {w' : World} {rs : List Ip4R} (h : Ip4sAt w s rs) (hE : Ext w w') : Ip4sAt w' s rs := { h with recs := h.recs.ext hE, each := fun r hr => (h.each r hr).ext hE }
theorem Ip6sAt.ext {w' : World} {rs : List Ip6R} (h : Ip6sAt w s rs) (hE : Ext w w') : Ip6sAt w' s rs := { h with recs := h.recs.ext hE, each := fun r hr => (h.each r hr).ext hE }
theorem ip4sAt_of {b : Nat} {rs : List Ip4R} (h : ∀ f ∈ ip4Fs b s rs, f.φ w) (hf : Ip4sFine s rs) : Ip4sAt w s rs := by
  have h0 := h (rowI4 b s rs) (by simp [ip4Fs])
  refine ⟨hf.len, own_le h0, hf.small, Recs.of_cells (by decide) (fun r hr => ?_) (own_cells (A := s.A) (c := s.k) h0), fun r hr => ip4At_of h hf hr⟩
  obtain ⟨x, _, rfl⟩ := List.mem_map.1 hr; rfl
theorem ip6sAt_of {b : Nat} {rs : List Ip6R} (h : ∀ f ∈ ip6Fs b s rs, f.φ w) (hf : Ip6sFine s rs) : Ip6sAt w s rs := by
  have h0 := h (rowI6 b s rs) (by simp [ip6Fs])
  refine ⟨hf.len, own_le h0, hf.small, Recs.of_cells (by decide) (fun r hr => ?_) (own_cells (A := s.A) (c := s.k) h0), fun r hr => ip6At_of h hf hr⟩
  obtain ⟨x, _, rfl⟩ := List.mem_map.1 hr; rfl
theorem Cut4.at {w' : World} {r : List Ip4D × Int} {e : Ending} (h : Cut4 w r e w') : ∃ (s' : Sl) (rs : List Ip4R), e = .returned (.tuple #[s'.val, .int .i64 r.2]) ∧ rs.map Ip4R.d = r.1 ∧ Ip4sAt w' s' rs ∧ Ext w w' := by
  obtain ⟨s', rs, he, hd, hf, H⟩ := h
  exact ⟨s', rs, he, hd, ip4sAt_of (fun f hf => H.mem (List.mem_cons_of_mem _ hf)) hf, H.start1⟩
theorem Cut6.at {w' : World} {r : List Ip6D × Int} {e : Ending} (h : Cut6 w r e w') : ∃ (s' : Sl) (rs : List Ip6R), e = .returned (.tuple #[s'.val, .int .i64 r.2]) ∧ rs.map Ip6R.d = r.1 ∧ Ip6sAt w' s' rs ∧ Ext w w' := by
  obtain ⟨s', rs, he, hd, hf, H⟩ := h
  exact ⟨s', rs, he, hd, ip6sAt_of (fun f hf => H.mem (List.mem_cons_of_mem _ hf)) hf, H.start1⟩
theorem Ip4sAt.idxD {S : World → Prop} {rs : List Ip4R} (hw : S w) (hS : ∀ w', S w' → Ip4sAt w' s rs) {i : Nat} {r : Ip4R} (hi : rs[i]? = some r) {F : Addr → Prop} (hF : ∀ a, (∀ w', S w' → CellsAt w' a 0 r.v.cells) → F a) : IdxVC s.A s.n 43 (i : Int) F :=
  IdxVC.recD S hw (fun w' h => (hS w' h).recs) (by simpa using (hS w hw).len) (cs := r.v.cells) (by rw [List.getElem?_map, hi]; rfl) hF
theorem Ip6sAt.idxD {S : World → Prop} {rs : List Ip6R} (hw : S w) (hS : ∀ w', S w' → Ip6sAt w' s rs) {i : Nat} {r : Ip6R} (hi : rs[i]? = some r) {F : Addr → Prop} (hF : ∀ a, (∀ w', S w' → CellsAt w' a 0 r.v.cells) → F a) : IdxVC s.A s.n 44 (i : Int) F :=
  IdxVC.recD S hw (fun w' h => (hS w' h).recs) (by simpa using (hS w hw).len) (cs := r.v.cells) (by rw [List.getElem?_map, hi]; rfl) hF
theorem Ip4sAt.idx {rs : List Ip4R} (h : Ip4sAt w s rs) {i : Nat} {r : Ip4R} (hi : rs[i]? = some r) {F : Addr → Prop} (hF : ∀ a, CellsAt w a 0 r.v.cells → F a) : IdxVC s.A s.n 43 (i : Int) F :=
  Ip4sAt.idxD (S := fun w' => w' = w) rfl (fun w' e => by subst e; exact h) hi fun a ha => hF a (ha w rfl)
theorem Ip6sAt.idx {rs : List Ip6R} (h : Ip6sAt w s rs) {i : Nat} {r : Ip6R} (hi : rs[i]? = some r) {F : Addr → Prop} (hF : ∀ a, CellsAt w a 0 r.v.cells → F a) : IdxVC s.A s.n 44 (i : Int) F :=
  Ip6sAt.idxD (S := fun w' => w' = w) rfl (fun w' e => by subst e; exact h) hi fun a ha => hF a (ha w rfl)
set_option maxHeartbeats 1000000 in
theorem sames4_spec {ra rb : List Ip4R} (ha : Ip4sAt w s ra) (hb : Ip4sAt w t rb) : Calls Tryz.prog 9 #[s.val, t.val] w (Tells w (ra.map Ip4R.d = rb.map Ip4R.d)) := by
  refine weirlaw13_same4_of s.A s.n s.k t.A t.n t.k w _ ?_
  unfold weirlaw13_same4_VC
  have la := ha.len
  have lb := hb.len
  have hs := ha.small
  refine Br.dec (fun hne => Tells.no (Mod.refl _ _) fun e => hne (by have := congrArg List.length e; simp at this; omega)) fun heq => ?_
  refine LoopVC.of (fun st w' => ∃ i : Nat, st = (i : Int) ∧ i ≤ s.n ∧ (ra.map Ip4R.d).take i = (rb.map Ip4R.d).take i ∧ Ext w w') (fun st _ => ((s.n : Int) - st).toNat) ⟨0, rfl, Nat.zero_le _, rfl, Mod.refl _ _⟩ ?_
  rintro _ w1 ⟨i, rfl, hi, ht, hE⟩
  unfold weirlaw13_same4_L58
  refine Br.dec (fun hlt => ?_) fun hge => ?_
  · have hra : ra[i]? = some ra[i] := List.getElem?_eq_getElem (by omega)
    have hrb : rb[i]? = some rb[i] := List.getElem?_eq_getElem (by omega)
    have hda : (ra.map Ip4R.d)[i]? = some ra[i].d := by rw [List.getElem?_map, hra]; rfl
    have hdb : (rb.map Ip4R.d)[i]? = some rb[i].d := by rw [List.getElem?_map, hrb]; rfl
    refine DrawVC.of (fun w' => Ip4sAt w' s ra ∧ Ip4sAt w' t rb) fun w2 hE2 _ => ⟨⟨ha.ext (hE.trans hE2), hb.ext (hE.trans hE2)⟩, ?_⟩
    have hE := hE.trans hE2
    have hS2 : Ip4sAt w2 s ra ∧ Ip4sAt w2 t rb := ⟨ha.ext hE, hb.ext hE⟩
    refine Ip4sAt.idxD (S := fun w' => Ip4sAt w' s ra ∧ Ip4sAt w' t rb) hS2 (fun w' h => h.1) hra fun a hca => Ip4V.of ra[i].v ⟨hca, ?_⟩
    refine Ip4sAt.idxD (S := fun w' => Ip4sAt w' s ra ∧ Ip4sAt w' t rb) hS2 (fun w' h => h.2) hrb fun b hcb => Ip4V.of rb[i].v ⟨hcb, ?_⟩
    refine (same4_spec (hS2.1.each _ (List.getElem_mem _)) (hS2.2.each _ (List.getElem_mem _))).mono ?_
    rintro _ w3 ⟨x, rfl, hx, hE3⟩
    have hE := hE.trans hE3
    refine ⟨_, rfl, ⟨ha.ext hE, hb.ext hE⟩, ?_⟩
    cases x with
    | true =>
      refine Br.f rfl ?_
      rw [w64 (by omega) (by omega)]
      exact ⟨⟨i + 1, by omega, by omega, takes_step hda hdb ht (hx.1 rfl), hE⟩, by omega⟩
    | false => exact Br.t rfl (Tells.no hE (takes_ne hda hdb fun e => by have := hx.2 e; cases this))
  · refine Tells.yes hE ?_
    rwa [List.take_of_length_le (by simp; omega), List.take_of_length_le (by simp; omega)] at ht
set_option maxHeartbeats 1000000 in
theorem sames6_spec {ra rb : List Ip6R} (ha : Ip6sAt w s ra) (hb : Ip6sAt w t rb) : Calls Tryz.prog 10 #[s.val, t.val] w (Tells w (ra.map Ip6R.d = rb.map Ip6R.d)) := by
  refine weirlaw13_same6_of s.A s.n s.k t.A t.n t.k w _ ?_
  unfold weirlaw13_same6_VC
  have la := ha.len
  have lb := hb.len
  have hs := ha.small
  refine Br.dec (fun hne => Tells.no (Mod.refl _ _) fun e => hne (by have := congrArg List.length e; simp at this; omega)) fun heq => ?_
  refine LoopVC.of (fun st w' => ∃ i : Nat, st = (i : Int) ∧ i ≤ s.n ∧ (ra.map Ip6R.d).take i = (rb.map Ip6R.d).take i ∧ Ext w w') (fun st _ => ((s.n : Int) - st).toNat) ⟨0, rfl, Nat.zero_le _, rfl, Mod.refl _ _⟩ ?_
  rintro _ w1 ⟨i, rfl, hi, ht, hE⟩
  unfold weirlaw13_same6_L58
  refine Br.dec (fun hlt => ?_) fun hge => ?_
  · have hra : ra[i]? = some ra[i] := List.getElem?_eq_getElem (by omega)
    have hrb : rb[i]? = some rb[i] := List.getElem?_eq_getElem (by omega)
    have hda : (ra.map Ip6R.d)[i]? = some ra[i].d := by rw [List.getElem?_map, hra]; rfl
    have hdb : (rb.map Ip6R.d)[i]? = some rb[i].d := by rw [List.getElem?_map, hrb]; rfl
    refine DrawVC.of (fun w' => Ip6sAt w' s ra ∧ Ip6sAt w' t rb) fun w2 hE2 _ => ⟨⟨ha.ext (hE.trans hE2), hb.ext (hE.trans hE2)⟩, ?_⟩
    have hE := hE.trans hE2
    have hS2 : Ip6sAt w2 s ra ∧ Ip6sAt w2 t rb := ⟨ha.ext hE, hb.ext hE⟩
    refine Ip6sAt.idxD (S := fun w' => Ip6sAt w' s ra ∧ Ip6sAt w' t rb) hS2 (fun w' h => h.1) hra fun a hca => Ip6V.of ra[i].v ⟨hca, ?_⟩
    refine Ip6sAt.idxD (S := fun w' => Ip6sAt w' s ra ∧ Ip6sAt w' t rb) hS2 (fun w' h => h.2) hrb fun b hcb => Ip6V.of rb[i].v ⟨hcb, ?_⟩
    refine (same6_spec (hS2.1.each _ (List.getElem_mem _)) (hS2.2.each _ (List.getElem_mem _))).mono ?_
    rintro _ w3 ⟨x, rfl, hx, hE3⟩
    have hE := hE.trans hE3
    refine ⟨_, rfl, ⟨ha.ext hE, hb.ext hE⟩, ?_⟩
    cases x with
    | true =>
      refine Br.f rfl ?_
      rw [w64 (by omega) (by omega)]
      exact ⟨⟨i + 1, by omega, by omega, takes_step hda hdb ht (hx.1 rfl), hE⟩, by omega⟩
    | false => exact Br.t rfl (Tells.no hE (takes_ne hda hdb fun e => by have := hx.2 e; cases this))
  · refine Tells.yes hE ?_
    rwa [List.take_of_length_le (by simp; omega), List.take_of_length_le (by simp; omega)] at ht
end
end N6
end Go.Proofs.YteppichfkeknbaaGreatDoor
/- The two datagrams that are asked first, and what is told of them. -/
namespace Go.Eng
open Go Go.RowKit
def bytesN (n : Nat) : List Int := (List.range n).map fun k => ((k % 256 : Nat) : Int)
theorem bytesN_len (n : Nat) : (bytesN n).length = n := by simp [bytesN]
theorem bytesN_bts (n : Nat) : Bts (bytesN n) := fun x hx => by
  obtain ⟨k, _, rfl⟩ := List.mem_map.1 hx
  omega
theorem bytesN_succ (n : Nat) : bytesN (n + 1) = bytesN n ++ [((n % 256 : Nat) : Int)] := by
  unfold bytesN; rw [List.range_succ, List.map_append]; rfl
theorem u8_mod {i : Nat} : IntKind.u8.wrap (i : Int) = ((i % 256 : Nat) : Int) := by
  unfold IntKind.wrap
  simp [IntKind.bits, IntKind.signed]
instance (l : List Int) : Decidable (Bts l) := by unfold Bts; infer_instance
def v4h : Ip4V := ⟨0, 7, false, false, 0, 64, 17, ⟨4, 10, 0, 0, 1, 0, 0, 0, 0, 0, 0, 0, 0, 0, 0, 0, 0⟩, ⟨4, 10, 0, 0, 2, 0, 0, 0, 0, 0, 0, 0, 0, 0, 0, 0, 0⟩, ⟨none, 0, 0⟩, ⟨none, 0, 0⟩⟩
def v6h : Ip6V := ⟨0, 0, 64, ⟨6, 32, 1, 0, 0, 0, 0, 0, 0, 0, 0, 0, 0, 0, 0, 0, 1⟩, ⟨6, 32, 1, 0, 0, 0, 0, 0, 0, 0, 0, 0, 0, 0, 0, 0, 2⟩, ⟨none, 0, 0⟩, ⟨false, false, 0, 0⟩, 17, ⟨none, 0, 0⟩⟩
def d4h (n : Nat) : Ip4D := v4h.d [] (bytesN n)
def d6h (n : Nat) : Ip6D := v6h.d [] (bytesN n)
theorem d4h_len (n : Nat) : (d4h n).data.length = n := bytesN_len n
theorem d6h_len (n : Nat) : (d6h n).data.length = n := bytesN_len n
theorem started4 : split4S (d4h 100) 119 = ([piece4 (d4h 100) (0, 96), piece4 (d4h 100) (96, 4)], 0) := by
  have hl : (d4h 100).data.length = 100 := d4h_len 100
  have ho : (d4h 100).opts = [] := rfl
  have hc : check4S (d4h 100) = 0 := by
    unfold check4S
    have hp : putOpts4 [] = ([], 0) := rfl
    have e1 : ([] : List Int).length = 0 := rfl
    have hf : ¬ frag4 (d4h 100).mf (d4h 100).off 100 := by
      rw [show (d4h 100).mf = false from rfl, show (d4h 100).off = 0 from rfl]
      unfold frag4
      rintro (⟨h, _⟩ | h)
      · cases h
      · omega
    rw [hl, ho, hp, if_neg (by decide), if_neg (fun h => h rfl), if_neg (by simp only [e1]; omega), if_neg hf]
  have h4 : hd4 (d4h 100) = 20 := rfl
  have h4k : hd4k (d4h 100) = 20 := rfl
  unfold split4S
  rw [hc, hl, h4, h4k, if_neg (by decide), if_neg (by decide), if_neg (by decide), if_neg (by decide)]
  rfl
theorem started6 : split6S (d6h 1300) 1280 7 = ([piece6 (d6h 1300) 7 (0, 1232), piece6 (d6h 1300) 7 (1232, 68)], 0) := by
  have hl : (d6h 1300).data.length = 1300 := d6h_len 1300
  have hx : (d6h 1300).exts = [] := rfl
  have hb : (bodyB (d6h 1300)).length = 1300 := by
    unfold bodyB
    rw [List.length_append, List.length_append, hl, hx]; rfl
  have hs : (ser6S (d6h 1300)).2 = 0 ∧ (ser6S (d6h 1300)).1.length = 1340 := by
    unfold ser6S
    rw [hb, hx, if_neg (by decide), if_neg (by decide), if_neg (by
      unfold fragE fitsS
      decide), if_neg (by decide)]
    refine ⟨rfl, ?_⟩
    simp only [List.length_append, hb]
    rfl
  have hr : (rest6 (d6h 1300)).length = 1300 := by
    unfold rest6
    rw [List.length_append, hl, hx]; rfl
  have hh : hd6 (d6h 1300) = 48 := by unfold hd6; rw [hs.2, hr]
  unfold split6S
  rw [hs.1, hs.2, hh, hr, if_neg (by decide), if_neg (by decide), if_neg (by decide), if_neg (by decide), if_neg (by decide), if_neg (by decide)]
  rfl
end Go.Eng
namespace Go.Proofs.YteppichfkeknbaaGreatDoor
namespace N6
open Go.Eng Go.RowKit
section
variable {w : World}
theorem num_spec {k : Int} : Calls Tryz.prog 48 #[.int .i64 k] w fun e w' => w' = w ∧ e = .returned (.int .i64 k) := by
  refine weirlaw13_num_of k w _ ?_
  exact ⟨rfl, rfl⟩
set_option maxHeartbeats 1000000 in
theorem fourD_spec {n : Nat} (hn : n ≤ 4000000) : Calls Tryz.prog 46 #[.int .i64 n] w fun e w' => ∃ h : Ip4V, e = .returned h.val ∧ Ip4At w' h [] (bytesN n) ∧ h.d [] (bytesN n) = d4h n ∧ Ext w w' := by
  refine weirlaw13_four_of n w _ ?_
  unfold weirlaw13_four_VC
  refine NewVC.sep (Sep.start0 w) fun g1 w1 H => NewVC.sep H fun g2 w2 H => ?_
  refine Stores.sep H 2 rfl (cs' := v4h.cells) (Ip4V.one v4h) (Nat.le_refl _) (splice_all rfl) fun w3 H => ?_
  refine LoopVC.of (fun st w' => ∃ (i : Nat) (s : Sl), st = (i : Int) ∧ i ≤ n ∧ s.n = i ∧ Sep [Fct.rest w None, Fct.blk g1 28 (Ip4V.z : Ip4V).cells, Fct.blk g2 28 ({ v4h with data := s } : Ip4V).cells, rowB w.heap.size s (bytesN i)] w') (fun st _ => ((n : Int) - st).toNat)
    ⟨0, ⟨none, 0, 0⟩, rfl, Nat.zero_le _, rfl, H.nil _ _ _⟩ ?_
  rintro _ w4 ⟨i, s, rfl, hi, hs, H⟩
  unfold weirlaw13_four_L58
  have hz4 := (H.restOf 0 rfl).size
  refine Br.dec (fun hlt => ⟨_, _, _, H.cell 2 rfl 42 rfl, ?_⟩) fun hge => ?_
  · rw [u8_mod]
    refine NewVC.sep H fun g3 w5 H => ?_
    have hz5 := (H.restOf 0 rfl).size
    refine appB (m := 1) (ys := [((i % 256 : Nat) : Int)]) H 3 rfl (Cells.blk0 (H.blk 4 rfl)) rfl (show s.n + 1 ≤ 140737488355328 by omega) (by omega) fun A2 c2 w6 H hc2 => ?_
    refine SetVC.sep H 2 rfl (show 42 < 43 by decide) fun w7 H => ?_
    rw [w64 (by omega) (by omega)]
    refine ⟨⟨i + 1, ⟨A2, s.n + 1, c2⟩, by omega, by omega, by show s.n + 1 = i + 1; omega, ?_⟩, by omega⟩
    rw [bytesN_succ]
    exact H.take 4
  · have hin : i = n := by omega
    subst hin
    refine Ip4V.of { v4h with data := s } ⟨H.at 2 rfl, Stores.sep H 1 rfl (Ip4V.one _) (Nat.le_refl _) (splice_all rfl) fun w8 H => Ip4V.of { v4h with data := s } ⟨H.at 1 rfl, ⟨_, rfl, ⟨OptsAt.nil _ _ _, ?_, ?_, ?_⟩, rfl, H.restOf 0 rfl⟩⟩⟩
    · exact bytesAt_of (b := w.heap.size) (H.own 3 rfl) ⟨by rw [hs]; omega, bytesN_bts i⟩
    · exact (by decide : Bts v4h.src.bytes)
    · exact (by decide : Bts v4h.dst.bytes)
set_option maxHeartbeats 1000000 in
theorem sixD_spec {n : Nat} (hn : n ≤ 4000000) : Calls Tryz.prog 47 #[.int .i64 n] w fun e w' => ∃ h : Ip6V, e = .returned h.val ∧ Ip6At w' h [] (bytesN n) ∧ h.d [] (bytesN n) = d6h n ∧ Ext w w' := by
  refine weirlaw13_six_of n w _ ?_
  unfold weirlaw13_six_VC
  refine NewVC.sep (Sep.start0 w) fun g1 w1 H => NewVC.sep H fun g2 w2 H => ?_
  refine Stores.sep H 2 rfl (cs' := v6h.cells) (Ip6V.one v6h) (Nat.le_refl _) (splice_all rfl) fun w3 H => ?_
  refine LoopVC.of (fun st w' => ∃ (i : Nat) (s : Sl), st = (i : Int) ∧ i ≤ n ∧ s.n = i ∧ Sep [Fct.rest w None, Fct.blk g1 33 (Ip6V.z : Ip6V).cells, Fct.blk g2 33 ({ v6h with data := s } : Ip6V).cells, rowB w.heap.size s (bytesN i)] w') (fun st _ => ((n : Int) - st).toNat)
    ⟨0, ⟨none, 0, 0⟩, rfl, Nat.zero_le _, rfl, H.nil _ _ _⟩ ?_
  rintro _ w4 ⟨i, s, rfl, hi, hs, H⟩
  unfold weirlaw13_six_L58
  have hz4 := (H.restOf 0 rfl).size
  refine Br.dec (fun hlt => ⟨_, _, _, H.cell 2 rfl 43 rfl, ?_⟩) fun hge => ?_
  · rw [u8_mod]
    refine NewVC.sep H fun g3 w5 H => ?_
    have hz5 := (H.restOf 0 rfl).size
    refine appB (m := 1) (ys := [((i % 256 : Nat) : Int)]) H 3 rfl (Cells.blk0 (H.blk 4 rfl)) rfl (show s.n + 1 ≤ 140737488355328 by omega) (by omega) fun A2 c2 w6 H hc2 => ?_
    refine SetVC.sep H 2 rfl (show 43 < 44 by decide) fun w7 H => ?_
    rw [w64 (by omega) (by omega)]
    refine ⟨⟨i + 1, ⟨A2, s.n + 1, c2⟩, by omega, by omega, by show s.n + 1 = i + 1; omega, ?_⟩, by omega⟩
    rw [bytesN_succ]
    exact H.take 4
  · have hin : i = n := by omega
    subst hin
    refine Ip6V.of { v6h with data := s } ⟨H.at 2 rfl, Stores.sep H 1 rfl (Ip6V.one _) (Nat.le_refl _) (splice_all rfl) fun w8 H => Ip6V.of { v6h with data := s } ⟨H.at 1 rfl, ⟨_, rfl, ⟨ExtsAt.nil _ _ _, ?_, ?_, ?_⟩, rfl, H.restOf 0 rfl⟩⟩⟩
    · exact bytesAt_of (b := w.heap.size) (H.own 3 rfl) ⟨by rw [hs]; omega, bytesN_bts i⟩
    · exact (by decide : Bts v6h.src.bytes)
    · exact (by decide : Bts v6h.dst.bytes)
end
end N6
end Go.Proofs.YteppichfkeknbaaGreatDoor
/- What is asked first: two datagrams are cut into two pieces each. -/
namespace Go.Proofs.YteppichfkeknbaaGreatDoor
namespace N6
open Go.Eng Go.RowKit
section
variable {w : World}
theorem onRet_ret {A : Value → World → Prop} {Q : List PanicEntry → World → Prop} {v : Value} {w' : World} (h : A v w') : onRet A Q (.returned v) w' := h
theorem two_of {α β : Type} {f : α → β} {l : List α} {x y : β} (h : l.map f = [x, y]) : ∃ a b, l = [a, b] ∧ f a = x ∧ f b = y := by
  match l, h with
  | [a, b], h => simp at h; exact ⟨a, b, rfl, h.1, h.2⟩
theorem four_mf {w' : World} {a : Addr} {h : Ip4V} (hc : CellsAt w' a 0 h.cells) : w'.cell? (a.add 3) = some (.bool h.mf) := hc.2.2.2.1
theorem four_off {w' : World} {a : Addr} {h : Ip4V} (hc : CellsAt w' a 0 h.cells) : w'.cell? (a.add 4) = some (.int .i64 h.off) := hc.2.2.2.2.1
theorem cells_get {w' : World} {a : Addr} {cs : List Value} (hc : CellsAt w' a 0 cs) (j : Nat) {v : Value} (hv : cs[j]? = some v) : w'.cell? (a.add j) = some v := by
  have := cellsAt_get hc j v hv
  rwa [Nat.zero_add] at this
theorem cells_part {w' : World} {a : Addr} {cs : List Value} (hc : CellsAt w' a 0 cs) (j k : Nat) {ds : List Value} (hd : (cs.drop j).take k = ds) : CellsAt w' (a.add j) 0 ds := by
  refine CellsAt.of ds 0 fun i v hv => ?_
  rw [add_add, Nat.zero_add]
  refine cells_get hc _ ?_
  rw [← hd, List.getElem?_take] at hv
  split at hv
  · rwa [List.getElem?_drop] at hv
  · cases hv
set_option maxHeartbeats 1000000 in
theorem started_spec (hK : Kn w) : Calls Tryz.prog 19 #[] w fun e w' => Ext w w' ∧ e = .returned (.bool true) := by
  refine weirlaw13_started_of w _ ?_
  unfold weirlaw13_started_VC
  refine (fourD_spec (n := 100) (by omega)).mono ?_
  rintro _ w1 ⟨h, rfl, hA, hd, hE⟩
  refine onRet_ret (Ip4V.of h ⟨rfl, ?_⟩)
  refine (split4_spec (mtu := 119) hA).mono ?_
  intro e w2 hc
  obtain ⟨s4, r4, rfl, hr4, hat4, hE2⟩ := hc.at
  rw [hd, started4] at hr4 ⊢
  have hE := hE.trans hE2
  refine ⟨_, _, _, _, rfl, ?_⟩
  refine (sixD_spec (n := 1300) (by omega)).mono ?_
  rintro _ w3 ⟨g, rfl, hB, hd6, hE3⟩
  have hE := hE.trans hE3
  have hat4 := hat4.ext hE3
  refine onRet_ret (Ip6V.of g ⟨rfl, ?_⟩)
  refine (split6_spec (mtu := 1280) (id := 7) hB (hK.ext hE)).mono ?_
  intro e w4 hc
  obtain ⟨s6, r6, rfl, hr6, hat6, hE4⟩ := hc.at
  rw [hd6, started6] at hr6 ⊢
  have hE := hE.trans hE4
  have hat4 := hat4.ext hE4
  obtain ⟨a0, a1, rfl, ha0, ha1⟩ := two_of hr4
  obtain ⟨b0, b1, rfl, hb0, hb1⟩ := two_of hr6
  have n4 : s4.n = 2 := hat4.len.symm
  have n6 : s6.n = 2 := hat6.len.symm
  have l100 := d4h_len 100
  have l1300 := d6h_len 1300
  have hr : (rest6 (d6h 1300)).length = 1300 := by
    unfold rest6
    rw [List.length_append, l1300]; rfl
  have A0 := hat4.each a0 (by simp)
  have A1 := hat4.each a1 (by simp)
  have B1 := hat6.each b1 (by simp)
  have e1 : a0.v.mf = true := by
    have := congrArg Ip4D.mf ha0
    rw [show a0.d.mf = a0.v.mf from rfl] at this
    rw [this]; unfold piece4; simp only [l100]; rfl
  have e2 : a0.v.data.n = 96 := by
    have := congrArg (fun d => d.data.length) ha0
    have h2 : a0.data.length = a0.v.data.n := A0.data.len
    have h3 : a0.d.data.length = a0.data.length := rfl
    simp only [h3, piece4, List.length_take, List.length_drop, l100] at this
    omega
  have e3 : a1.v.off = 96 := congrArg Ip4D.off ha1
  have e4 : a1.v.mf = false := by
    have := congrArg Ip4D.mf ha1
    rw [show a1.d.mf = a1.v.mf from rfl] at this
    rw [this]; unfold piece4; simp only [l100]; rfl
  have e5 : a1.v.data.n = 4 := by
    have := congrArg (fun d => d.data.length) ha1
    have h2 : a1.data.length = a1.v.data.n := A1.data.len
    have h3 : a1.d.data.length = a1.data.length := rfl
    simp only [h3, piece4, List.length_take, List.length_drop, l100] at this
    omega
  have e6 : b0.v.frag = ⟨true, true, 7, 0⟩ := by
    have := congrArg Ip6D.frag hb0
    rw [show b0.d.frag = b0.v.frag from rfl] at this
    rw [this]; unfold piece6; simp only [hr]; rfl
  have e7 : b1.v.frag = ⟨true, false, 7, 1232⟩ := by
    have := congrArg Ip6D.frag hb1
    rw [show b1.d.frag = b1.v.frag from rfl] at this
    rw [this]; unfold piece6; simp only [hr]; rfl
  have e8 : b1.v.data.n = 68 := by
    have := congrArg (fun d => d.data.length) hb1
    have h2 : b1.data.length = b1.v.data.n := B1.data.len
    have h3 : b1.d.data.length = b1.data.length := rfl
    simp only [h3, piece6, List.length_take, List.length_drop, hr] at this
    omega
  refine ⟨_, _, _, _, rfl, ?_⟩
  refine num_spec.mono ?_
  rintro _ w5 ⟨rfl, rfl⟩
  refine ⟨_, rfl, Br.no (by decide) ?_⟩
  refine num_spec.mono ?_
  rintro _ w6 ⟨rfl, rfl⟩
  refine ⟨_, rfl, Br.no (by decide) (Br.no (by omega) (Br.no (by omega) ?_))⟩
  refine hat4.idx (i := 0) (r := a0) rfl fun a ha => ⟨_, four_mf ha, ?_⟩
  rw [e1]
  refine Br.f rfl (hat4.idx (i := 0) (r := a0) rfl fun a ha => ⟨_, _, _, cells_get ha 42 rfl, ?_⟩)
  rw [e2]
  refine Br.no (by decide) (hat4.idx (i := 1) (r := a1) rfl fun a ha => ⟨_, four_off ha, ?_⟩)
  rw [e3]
  refine Br.no (by decide) (hat4.idx (i := 1) (r := a1) rfl fun a ha => ⟨_, four_mf ha, ?_⟩)
  rw [e4]
  refine Br.f rfl (hat4.idx (i := 1) (r := a1) rfl fun a ha => ⟨_, _, _, cells_get ha 42 rfl, ?_⟩)
  rw [e5]
  refine Br.no (by decide) (hat6.idx (i := 0) (r := b0) rfl fun a ha => FragV.of b0.v.frag ⟨cells_part ha 38 4 rfl, ?_⟩)
  rw [e6]
  refine Br.t rfl (hat6.idx (i := 1) (r := b1) rfl fun a ha => FragV.of b1.v.frag ⟨cells_part ha 38 4 rfl, ?_⟩)
  rw [e7]
  refine Br.t rfl (hat6.idx (i := 1) (r := b1) rfl fun a ha => ⟨_, _, _, cells_get ha 43 rfl, ?_⟩)
  rw [e8]
  exact ⟨hE, rfl⟩
end
end N6
end Go.Proofs.YteppichfkeknbaaGreatDoor
