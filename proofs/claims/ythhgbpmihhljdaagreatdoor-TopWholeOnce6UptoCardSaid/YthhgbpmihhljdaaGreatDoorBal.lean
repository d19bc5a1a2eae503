/- WRITTEN BY a program of this session (vc.py): for each Go function the condition that is enough for its contract, and the theorem that it is. -/
import Derived.Test.YthhgbpmihhljdaaGreatDoorProg
import Derived.Test.YthhgbpmihhljdaaGreatDoorBae
import Derived.Test.YthhgbpmihhljdaaGreatDoorBak
import Derived.Test.YthhgbpmihhljdaaGreatDoorBag
namespace Go.Proofs.YthhgbpmihhljdaaGreatDoor
open Go.Eng
namespace N6

set_option maxRecDepth 100000 in
def hole_New_VC (max : Int) (w : World) (R : Ending → World → Prop) : Prop :=
  Br (decide (max < 1))
    (R (.returned (.tuple #[.pointer none, .int .i64 1])) w)
    (Br (decide ((65535 : Int) < max))
    (R (.returned (.tuple #[.pointer none, .int .i64 1])) w)
    (NewVC w (.cells (⟨0, max⟩ : GapV).cells.toArray 145) fun g1 w1 =>
  NewVC w1 (.map #[] 0) fun g2 w2 =>
  NewVC w2 (.cells #[.int .i64 max, .slice none 0 0, .slice (some ⟨g1, 0, none⟩) 1 1, .int .i64 (-1), .int .i64 0, .map (some g2)] 125) fun g3 w3 =>
  R (.returned (.tuple #[.pointer (some ⟨g3, 0, none⟩), .int .i64 0])) w3))
def hole_New_H : Hints := []
set_option maxRecDepth 100000 in
theorem hole_New_of (max : Int) (w : World) (R : Ending → World → Prop) (hvc_ : hole_New_VC max w R) :
    Calls Tryz.prog 55 #[.int .i64 max] w R :=
  calls_of_wpc callOk mixedOk (H := hole_New_H) (args := [.int .i64 max]) (fn := Tryz.f55) (c := bodyOf Tryz.f55) Tryz.func55 rfl (Nat.le_of_ble_eq_true rfl)
    (Eq.mp (by kernel_rfl : hole_New_VC max w R = wpc Tryz.prog callF Tryz.f55.ntmps hole_New_H 1 (bodyOf Tryz.f55) (argEnv 0 [.int .i64 max]) [] w (finish Tryz.prog callF Tryz.f55.results.toList R)) hvc_)

set_option maxRecDepth 100000 in
def hole_Holes_top_VC (h : Option Addr) (w : World) (R : Ending → World → Prop) : Prop :=
  NilVC h fun p =>
  ∃ (xA : Option Addr) (xn xc : Nat), w.cell? (p.add 2) = some (.slice xA xn xc) ∧
  Br (decide ((xn : Int) = 0))
    (NilVC h fun p1 =>
    ∃ x : Int, w.cell? p1 = some (.int .i64 x) ∧
    R (.returned (.int .i64 x)) w)
    (NilVC h fun p2 =>
  ∃ (xA1 : Option Addr) (xn1 xc1 : Nat), w.cell? (p2.add 2) = some (.slice xA1 xn1 xc1) ∧
  IdxVC xA1 xn1 2 (IntKind.i64.wrap ((xn : Int) - 1)) fun a =>
  GapV.ex fun h1 => CellsAt w a 0 h1.cells ∧
  NewVC w (.cells (GapV.z : GapV).cells.toArray 145) fun g1 w1 =>
  Stores ⟨g1, 0, none⟩ 0 h1.cells w1 fun w2 =>
  DrawVC w2 fun S1 w3 =>
  IdxVC (some ⟨g1, 0, none⟩) 2 1 1 fun a1 =>
  ∃ x1 : Int, (∀ w' : World, S1 w' → w'.cell? a1 = some (.int .i64 x1)) ∧
  NilVC h fun p3 =>
  ∃ x2 : Int, (∀ w' : World, S1 w' → w'.cell? p3 = some (.int .i64 x2)) ∧
  Br (decide (x1 = x2))
    (IdxVC (some ⟨g1, 0, none⟩) 2 1 0 fun a2 =>
    ∃ x3 : Int, w3.cell? a2 = some (.int .i64 x3) ∧
    R (.returned (.int .i64 x3)) w3)
    (NilVC h fun p4 =>
  ∃ x4 : Int, w3.cell? p4 = some (.int .i64 x4) ∧
  R (.returned (.int .i64 x4)) w3))
def hole_Holes_top_H : Hints := []
set_option maxRecDepth 100000 in
theorem hole_Holes_top_of (h : Option Addr) (w : World) (R : Ending → World → Prop) (hvc_ : hole_Holes_top_VC h w R) :
    Calls Tryz.prog 93 #[.pointer h] w R :=
  calls_of_wpc callOk mixedOk (H := hole_Holes_top_H) (args := [.pointer h]) (fn := Tryz.f93) (c := bodyOf Tryz.f93) Tryz.func93 rfl (Nat.le_of_ble_eq_true rfl)
    (Eq.mp (by kernel_rfl : hole_Holes_top_VC h w R = wpc Tryz.prog callF Tryz.f93.ntmps hole_Holes_top_H 1 (bodyOf Tryz.f93) (argEnv 0 [.pointer h]) [] w (finish Tryz.prog callF Tryz.f93.results.toList R)) hvc_)

set_option maxRecDepth 100000 in
def hole_Holes_refused_J29695 (R : Ending → World → Prop) (h : Option Addr) (off : Int) (datan : Nat) (more : Bool) (t71_ : Bool) (w4 : World) : Prop :=
  Br t71_
    (R (.returned (.int .i64 113)) w4)
    (NilVC h fun p6 =>
    ∃ x6 : Int, w4.cell? (p6.add 3) = some (.int .i64 x6) ∧
    Br (decide (x6 < 0))
      (Br (!more)
        (Calls Tryz.prog 93 #[.pointer h] w4 (onRet (fun r_ w5 => ∃ x7 : Int, r_ = .int .i64 x7 ∧
        Br (decide (IntKind.i64.wrap (off + (datan : Int)) < x7))
      (R (.returned (.int .i64 114)) w5)
      (R (.returned (.int .i64 0)) w5))
          (fun ch w5 => R (.panicked ch) w5)))
        (R (.returned (.int .i64 0)) w4))
      (R (.returned (.int .i64 0)) w4))
set_option maxRecDepth 100000 in
def hole_Holes_refused_J7423 (R : Ending → World → Prop) (h : Option Addr) (off : Int) (datan : Nat) (more : Bool) (t51_ : Bool) (w3 : World) : Prop :=
  Br t51_
    (R (.returned (.int .i64 114)) w3)
    (JoinVC (S := Bool) (fun J29695 =>
        NilVC h fun p4 =>
        ∃ x4 : Int, w3.cell? (p4.add 3) = some (.int .i64 x4) ∧
        Br (decide ((0 : Int) ≤ x4))
          (Br more
            (NilVC h fun p5 =>
            ∃ x5 : Int, w3.cell? (p5.add 3) = some (.int .i64 x5) ∧
            J29695 (decide (x5 < IntKind.i64.wrap (off + (datan : Int)))) w3)
            (J29695 false w3))
          (J29695 false w3))
      (fun s_ w4 => hole_Holes_refused_J29695 R h off datan more s_ w4))
set_option maxRecDepth 100000 in
def hole_Holes_refused_J1855 (R : Ending → World → Prop) (h : Option Addr) (off : Int) (datan : Nat) (more : Bool) (t34_ : Bool) (w2 : World) : Prop :=
  Br t34_
    (R (.returned (.int .i64 112)) w2)
    (JoinVC (S := Bool) (fun J7423 =>
        NilVC h fun p2 =>
        ∃ x2 : Int, w2.cell? (p2.add 3) = some (.int .i64 x2) ∧
        Br (decide ((0 : Int) ≤ x2))
          (Br (!more)
            (NilVC h fun p3 =>
            ∃ x3 : Int, w2.cell? (p3.add 3) = some (.int .i64 x3) ∧
            J7423 (decide (IntKind.i64.wrap (off + (datan : Int)) ≠ x3)) w2)
            (J7423 false w2))
          (J7423 false w2))
      (fun s_ w3 => hole_Holes_refused_J7423 R h off datan more s_ w3))
set_option maxRecDepth 100000 in
def hole_Holes_refused_J115 (R : Ending → World → Prop) (h : Option Addr) (off : Int) (datan : Nat) (more : Bool) (t15_ : Bool) (w1 : World) : Prop :=
  Br t15_
    (R (.returned (.int .i64 110)) w1)
    (Br (decide ((datan : Int) = 0))
      (R (.returned (.int .i64 111)) w1)
      (JoinVC (S := Bool) (fun J1855 =>
          NilVC h fun p =>
          ∃ x : Int, w1.cell? p = some (.int .i64 x) ∧
          Br (decide (x < off))
            (J1855 true w1)
            (NilVC h fun p1 =>
            ∃ x1 : Int, w1.cell? p1 = some (.int .i64 x1) ∧
            J1855 (decide (x1 < IntKind.i64.wrap (off + (datan : Int)))) w1))
        (fun s_ w2 => hole_Holes_refused_J1855 R h off datan more s_ w2)))
set_option maxRecDepth 100000 in
def hole_Holes_refused_VC (h : Option Addr) (off : Int) (_dataA : Option Addr) (datan : Nat) (_datac : Nat) (more : Bool) (w : World) (R : Ending → World → Prop) : Prop :=
  Br (decide ((65535 : Int) < (datan : Int)))
    (R (.returned (.int .i64 2)) w)
    (JoinVC (S := Bool) (fun J115 =>
        Br (decide (off < 0))
          (J115 true w)
          (Br (decide (Int.tmod off 8 ≠ 0))
            (J115 true w)
            (Br more
              (J115 (decide (Int.tmod (datan : Int) 8 ≠ 0)) w)
              (J115 false w))))
      (fun s_ w1 => hole_Holes_refused_J115 R h off datan more s_ w1))
def hole_Holes_refused_H : Hints := [(115, [(15, .bool)]), (1855, [(34, .bool)]), (7423, [(51, .bool)]), (29695, [(71, .bool)])]
set_option maxRecDepth 100000 in
theorem hole_Holes_refused_of (h : Option Addr) (off : Int) (dataA : Option Addr) (datan : Nat) (datac : Nat) (more : Bool) (w : World) (R : Ending → World → Prop) (hvc_ : hole_Holes_refused_VC h off dataA datan datac more w R) :
    Calls Tryz.prog 77 #[.pointer h, .int .i64 off, .slice dataA datan datac, .bool more] w R :=
  calls_of_wpc callOk mixedOk (H := hole_Holes_refused_H) (args := [.pointer h, .int .i64 off, .slice dataA datan datac, .bool more]) (fn := Tryz.f77) (c := bodyOf Tryz.f77) Tryz.func77 rfl (Nat.le_of_ble_eq_true rfl)
    (Eq.mp (by kernel_rfl : hole_Holes_refused_VC h off dataA datan datac more w R = wpc Tryz.prog callF Tryz.f77.ntmps hole_Holes_refused_H 1 (bodyOf Tryz.f77) (argEnv 0 [.pointer h, .int .i64 off, .slice dataA datan datac, .bool more]) [] w (finish Tryz.prog callF Tryz.f77.results.toList R)) hvc_)

set_option maxRecDepth 100000 in
def hole_Holes_Put_J3664287 (off : Int) (datan : Nat) (t62_ : Int) (K3578 : ((Option Addr × Nat × Nat) × Int → World → Prop)) (g3 : Nat) (x4 : Int) (leftA2 : Option Addr) (leftn2 : Nat) (leftc2 : Nat) (w21 : World) : Prop :=
  IdxVC (some ⟨g3, 0, none⟩) 2 1 1 fun a7 =>
  ∃ x8 : Int, w21.cell? a7 = some (.int .i64 x8) ∧
  Br (decide ((if IntKind.i64.wrap (off + (datan : Int)) < x4 then IntKind.i64.wrap (off + (datan : Int)) else x4) < x8))
    (IdxVC (some ⟨g3, 0, none⟩) 2 1 1 fun a8 =>
    ∃ x9 : Int, w21.cell? a8 = some (.int .i64 x9) ∧
    NewVC w21 (.cells (⟨(if IntKind.i64.wrap (off + (datan : Int)) < x4 then IntKind.i64.wrap (off + (datan : Int)) else x4), x9⟩ : GapV).cells.toArray 145) fun g6 w22 =>
    AppVC Tryz.prog #[122, 122] 122 (.slice leftA2 leftn2 leftc2) (.slice (some ⟨g6, 0, none⟩) 1 1) w22 fun lA4 ln4 lc4 w23 =>
    K3578 ((lA4, ln4, lc4), IntKind.i64.wrap (t62_ + 1)) w23)
    (K3578 ((leftA2, leftn2, leftc2), IntKind.i64.wrap (t62_ + 1)) w21)
set_option maxRecDepth 100000 in
def hole_Holes_Put_D1832142 (w15 : World) (g2 : Nat) (h : Option Addr) (x3 : Int) (off : Int) (datan : Nat) (x4 : Int) (dataA : Option Addr) (datac : Nat) (g3 : Nat) (leftA1 : Option Addr) (leftn1 : Nat) (leftc1 : Nat) (t62_ : Int) (K3578 : ((Option Addr × Nat × Nat) × Int → World → Prop)) : Prop :=
  DrawVC w15 fun S3 w16 =>
  ∃ x5 : Int, (∀ w' : World, S3 w' → w'.cell? ⟨g2, 0, none⟩ = some (.int .i64 x5)) ∧
  NilVC h fun p6 =>
  ∃ (xA5 : Option Addr) (xn5 xc5 : Nat), (∀ w' : World, S3 w' → w'.cell? (p6.add 1) = some (.slice xA5 xn5 xc5)) ∧
  SliceVC xA5 xn5 xc5 1 (some (if x3 < off then off else x3)) (some (if IntKind.i64.wrap (off + (datan : Int)) < x4 then IntKind.i64.wrap (off + (datan : Int)) else x4)) none fun sA1 sn1 sc1 =>
  SliceVC dataA datan datac 1 (some (IntKind.i64.wrap ((if x3 < off then off else x3) - off))) (some (IntKind.i64.wrap ((if IntKind.i64.wrap (off + (datan : Int)) < x4 then IntKind.i64.wrap (off + (datan : Int)) else x4) - off))) none fun sA2 sn2 sc2 =>
  CopyVC Tryz.prog #[28, 28] 3 (.slice sA1 sn1 sc1) (.slice sA2 sn2 sc2) w16 fun m w17 =>
  S3 w17 ∧
  SetVC w17 ⟨g2, 0, none⟩ (.int .i64 (IntKind.i64.wrap (x5 + m))) fun w18 =>
  JoinVC (S := (Option Addr × Nat × Nat)) (fun J3664287 =>
      IdxVC (some ⟨g3, 0, none⟩) 2 1 0 fun a5 =>
      ∃ x6 : Int, w18.cell? a5 = some (.int .i64 x6) ∧
      Br (decide (x6 < (if x3 < off then off else x3)))
        (IdxVC (some ⟨g3, 0, none⟩) 2 1 0 fun a6 =>
        ∃ x7 : Int, w18.cell? a6 = some (.int .i64 x7) ∧
        NewVC w18 (.cells (⟨x7, (if x3 < off then off else x3)⟩ : GapV).cells.toArray 145) fun g5 w19 =>
        AppVC Tryz.prog #[122, 122] 122 (.slice leftA1 leftn1 leftc1) (.slice (some ⟨g5, 0, none⟩) 1 1) w19 fun lA3 ln3 lc3 w20 =>
        J3664287 (lA3, ln3, lc3) w20)
        (J3664287 (leftA1, leftn1, leftc1) w18))
    (fun s_ w21 => hole_Holes_Put_J3664287 off datan t62_ K3578 g3 x4 s_.1 s_.2.1 s_.2.2 w21)
set_option maxRecDepth 100000 in
def hole_Holes_Put_L3578 (h : Option Addr) (off : Int) (dataA : Option Addr) (datan : Nat) (datac : Nat) (g2 : Nat) (J447 : ((Option Addr × Nat × Nat) → World → Prop)) (xA3 : Option Addr) (xn3 : Nat) (leftA1 : Option Addr) (leftn1 : Nat) (leftc1 : Nat) (t62_ : Int) (w9 : World) (K3578 : ((Option Addr × Nat × Nat) × Int → World → Prop)) : Prop :=
  Br (decide (t62_ < (xn3 : Int)))
    (IdxVC xA3 xn3 2 t62_ fun a =>
  GapV.ex fun h1 => CellsAt w9 a 0 h1.cells ∧
  NewVC w9 (.cells (GapV.z : GapV).cells.toArray 145) fun g3 w10 =>
  Stores ⟨g3, 0, none⟩ 0 h1.cells w10 fun w11 =>
  IdxVC (some ⟨g3, 0, none⟩) 2 1 0 fun a1 =>
  ∃ x1 : Int, w11.cell? a1 = some (.int .i64 x1) ∧
  Br (decide (IntKind.i64.wrap (off + (datan : Int)) ≤ x1))
    (NilVC h fun p5 =>
    ∃ (xA4 : Option Addr) (xn4 xc4 : Nat), w11.cell? (p5.add 2) = some (.slice xA4 xn4 xc4) ∧
    SliceVC xA4 xn4 xc4 2 (some t62_) none none fun sA sn sc =>
    AppVC Tryz.prog #[122, 122] 122 (.slice leftA1 leftn1 leftc1) (.slice sA sn sc) w11 fun lA1 ln1 lc1 w12 =>
    J447 (lA1, ln1, lc1) w12)
    (IdxVC (some ⟨g3, 0, none⟩) 2 1 1 fun a2 =>
  ∃ x2 : Int, w11.cell? a2 = some (.int .i64 x2) ∧
  Br (decide (x2 ≤ off))
    (GapV.ex fun h2 => CellsAt w11 ⟨g3, 0, none⟩ 0 h2.cells ∧
    NewVC w11 (.cells h2.cells.toArray 145) fun g4 w13 =>
    AppVC Tryz.prog #[122, 122] 122 (.slice leftA1 leftn1 leftc1) (.slice (some ⟨g4, 0, none⟩) 1 1) w13 fun lA2 ln2 lc2 w14 =>
    K3578 ((lA2, ln2, lc2), IntKind.i64.wrap (t62_ + 1)) w14)
    (DrawVC w11 fun S2 w15 =>
  IdxVC (some ⟨g3, 0, none⟩) 2 1 0 fun a3 =>
  ∃ x3 : Int, (∀ w' : World, S2 w' → w'.cell? a3 = some (.int .i64 x3)) ∧
  IdxVC (some ⟨g3, 0, none⟩) 2 1 1 fun a4 =>
  ∃ x4 : Int, (∀ w' : World, S2 w' → w'.cell? a4 = some (.int .i64 x4)) ∧
  (S2 w15 ∧
  S2 w15 ∧
  hole_Holes_Put_D1832142 w15 g2 h x3 off datan x4 dataA datac g3 leftA1 leftn1 leftc1 t62_ K3578) ∧
  (S2 w15 ∧
  S2 w15 ∧
  hole_Holes_Put_D1832142 w15 g2 h x3 off datan x4 dataA datac g3 leftA1 leftn1 leftc1 t62_ K3578))))
    (J447 (leftA1, leftn1, leftc1) w9)
set_option maxRecDepth 100000 in
def hole_Holes_Put_J57323 (h : Option Addr) (off : Int) (datan : Nat) (J1791 : (Unit → World → Prop)) (xn7 : Nat) (t177_ : Bool) (w37 : World) : Prop :=
  Br t177_
    (NilVC h fun p14 =>
    ∃ (xA9 : Option Addr) (xn9 xc9 : Nat), w37.cell? (p14.add 2) = some (.slice xA9 xn9 xc9) ∧
    IdxVC xA9 xn9 2 (IntKind.i64.wrap ((xn7 : Int) - 1)) fun a15 =>
    IdxVC (some a15) 2 1 1 fun a16 =>
    SetVC w37 a16 (.int .i64 (IntKind.i64.wrap (off + (datan : Int)))) fun w38 =>
    NilVC h fun p15 =>
    ∃ (xA10 : Option Addr) (xn10 xc10 : Nat), w38.cell? (p15.add 2) = some (.slice xA10 xn10 xc10) ∧
    IdxVC xA10 xn10 2 (IntKind.i64.wrap ((xn7 : Int) - 1)) fun a17 =>
    IdxVC (some a17) 2 1 0 fun a18 =>
    ∃ x18 : Int, w38.cell? a18 = some (.int .i64 x18) ∧
    Br (decide (IntKind.i64.wrap (off + (datan : Int)) ≤ x18))
      (NilVC h fun p16 =>
      ∃ (xA11 : Option Addr) (xn11 xc11 : Nat), w38.cell? (p16.add 2) = some (.slice xA11 xn11 xc11) ∧
      SliceVC xA11 xn11 xc11 2 none (some (IntKind.i64.wrap ((xn7 : Int) - 1))) none fun sA5 sn5 sc5 =>
      NilVC h fun p17 =>
      SetVC w38 (p17.add 2) (.slice sA5 sn5 sc5) fun w39 =>
      J1791 () w39)
      (J1791 () w38))
    (J1791 () w37)
set_option maxRecDepth 100000 in
def hole_Holes_Put_J3582 (h : Option Addr) (off : Int) (datan : Nat) (J1791 : (Unit → World → Prop)) (t150_ : Bool) (w34 : World) : Prop :=
  Br t150_
    (NilVC h fun p10 =>
    SetVC w34 (p10.add 3) (.int .i64 (IntKind.i64.wrap (off + (datan : Int)))) fun w35 =>
    NilVC h fun p11 =>
    ∃ (xA7 : Option Addr) (xn7 xc7 : Nat), w35.cell? (p11.add 2) = some (.slice xA7 xn7 xc7) ∧
    JoinVC (S := Bool) (fun J57323 =>
        DrawVC w35 fun S5 w36 =>
        Br (decide ((0 : Int) < (xn7 : Int)))
          (NilVC h fun p12 =>
          ∃ (xA8 : Option Addr) (xn8 xc8 : Nat), (∀ w' : World, S5 w' → w'.cell? (p12.add 2) = some (.slice xA8 xn8 xc8)) ∧
          IdxVC xA8 xn8 2 (IntKind.i64.wrap ((xn7 : Int) - 1)) fun a13 =>
          IdxVC (some a13) 2 1 1 fun a14 =>
          ∃ x16 : Int, (∀ w' : World, S5 w' → w'.cell? a14 = some (.int .i64 x16)) ∧
          NilVC h fun p13 =>
          ∃ x17 : Int, (∀ w' : World, S5 w' → w'.cell? p13 = some (.int .i64 x17)) ∧
          J57323 (decide (x16 = x17)) w36)
          (J57323 false w36))
      (fun s_ w37 => hole_Holes_Put_J57323 h off datan J1791 xn7 s_ w37))
    (J1791 () w34)
set_option maxRecDepth 100000 in
def hole_Holes_Put_J1791 (R : Ending → World → Prop) (h : Option Addr) (off : Int) (dataA : Option Addr) (datan : Nat) (datac : Nat) (more : Bool) (g1 : Nat) (g2 : Nat)  (w40 : World) : Prop :=
  DrawVC w40 fun S6 w41 =>
  NilVC h fun p18 =>
  ∃ x19 : Int, (∀ w' : World, S6 w' → w'.cell? (p18.add 4) = some (.int .i64 x19)) ∧
  ∃ x20 : Int, (∀ w' : World, S6 w' → w'.cell? ⟨g2, 0, none⟩ = some (.int .i64 x20)) ∧
  NilVC h fun p19 =>
  SetVC w41 (p19.add 4) (.int .i64 (IntKind.i64.wrap (x19 + x20))) fun w42 =>
  ∃ x21 : Int, w42.cell? ⟨g2, 0, none⟩ = some (.int .i64 x21) ∧
  SetVC w42 ⟨g2, 1, none⟩ (.int .i64 (IntKind.i64.wrap ((datan : Int) - x21))) fun w43 =>
  NewVC w43 (.cells (FitV.z : FitV).cells.toArray 148) fun g9 w44 =>
  Stores ⟨g9, 0, none⟩ 0 (⟨off, (datan : Int), more⟩ : PcV).cells w44 fun w45 =>
  DrawVC w45 fun S7 w46 =>
  NilVC h fun p20 =>
  ∃ x22 : Option Nat, (∀ w' : World, S7 w' → w'.cell? (p20.add 5) = some (.map x22)) ∧
  PcV.ex fun h3 => (∀ w' : World, S7 w' → CellsAt w' ⟨g9, 0, none⟩ 0 h3.cells) ∧
  ∃ ok : Bool, (∀ w' : World, S7 w' → (Instr.lookup 123 (.map x22) (h3.val) true).run Tryz.prog w' = .ok (.tuple #[.agg #[], .bool ok]) w') ∧
  NewVC w46 (.cells #[] 149) fun _g10 w47 =>
  S7 w47 ∧
  S7 w47 ∧
  Br ok
    (NilVC h fun p21 =>
    ∃ (xA12 : Option Addr) (xn12 xc12 : Nat), w47.cell? (p21.add 1) = some (.slice xA12 xn12 xc12) ∧
    SliceVC xA12 xn12 xc12 1 (some off) (some (IntKind.i64.wrap (off + (datan : Int)))) none fun sA6 sn6 sc6 =>
    Calls Tryz.prog 78 #[.slice sA6 sn6 sc6, .slice dataA datan datac] w47 (onRet (fun r_1 w48 => ∃ x23 : Bool, r_1 = .bool x23 ∧
    SetVC w48 ⟨g2, 2, none⟩ (.bool x23) fun w49 =>
    DrawVC w49 fun S8 w50 =>
  NilVC h fun p22 =>
  ∃ x24 : Option Nat, (∀ w' : World, S8 w' → w'.cell? (p22.add 5) = some (.map x24)) ∧
  PcV.ex fun h4 => (∀ w' : World, S8 w' → CellsAt w' ⟨g9, 0, none⟩ 0 h4.cells) ∧
  MapSetVC Tryz.prog 123 (.map x24) (h4.val) (.agg #[]) w50 fun w51 =>
  FitV.ex fun h5 => CellsAt w51 ⟨g2, 0, none⟩ 0 h5.cells ∧
  Stores ⟨g1, 0, none⟩ 0 h5.cells w51 fun w52 =>
  FitV.ex fun res1 => CellsAt w52 ⟨g1, 0, none⟩ 0 res1.cells ∧
  R (.returned (.tuple #[res1.val, .int .i64 0])) w52)
      (fun ch1 w48 => R (.panicked ch1) w48)))
    (SetVC w47 ⟨g2, 2, none⟩ (.bool false) fun w53 =>
    DrawVC w53 fun S9 w54 =>
  NilVC h fun p23 =>
  ∃ x25 : Option Nat, (∀ w' : World, S9 w' → w'.cell? (p23.add 5) = some (.map x25)) ∧
  PcV.ex fun h6 => (∀ w' : World, S9 w' → CellsAt w' ⟨g9, 0, none⟩ 0 h6.cells) ∧
  MapSetVC Tryz.prog 123 (.map x25) (h6.val) (.agg #[]) w54 fun w55 =>
  FitV.ex fun h7 => CellsAt w55 ⟨g2, 0, none⟩ 0 h7.cells ∧
  Stores ⟨g1, 0, none⟩ 0 h7.cells w55 fun w56 =>
  FitV.ex fun res2 => CellsAt w56 ⟨g1, 0, none⟩ 0 res2.cells ∧
  R (.returned (.tuple #[res2.val, .int .i64 0])) w56)
set_option maxRecDepth 100000 in
def hole_Holes_Put_J447 (R : Ending → World → Prop) (h : Option Addr) (off : Int) (dataA : Option Addr) (datan : Nat) (datac : Nat) (more : Bool) (g1 : Nat) (g2 : Nat) (leftA : Option Addr) (leftn : Nat) (leftc : Nat) (w32 : World) : Prop :=
  NilVC h fun p8 =>
  SetVC w32 (p8.add 2) (.slice leftA leftn leftc) fun w33 =>
  JoinVC (S := Unit) (fun J1791 =>
      JoinVC (S := Bool) (fun J3582 =>
          Br (!more)
            (NilVC h fun p9 =>
            ∃ x15 : Int, w33.cell? (p9.add 3) = some (.int .i64 x15) ∧
            J3582 (decide (x15 < 0)) w33)
            (J3582 false w33))
        (fun s_ w34 => hole_Holes_Put_J3582 h off datan J1791 s_ w34))
    (fun _ w40 => hole_Holes_Put_J1791 R h off dataA datan datac more g1 g2 w40)
set_option maxRecDepth 100000 in
def hole_Holes_Put_J27 (R : Ending → World → Prop) (h : Option Addr) (off : Int) (dataA : Option Addr) (datan : Nat) (datac : Nat) (more : Bool) (g1 : Nat)  (w7 : World) : Prop :=
  NewVC w7 (.cells (FitV.z : FitV).cells.toArray 84) fun g2 w8 =>
  JoinVC (S := (Option Addr × Nat × Nat)) (fun J447 =>
      NilVC h fun p4 =>
      ∃ (xA3 : Option Addr) (xn3 xc3 : Nat), w8.cell? (p4.add 2) = some (.slice xA3 xn3 xc3) ∧
      LoopVC (S := (Option Addr × Nat × Nat) × Int) (fun s_ w9 K3578 => hole_Holes_Put_L3578 h off dataA datan datac g2 J447 xA3 xn3 s_.1.1 s_.1.2.1 s_.1.2.2 s_.2 w9 K3578) ((none, 0, 0), 0) w8)
    (fun s_ w32 => hole_Holes_Put_J447 R h off dataA datan datac more g1 g2 s_.1 s_.2.1 s_.2.2 w32)
set_option maxRecDepth 100000 in
def hole_Holes_Put_VC (h : Option Addr) (off : Int) (dataA : Option Addr) (datan : Nat) (datac : Nat) (more : Bool) (w : World) (R : Ending → World → Prop) : Prop :=
  NewVC w (.cells (FitV.z : FitV).cells.toArray 84) fun g1 w1 =>
  Calls Tryz.prog 77 #[.pointer h, .int .i64 off, .slice dataA datan datac, .bool more] w1 (onRet (fun r_ w2 => ∃ x : Int, r_ = .int .i64 x ∧
  Br (decide (x ≠ 0))
    (Stores ⟨g1, 0, none⟩ 0 (FitV.z : FitV).cells w2 fun w3 =>
    FitV.ex fun res => CellsAt w3 ⟨g1, 0, none⟩ 0 res.cells ∧
  R (.returned (.tuple #[res.val, .int .i64 x])) w3)
    (JoinVC (S := Unit) (fun J27 =>
      NilVC h fun p =>
      ∃ (xA : Option Addr) (xn xc : Nat), w2.cell? (p.add 1) = some (.slice xA xn xc) ∧
      Br (decide ((xn : Int) < IntKind.i64.wrap (off + (datan : Int))))
        (DrawVC w2 fun S1 w4 =>
        NilVC h fun p1 =>
        ∃ (xA1 : Option Addr) (xn1 xc1 : Nat), (∀ w' : World, S1 w' → w'.cell? (p1.add 1) = some (.slice xA1 xn1 xc1)) ∧
        NilVC h fun p2 =>
        ∃ (xA2 : Option Addr) (xn2 xc2 : Nat), (∀ w' : World, S1 w' → w'.cell? (p2.add 1) = some (.slice xA2 xn2 xc2)) ∧
        AppVC Tryz.prog #[28, 3] 28 (.slice xA1 xn1 xc1) (.int .i64 (IntKind.i64.wrap (IntKind.i64.wrap (off + (datan : Int)) - (xn2 : Int)))) w4 fun lA ln lc w5 =>
        S1 w5 ∧
        NilVC h fun p3 =>
        SetVC w5 (p3.add 1) (.slice lA ln lc) fun w6 =>
        J27 () w6)
        (J27 () w2))
    (fun _ w7 => hole_Holes_Put_J27 R h off dataA datan datac more g1 w7)))
    (fun ch w2 => R (.panicked ch) w2))
def hole_Holes_Put_H : Hints := [(27, []), (3578, [(13, .slice), (62, .int .i64)]), (3664287, [(13, .slice)]), (447, [(13, .slice)]), (3582, [(150, .bool)]), (57323, [(177, .bool)]), (1791, [])]
set_option maxRecDepth 100000 in
theorem hole_Holes_Put_of (h : Option Addr) (off : Int) (dataA : Option Addr) (datan : Nat) (datac : Nat) (more : Bool) (w : World) (R : Ending → World → Prop) (hvc_ : hole_Holes_Put_VC h off dataA datan datac more w R) :
    Calls Tryz.prog 57 #[.pointer h, .int .i64 off, .slice dataA datan datac, .bool more] w R :=
  calls_of_wpc callOk mixedOk (H := hole_Holes_Put_H) (args := [.pointer h, .int .i64 off, .slice dataA datan datac, .bool more]) (fn := Tryz.f57) (c := bodyOf Tryz.f57) Tryz.func57 rfl (Nat.le_of_ble_eq_true rfl)
    (Eq.mp (by kernel_rfl : hole_Holes_Put_VC h off dataA datan datac more w R = wpc Tryz.prog callF Tryz.f57.ntmps hole_Holes_Put_H 1 (bodyOf Tryz.f57) (argEnv 0 [.pointer h, .int .i64 off, .slice dataA datan datac, .bool more]) [] w (finish Tryz.prog callF Tryz.f57.results.toList R)) hvc_)

set_option maxRecDepth 100000 in
def hole_Holes_Total_VC (h : Option Addr) (w : World) (R : Ending → World → Prop) : Prop :=
  DrawVC w fun S1 w1 =>
  NilVC h fun p =>
  ∃ x : Int, (∀ w' : World, S1 w' → w'.cell? (p.add 3) = some (.int .i64 x)) ∧
  NilVC h fun p1 =>
  ∃ x1 : Int, (∀ w' : World, S1 w' → w'.cell? (p1.add 3) = some (.int .i64 x1)) ∧
  S1 w1 ∧
  R (.returned (.tuple #[.int .i64 (if x < 0 then 0 else x), .bool (decide ((0 : Int) ≤ x1))])) w1
def hole_Holes_Total_H : Hints := []
set_option maxRecDepth 100000 in
theorem hole_Holes_Total_of (h : Option Addr) (w : World) (R : Ending → World → Prop) (hvc_ : hole_Holes_Total_VC h w R) :
    Calls Tryz.prog 56 #[.pointer h] w R :=
  calls_of_wpc callOk mixedOk (H := hole_Holes_Total_H) (args := [.pointer h]) (fn := Tryz.f56) (c := bodyOf Tryz.f56) Tryz.func56 rfl (Nat.le_of_ble_eq_true rfl)
    (Eq.mp (by kernel_rfl : hole_Holes_Total_VC h w R = wpc Tryz.prog callF Tryz.f56.ntmps hole_Holes_Total_H 1 (bodyOf Tryz.f56) (argEnv 0 [.pointer h]) [] w (finish Tryz.prog callF Tryz.f56.results.toList R)) hvc_)

set_option maxRecDepth 100000 in
def hole_Holes_Whole_VC (h : Option Addr) (w : World) (R : Ending → World → Prop) : Prop :=
  NilVC h fun p =>
  ∃ x : Int, w.cell? (p.add 3) = some (.int .i64 x) ∧
  Br (decide ((0 : Int) ≤ x))
    (NilVC h fun p1 =>
    ∃ (xA : Option Addr) (xn xc : Nat), w.cell? (p1.add 2) = some (.slice xA xn xc) ∧
    R (.returned (.bool (decide ((xn : Int) = 0)))) w)
    (R (.returned (.bool false)) w)
def hole_Holes_Whole_H : Hints := []
set_option maxRecDepth 100000 in
theorem hole_Holes_Whole_of (h : Option Addr) (w : World) (R : Ending → World → Prop) (hvc_ : hole_Holes_Whole_VC h w R) :
    Calls Tryz.prog 60 #[.pointer h] w R :=
  calls_of_wpc callOk mixedOk (H := hole_Holes_Whole_H) (args := [.pointer h]) (fn := Tryz.f60) (c := bodyOf Tryz.f60) Tryz.func60 rfl (Nat.le_of_ble_eq_true rfl)
    (Eq.mp (by kernel_rfl : hole_Holes_Whole_VC h w R = wpc Tryz.prog callF Tryz.f60.ntmps hole_Holes_Whole_H 1 (bodyOf Tryz.f60) (argEnv 0 [.pointer h]) [] w (finish Tryz.prog callF Tryz.f60.results.toList R)) hvc_)

set_option maxRecDepth 100000 in
def hole_Holes_Bytes_VC (h : Option Addr) (w : World) (R : Ending → World → Prop) : Prop :=
  Calls Tryz.prog 60 #[.pointer h] w (onRet (fun r_ w1 => ∃ x : Bool, r_ = .bool x ∧
  Br (!x)
    (R (.returned (.tuple #[.slice none 0 0, .bool false])) w1)
    (DrawVC w1 fun S1 w2 =>
  NilVC h fun p =>
  ∃ (xA : Option Addr) (xn xc : Nat), (∀ w' : World, S1 w' → w'.cell? (p.add 1) = some (.slice xA xn xc)) ∧
  NilVC h fun p1 =>
  ∃ x1 : Int, (∀ w' : World, S1 w' → w'.cell? (p1.add 3) = some (.int .i64 x1)) ∧
  SliceVC xA xn xc 1 none (some x1) none fun sA sn sc =>
  Calls Tryz.prog 22 #[.slice sA sn sc] w2 (onRet (fun r_1 w3 => ∃ (xA1 : Option Addr) (xn1 xc1 : Nat), r_1 = .slice xA1 xn1 xc1 ∧
  S1 w3 ∧
  R (.returned (.tuple #[.slice xA1 xn1 xc1, .bool true])) w3)
    (fun _ _ => False))))
    (fun ch w1 => R (.panicked ch) w1))
def hole_Holes_Bytes_H : Hints := []
set_option maxRecDepth 100000 in
theorem hole_Holes_Bytes_of (h : Option Addr) (w : World) (R : Ending → World → Prop) (hvc_ : hole_Holes_Bytes_VC h w R) :
    Calls Tryz.prog 32 #[.pointer h] w R :=
  calls_of_wpc callOk mixedOk (H := hole_Holes_Bytes_H) (args := [.pointer h]) (fn := Tryz.f32) (c := bodyOf Tryz.f32) Tryz.func32 rfl (Nat.le_of_ble_eq_true rfl)
    (Eq.mp (by kernel_rfl : hole_Holes_Bytes_VC h w R = wpc Tryz.prog callF Tryz.f32.ntmps hole_Holes_Bytes_H 1 (bodyOf Tryz.f32) (argEnv 0 [.pointer h]) [] w (finish Tryz.prog callF Tryz.f32.results.toList R)) hvc_)
end N6
end Go.Proofs.YthhgbpmihhljdaaGreatDoor
