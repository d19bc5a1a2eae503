/- WRITTEN BY a program of this session (vc.py): for each Go function the condition that is enough for its contract, and the theorem that it is. -/
import Derived.Test.YtjngdcilnipjcaaDoorProg
import Derived.Test.YtjngdcilnipjcaaDoorBq
namespace Go.Proofs.YtjngdcilnipjcaaDoor
open Go.Eng
def bodyOf (fn : Func) : Code := match fn.body with | some c => c | none => .skip
def callF (f : Nat) : Bool := Nat.ble 6 f && Nat.ble f 118
theorem callAll : ((List.range 119).all fun f => !(callF f) || callableB Tryd.prog f) = true := by kernel_rfl
theorem callOk : ∀ f, callF f = true → callableB Tryd.prog f = true := by
  intro f hf
  have h := List.all_eq_true.1 callAll f (by simp [callF] at hf; simp; omega)
  simpa [hf] using h
theorem mixedOk : Tryd.prog.follows .mixedOrders = true := by kernel_rfl

set_option maxRecDepth 100000 in
def weirlaw8_laid_J3 (R : Ending → World → Prop)  (bA1 : Option Addr) (bn1 : Nat) (bc1 : Nat) (w1 : World) : Prop :=
  AppVC Tryd.prog #[22, 22] 22 (.slice none 0 0) (.slice bA1 bn1 bc1) w1 fun lA ln lc w2 =>
  NewVC w2 (.cells #[.int .u8 201, .int .u8 202, .int .u8 203, .int .u8 204, .int .u8 205] 5) fun g1 w3 =>
  AppVC Tryd.prog #[22, 22] 22 (.slice lA ln lc) (.slice (some ⟨g1, 0, none⟩) 5 5) w3 fun lA1 ln1 lc1 w4 =>
  SliceVC lA1 ln1 lc1 1 none (some (bn1 : Int)) none fun sA1 sn1 sc1 =>
  R (.returned (.tuple #[.slice sA1 sn1 sc1, .slice lA1 ln1 lc1])) w4
set_option maxRecDepth 100000 in
def weirlaw8_laid_VC (bA : Option Addr) (bn : Nat) (bc : Nat) (w : World) (R : Ending → World → Prop) : Prop :=
  JoinVC (S := (Option Addr × Nat × Nat)) (fun J3 =>
      Br (decide ((66000 : Int) < (bn : Int)))
        (SliceVC bA bn bc 1 none (some 66000) none fun sA sn sc =>
        J3 (sA, sn, sc) w)
        (J3 (bA, bn, bc) w))
    (fun s w1 => weirlaw8_laid_J3 R s.1 s.2.1 s.2.2 w1)
def weirlaw8_laid_H : Hints := [(3, [(0, .slice)])]
set_option maxRecDepth 100000 in
theorem weirlaw8_laid_of (bA : Option Addr) (bn : Nat) (bc : Nat) (w : World) (R : Ending → World → Prop) (h : weirlaw8_laid_VC bA bn bc w R) :
    Calls Tryd.prog 14 #[.slice bA bn bc] w R :=
  calls_of_wpc callOk mixedOk (H := weirlaw8_laid_H) (args := [.slice bA bn bc]) (fn := Tryd.f14) (c := bodyOf Tryd.f14) Tryd.func14 rfl (Nat.le_of_ble_eq_true rfl)
    (Eq.mp (by kernel_rfl : weirlaw8_laid_VC bA bn bc w R = wpc Tryd.prog callF Tryd.f14.ntmps weirlaw8_laid_H 1 (bodyOf Tryd.f14) (argEnv 0 [.slice bA bn bc]) [] w (finish Tryd.prog callF Tryd.f14.results.toList R)) h)

set_option maxRecDepth 100000 in
def weirlaw8_same_L58 (R : Ending → World → Prop) (aA : Option Addr) (an : Nat) (bA : Option Addr) (bn : Nat) (i : Int) (w1 : World) (K58 : (Int → World → Prop)) : Prop :=
  Br (decide (i < (an : Int)))
    (DrawVC w1 fun S1 w2 =>
  IdxVC aA an 1 i fun a =>
  ∃ x : Int, (∀ w' : World, S1 w' → w'.cell? a = some (.int .u8 x)) ∧
  IdxVC bA bn 1 i fun a1 =>
  ∃ x1 : Int, (∀ w' : World, S1 w' → w'.cell? a1 = some (.int .u8 x1)) ∧
  Br (decide (x ≠ x1))
    (R (.returned (.bool false)) w2)
    (K58 (IntKind.i64.wrap (i + 1)) w2))
    (R (.returned (.bool true)) w1)
set_option maxRecDepth 100000 in
def weirlaw8_same_VC (aA : Option Addr) (an : Nat) (_ac : Nat) (bA : Option Addr) (bn : Nat) (_bc : Nat) (w : World) (R : Ending → World → Prop) : Prop :=
  Br (decide ((an : Int) ≠ (bn : Int)))
    (R (.returned (.bool false)) w)
    (LoopVC (S := Int) (fun s w1 K58 => weirlaw8_same_L58 R aA an bA bn s w1 K58) 0 w)
def weirlaw8_same_H : Hints := [(58, [(5, .int .i64)])]
set_option maxRecDepth 100000 in
theorem weirlaw8_same_of (aA : Option Addr) (an : Nat) (ac : Nat) (bA : Option Addr) (bn : Nat) (bc : Nat) (w : World) (R : Ending → World → Prop) (h : weirlaw8_same_VC aA an ac bA bn bc w R) :
    Calls Tryd.prog 18 #[.slice aA an ac, .slice bA bn bc] w R :=
  calls_of_wpc callOk mixedOk (H := weirlaw8_same_H) (args := [.slice aA an ac, .slice bA bn bc]) (fn := Tryd.f18) (c := bodyOf Tryd.f18) Tryd.func18 rfl (Nat.le_of_ble_eq_true rfl)
    (Eq.mp (by kernel_rfl : weirlaw8_same_VC aA an ac bA bn bc w R = wpc Tryd.prog callF Tryd.f18.ntmps weirlaw8_same_H 1 (bodyOf Tryd.f18) (argEnv 0 [.slice aA an ac, .slice bA bn bc]) [] w (finish Tryd.prog callF Tryd.f18.results.toList R)) h)

set_option maxRecDepth 100000 in
def weirref8_Same_L58 (R : Ending → World → Prop) (g1 : Nat) (g2 : Nat) (i : Int) (w3 : World) (K58 : (Int → World → Prop)) : Prop :=
  ∃ (xA2 : Option Addr) (xn2 xc2 : Nat), w3.cell? ⟨g1, 4, none⟩ = some (.slice xA2 xn2 xc2) ∧
  Br (decide (i < (xn2 : Int)))
    (DrawVC w3 fun S1 w4 =>
  ∃ (xA3 : Option Addr) (xn3 xc3 : Nat), (∀ w' : World, S1 w' → w'.cell? ⟨g1, 4, none⟩ = some (.slice xA3 xn3 xc3)) ∧
  IdxVC xA3 xn3 1 i fun a =>
  ∃ x8 : Int, (∀ w' : World, S1 w' → w'.cell? a = some (.int .u8 x8)) ∧
  ∃ (xA4 : Option Addr) (xn4 xc4 : Nat), (∀ w' : World, S1 w' → w'.cell? ⟨g2, 4, none⟩ = some (.slice xA4 xn4 xc4)) ∧
  IdxVC xA4 xn4 1 i fun a1 =>
  ∃ x9 : Int, (∀ w' : World, S1 w' → w'.cell? a1 = some (.int .u8 x9)) ∧
  Br (decide (x8 ≠ x9))
    (R (.returned (.bool false)) w4)
    (K58 (IntKind.i64.wrap (i + 1)) w4))
    (R (.returned (.bool true)) w3)
set_option maxRecDepth 100000 in
def weirref8_Same_VC (a_V : Int) (a_Type : Int) (a_Code : Int) (a_Rest : Int) (a_DataA : Option Addr) (a_Datan : Nat) (a_Datac : Nat) (b_V : Int) (b_Type : Int) (b_Code : Int) (b_Rest : Int) (b_DataA : Option Addr) (b_Datan : Nat) (b_Datac : Nat) (w : World) (R : Ending → World → Prop) : Prop :=
  NewVC w (.cells #[.int .i64 a_V, .int .i64 a_Type, .int .i64 a_Code, .int .i64 a_Rest, .slice a_DataA a_Datan a_Datac] 24) fun g1 w1 =>
  NewVC w1 (.cells #[.int .i64 b_V, .int .i64 b_Type, .int .i64 b_Code, .int .i64 b_Rest, .slice b_DataA b_Datan b_Datac] 24) fun g2 w2 =>
  ∃ x : Int, w2.cell? ⟨g1, 0, none⟩ = some (.int .i64 x) ∧
  ∃ x1 : Int, w2.cell? ⟨g2, 0, none⟩ = some (.int .i64 x1) ∧
  Br (decide (x ≠ x1))
    (R (.returned (.bool false)) w2)
    (∃ x2 : Int, w2.cell? ⟨g1, 1, none⟩ = some (.int .i64 x2) ∧
    ∃ x3 : Int, w2.cell? ⟨g2, 1, none⟩ = some (.int .i64 x3) ∧
    Br (decide (x2 ≠ x3))
      (R (.returned (.bool false)) w2)
      (∃ x4 : Int, w2.cell? ⟨g1, 2, none⟩ = some (.int .i64 x4) ∧
      ∃ x5 : Int, w2.cell? ⟨g2, 2, none⟩ = some (.int .i64 x5) ∧
      Br (decide (x4 ≠ x5))
        (R (.returned (.bool false)) w2)
        (∃ x6 : Int, w2.cell? ⟨g1, 3, none⟩ = some (.int .i64 x6) ∧
        ∃ x7 : Int, w2.cell? ⟨g2, 3, none⟩ = some (.int .i64 x7) ∧
        Br (decide (x6 ≠ x7))
          (R (.returned (.bool false)) w2)
          (∃ (xA : Option Addr) (xn xc : Nat), w2.cell? ⟨g1, 4, none⟩ = some (.slice xA xn xc) ∧
          ∃ (xA1 : Option Addr) (xn1 xc1 : Nat), w2.cell? ⟨g2, 4, none⟩ = some (.slice xA1 xn1 xc1) ∧
          Br (decide ((xn : Int) ≠ (xn1 : Int)))
    (R (.returned (.bool false)) w2)
    (LoopVC (S := Int) (fun s w3 K58 => weirref8_Same_L58 R g1 g2 s w3 K58) 0 w2)))))
def weirref8_Same_H : Hints := [(58, [(5, .int .i64)])]
set_option maxRecDepth 100000 in
theorem weirref8_Same_of (a_V : Int) (a_Type : Int) (a_Code : Int) (a_Rest : Int) (a_DataA : Option Addr) (a_Datan : Nat) (a_Datac : Nat) (b_V : Int) (b_Type : Int) (b_Code : Int) (b_Rest : Int) (b_DataA : Option Addr) (b_Datan : Nat) (b_Datac : Nat) (w : World) (R : Ending → World → Prop) (h : weirref8_Same_VC a_V a_Type a_Code a_Rest a_DataA a_Datan a_Datac b_V b_Type b_Code b_Rest b_DataA b_Datan b_Datac w R) :
    Calls Tryd.prog 21 #[.agg #[.int .i64 a_V, .int .i64 a_Type, .int .i64 a_Code, .int .i64 a_Rest, .slice a_DataA a_Datan a_Datac], .agg #[.int .i64 b_V, .int .i64 b_Type, .int .i64 b_Code, .int .i64 b_Rest, .slice b_DataA b_Datan b_Datac]] w R :=
  calls_of_wpc callOk mixedOk (H := weirref8_Same_H) (args := [.agg #[.int .i64 a_V, .int .i64 a_Type, .int .i64 a_Code, .int .i64 a_Rest, .slice a_DataA a_Datan a_Datac], .agg #[.int .i64 b_V, .int .i64 b_Type, .int .i64 b_Code, .int .i64 b_Rest, .slice b_DataA b_Datan b_Datac]]) (fn := Tryd.f21) (c := bodyOf Tryd.f21) Tryd.func21 rfl (Nat.le_of_ble_eq_true rfl)
    (Eq.mp (by kernel_rfl : weirref8_Same_VC a_V a_Type a_Code a_Rest a_DataA a_Datan a_Datac b_V b_Type b_Code b_Rest b_DataA b_Datan b_Datac w R = wpc Tryd.prog callF Tryd.f21.ntmps weirref8_Same_H 1 (bodyOf Tryd.f21) (argEnv 0 [.agg #[.int .i64 a_V, .int .i64 a_Type, .int .i64 a_Code, .int .i64 a_Rest, .slice a_DataA a_Datan a_Datac], .agg #[.int .i64 b_V, .int .i64 b_Type, .int .i64 b_Code, .int .i64 b_Rest, .slice b_DataA b_Datan b_Datac]]) [] w (finish Tryd.prog callF Tryd.f21.results.toList R)) h)

set_option maxRecDepth 100000 in
def weirlaw8_marked_L26 (R : Ending → World → Prop) (lA : Option Addr) (ln : Nat) (lc : Nat) (m : Int) (i : Int) (w1 : World) (K26 : (Int → World → Prop)) : Prop :=
  Br (decide (i < (ln : Int)))
    (IdxVC lA ln 1 i fun a =>
  SetVC w1 a (.int .u8 m) fun w2 =>
  K26 (IntKind.i64.wrap (i + 1)) w2)
    (NewVC w1 (.cells #[.int .u8 m] 5) fun g1 w3 =>
  AppVC Tryd.prog #[22, 22] 22 (.slice lA ln lc) (.slice (some ⟨g1, 0, none⟩) 1 1) w3 fun lA1 ln1 lc1 w4 =>
  NewVC w4 (.cells #[.int .u8 m, .int .u8 m, .int .u8 m] 5) fun g2 w5 =>
  AppVC Tryd.prog #[22, 22] 22 (.slice lA ln lc) (.slice (some ⟨g2, 0, none⟩) 3 3) w5 fun lA2 ln2 lc2 w6 =>
  NewVC w6 (.cells #[.slice lA ln lc, .slice lA1 ln1 lc1, .slice lA2 ln2 lc2] 22) fun g3 w7 =>
  R (.returned (.slice (some ⟨g3, 0, none⟩) 3 3)) w7)
set_option maxRecDepth 100000 in
def weirlaw8_marked_VC (lA : Option Addr) (ln : Nat) (lc : Nat) (m : Int) (w : World) (R : Ending → World → Prop) : Prop :=
  LoopVC (S := Int) (fun s w1 K26 => weirlaw8_marked_L26 R lA ln lc m s w1 K26) 0 w
def weirlaw8_marked_H : Hints := [(26, [(5, .int .i64)])]
set_option maxRecDepth 100000 in
theorem weirlaw8_marked_of (lA : Option Addr) (ln : Nat) (lc : Nat) (m : Int) (w : World) (R : Ending → World → Prop) (h : weirlaw8_marked_VC lA ln lc m w R) :
    Calls Tryd.prog 22 #[.slice lA ln lc, .int .u8 m] w R :=
  calls_of_wpc callOk mixedOk (H := weirlaw8_marked_H) (args := [.slice lA ln lc, .int .u8 m]) (fn := Tryd.f22) (c := bodyOf Tryd.f22) Tryd.func22 rfl (Nat.le_of_ble_eq_true rfl)
    (Eq.mp (by kernel_rfl : weirlaw8_marked_VC lA ln lc m w R = wpc Tryd.prog callF Tryd.f22.ntmps weirlaw8_marked_H 1 (bodyOf Tryd.f22) (argEnv 0 [.slice lA ln lc, .int .u8 m]) [] w (finish Tryd.prog callF Tryd.f22.results.toList R)) h)

set_option maxRecDepth 100000 in
def weirlaw8_stand_L1682 (R : Ending → World → Prop) (lA : Option Addr) (ln : Nat) (m : Int) (i : Int) (K26 : (Int → World → Prop)) (k : Int) (w2 : World) (K1682 : (Int → World → Prop)) : Prop :=
  IdxVC lA ln 1 i fun a =>
  ∃ (xA : Option Addr) (xn xc : Nat), w2.cell? a = some (.slice xA xn xc) ∧
  Br (decide (k < (xn : Int)))
    (IdxVC lA ln 1 i fun a1 =>
  ∃ (xA1 : Option Addr) (xn1 xc1 : Nat), w2.cell? a1 = some (.slice xA1 xn1 xc1) ∧
  IdxVC xA1 xn1 1 k fun a2 =>
  ∃ x : Int, w2.cell? a2 = some (.int .u8 x) ∧
  Br (decide (x ≠ m))
    (R (.returned (.bool false)) w2)
    (K1682 (IntKind.i64.wrap (k + 1)) w2))
    (K26 (IntKind.i64.wrap (i + 1)) w2)
set_option maxRecDepth 100000 in
def weirlaw8_stand_L26 (R : Ending → World → Prop) (lA : Option Addr) (ln : Nat) (m : Int) (i : Int) (w1 : World) (K26 : (Int → World → Prop)) : Prop :=
  Br (decide (i < (ln : Int)))
    (LoopVC (S := Int) (fun s w2 K1682 => weirlaw8_stand_L1682 R lA ln m i K26 s w2 K1682) 0 w1)
    (R (.returned (.bool true)) w1)
set_option maxRecDepth 100000 in
def weirlaw8_stand_VC (lA : Option Addr) (ln : Nat) (_lc : Nat) (m : Int) (w : World) (R : Ending → World → Prop) : Prop :=
  LoopVC (S := Int) (fun s w1 K26 => weirlaw8_stand_L26 R lA ln m s w1 K26) 0 w
def weirlaw8_stand_H : Hints := [(26, [(5, .int .i64)]), (1682, [(6, .int .i64)])]
set_option maxRecDepth 100000 in
theorem weirlaw8_stand_of (lA : Option Addr) (ln : Nat) (lc : Nat) (m : Int) (w : World) (R : Ending → World → Prop) (h : weirlaw8_stand_VC lA ln lc m w R) :
    Calls Tryd.prog 23 #[.slice lA ln lc, .int .u8 m] w R :=
  calls_of_wpc callOk mixedOk (H := weirlaw8_stand_H) (args := [.slice lA ln lc, .int .u8 m]) (fn := Tryd.f23) (c := bodyOf Tryd.f23) Tryd.func23 rfl (Nat.le_of_ble_eq_true rfl)
    (Eq.mp (by kernel_rfl : weirlaw8_stand_VC lA ln lc m w R = wpc Tryd.prog callF Tryd.f23.ntmps weirlaw8_stand_H 1 (bodyOf Tryd.f23) (argEnv 0 [.slice lA ln lc, .int .u8 m]) [] w (finish Tryd.prog callF Tryd.f23.results.toList R)) h)

set_option maxRecDepth 100000 in
def icmp_Check_J12 (R : Ending → World → Prop) (g1 : Nat) (t3_ : Bool) (w2 : World) : Prop :=
  Br t3_
    (R (.returned (.int .i64 1)) w2)
    (∃ x2 : Int, w2.cell? ⟨g1, 1, none⟩ = some (.int .i64 x2) ∧
    Br (decide (x2 < 0))
      (R (.returned (.int .i64 82)) w2)
      (∃ x3 : Int, w2.cell? ⟨g1, 1, none⟩ = some (.int .i64 x3) ∧
      Br (decide ((255 : Int) < x3))
        (R (.returned (.int .i64 82)) w2)
        (∃ x4 : Int, w2.cell? ⟨g1, 2, none⟩ = some (.int .i64 x4) ∧
        Br (decide (x4 < 0))
          (R (.returned (.int .i64 82)) w2)
          (∃ x5 : Int, w2.cell? ⟨g1, 2, none⟩ = some (.int .i64 x5) ∧
          Br (decide ((255 : Int) < x5))
            (R (.returned (.int .i64 82)) w2)
            (∃ x6 : Int, w2.cell? ⟨g1, 3, none⟩ = some (.int .i64 x6) ∧
            Br (decide (x6 < 0))
              (R (.returned (.int .i64 82)) w2)
              (∃ x7 : Int, w2.cell? ⟨g1, 3, none⟩ = some (.int .i64 x7) ∧
              Br (decide ((4294967295 : Int) < x7))
      (R (.returned (.int .i64 82)) w2)
      (∃ (xA : Option Addr) (xn xc : Nat), w2.cell? ⟨g1, 4, none⟩ = some (.slice xA xn xc) ∧
      Br (decide ((65515 : Int) < IntKind.i64.wrap (8 + (xn : Int))))
        (R (.returned (.int .i64 2)) w2)
        (R (.returned (.int .i64 0)) w2))))))))
set_option maxRecDepth 100000 in
def icmp_Check_VC (m_V : Int) (m_Type : Int) (m_Code : Int) (m_Rest : Int) (m_DataA : Option Addr) (m_Datan : Nat) (m_Datac : Nat) (w : World) (R : Ending → World → Prop) : Prop :=
  NewVC w (.cells #[.int .i64 m_V, .int .i64 m_Type, .int .i64 m_Code, .int .i64 m_Rest, .slice m_DataA m_Datan m_Datac] 24) fun g1 w1 =>
  JoinVC (S := Bool) (fun J12 =>
      ∃ x : Int, w1.cell? ⟨g1, 0, none⟩ = some (.int .i64 x) ∧
      Br (decide (x ≠ 4))
        (∃ x1 : Int, w1.cell? ⟨g1, 0, none⟩ = some (.int .i64 x1) ∧
        J12 (decide (x1 ≠ 6)) w1)
        (J12 false w1))
    (fun s w2 => icmp_Check_J12 R g1 s w2)
def icmp_Check_H : Hints := [(12, [(3, .bool)])]
set_option maxRecDepth 100000 in
theorem icmp_Check_of (m_V : Int) (m_Type : Int) (m_Code : Int) (m_Rest : Int) (m_DataA : Option Addr) (m_Datan : Nat) (m_Datac : Nat) (w : World) (R : Ending → World → Prop) (h : icmp_Check_VC m_V m_Type m_Code m_Rest m_DataA m_Datan m_Datac w R) :
    Calls Tryd.prog 24 #[.agg #[.int .i64 m_V, .int .i64 m_Type, .int .i64 m_Code, .int .i64 m_Rest, .slice m_DataA m_Datan m_Datac]] w R :=
  calls_of_wpc callOk mixedOk (H := icmp_Check_H) (args := [.agg #[.int .i64 m_V, .int .i64 m_Type, .int .i64 m_Code, .int .i64 m_Rest, .slice m_DataA m_Datan m_Datac]]) (fn := Tryd.f24) (c := bodyOf Tryd.f24) Tryd.func24 rfl (Nat.le_of_ble_eq_true rfl)
    (Eq.mp (by kernel_rfl : icmp_Check_VC m_V m_Type m_Code m_Rest m_DataA m_Datan m_Datac w R = wpc Tryd.prog callF Tryd.f24.ntmps icmp_Check_H 1 (bodyOf Tryd.f24) (argEnv 0 [.agg #[.int .i64 m_V, .int .i64 m_Type, .int .i64 m_Code, .int .i64 m_Rest, .slice m_DataA m_Datan m_Datac]]) [] w (finish Tryd.prog callF Tryd.f24.results.toList R)) h)

def icmp_Serialise_D62 (R : Ending → World → Prop) (x110 : Int) (w9 : World) (g3 : Nat) (x0A : Option Addr) (x0n : Nat) (x0c : Nat) (x0A1 : Option Addr) (x0n1 : Nat) (x0c1 : Nat) : Prop :=
  Br (decide (x110 ≠ 0))
    (R (.returned (.tuple #[.slice none 0 0, .int .i64 x110])) w9)
    (∃ (xA2 : Option Addr) (xn2 xc2 : Nat), w9.cell? ⟨g3, 4, none⟩ = some (.slice xA2 xn2 xc2) ∧
  NewVC w9 (.cells #[.slice x0A x0n x0c, .slice x0A1 x0n1 x0c1, .slice xA2 xn2 xc2] 22) fun g5 w10 =>
  Calls Tryd.prog 60 #[.slice (some ⟨g5, 0, none⟩) 3 3] w10 (onRet (fun r_4 w11 => ∃ x24 : Int, r_4 = .int .i64 x24 ∧
  IdxVC x0A1 x0n1 1 2 fun a =>
  SetVC w11 a (.int .u8 (IntKind.u8.wrap (Int.fdiv x24 256))) fun w12 =>
  IdxVC x0A1 x0n1 1 3 fun a1 =>
  SetVC w12 a1 (.int .u8 (IntKind.u8.wrap x24)) fun w13 =>
  ∃ (xA3 : Option Addr) (xn3 xc3 : Nat), w13.cell? ⟨g3, 4, none⟩ = some (.slice xA3 xn3 xc3) ∧
  AppVC Tryd.prog #[22, 22] 22 (.slice x0A1 x0n1 x0c1) (.slice xA3 xn3 xc3) w13 fun lA ln lc w14 =>
  R (.returned (.tuple #[.slice lA ln lc, .int .i64 0])) w14)
    (fun ch4 w11 => R (.panicked ch4) w11)))
set_option maxRecDepth 100000 in
def icmp_Serialise_VC (src_V : Int) (src_A0_ : Int) (src_A1_ : Int) (src_A2_ : Int) (src_A3_ : Int) (src_A4_ : Int) (src_A5_ : Int) (src_A6_ : Int) (src_A7_ : Int) (src_A8_ : Int) (src_A9_ : Int) (src_A10_ : Int) (src_A11_ : Int) (src_A12_ : Int) (src_A13_ : Int) (src_A14_ : Int) (src_A15_ : Int) (dst_V : Int) (dst_A0_ : Int) (dst_A1_ : Int) (dst_A2_ : Int) (dst_A3_ : Int) (dst_A4_ : Int) (dst_A5_ : Int) (dst_A6_ : Int) (dst_A7_ : Int) (dst_A8_ : Int) (dst_A9_ : Int) (dst_A10_ : Int) (dst_A11_ : Int) (dst_A12_ : Int) (dst_A13_ : Int) (dst_A14_ : Int) (dst_A15_ : Int) (m_V : Int) (m_Type : Int) (m_Code : Int) (m_Rest : Int) (m_DataA : Option Addr) (m_Datan : Nat) (m_Datac : Nat) (w : World) (R : Ending → World → Prop) : Prop :=
  NewVC w (.cells #[.int .i64 src_V, .int .u8 src_A0_, .int .u8 src_A1_, .int .u8 src_A2_, .int .u8 src_A3_, .int .u8 src_A4_, .int .u8 src_A5_, .int .u8 src_A6_, .int .u8 src_A7_, .int .u8 src_A8_, .int .u8 src_A9_, .int .u8 src_A10_, .int .u8 src_A11_, .int .u8 src_A12_, .int .u8 src_A13_, .int .u8 src_A14_, .int .u8 src_A15_] 31) fun g1 w1 =>
  NewVC w1 (.cells #[.int .i64 dst_V, .int .u8 dst_A0_, .int .u8 dst_A1_, .int .u8 dst_A2_, .int .u8 dst_A3_, .int .u8 dst_A4_, .int .u8 dst_A5_, .int .u8 dst_A6_, .int .u8 dst_A7_, .int .u8 dst_A8_, .int .u8 dst_A9_, .int .u8 dst_A10_, .int .u8 dst_A11_, .int .u8 dst_A12_, .int .u8 dst_A13_, .int .u8 dst_A14_, .int .u8 dst_A15_] 31) fun g2 w2 =>
  NewVC w2 (.cells #[.int .i64 m_V, .int .i64 m_Type, .int .i64 m_Code, .int .i64 m_Rest, .slice m_DataA m_Datan m_Datac] 24) fun g3 w3 =>
  ∃ x0 : Int, ∃ x1 : Int, ∃ x2 : Int, ∃ x3 : Int, ∃ (x4A : Option Addr) (x4n x4c : Nat), CellsAt w3 ⟨g3, 0, none⟩ 0 [.int .i64 x0, .int .i64 x1, .int .i64 x2, .int .i64 x3, .slice x4A x4n x4c] ∧
  Calls Tryd.prog 24 #[.agg #[.int .i64 x0, .int .i64 x1, .int .i64 x2, .int .i64 x3, .slice x4A x4n x4c]] w3 (onRet (fun r_ w4 => ∃ x : Int, r_ = .int .i64 x ∧
  Br (decide (x ≠ 0))
    (R (.returned (.tuple #[.slice none 0 0, .int .i64 x])) w4)
    (∃ x4 : Int, w4.cell? ⟨g3, 0, none⟩ = some (.int .i64 x4) ∧
  ∃ x01 : Int, ∃ x11 : Int, ∃ x21 : Int, ∃ x31 : Int, ∃ x41 : Int, ∃ x5 : Int, ∃ x6 : Int, ∃ x7 : Int, ∃ x8 : Int, ∃ x9 : Int, ∃ x10 : Int, ∃ x111 : Int, ∃ x12 : Int, ∃ x13 : Int, ∃ x14 : Int, ∃ x15 : Int, ∃ x16 : Int, CellsAt w4 ⟨g1, 0, none⟩ 0 [.int .i64 x01, .int .u8 x11, .int .u8 x21, .int .u8 x31, .int .u8 x41, .int .u8 x5, .int .u8 x6, .int .u8 x7, .int .u8 x8, .int .u8 x9, .int .u8 x10, .int .u8 x111, .int .u8 x12, .int .u8 x13, .int .u8 x14, .int .u8 x15, .int .u8 x16] ∧
  ∃ x02 : Int, ∃ x17 : Int, ∃ x22 : Int, ∃ x32 : Int, ∃ x42 : Int, ∃ x51 : Int, ∃ x61 : Int, ∃ x71 : Int, ∃ x81 : Int, ∃ x91 : Int, ∃ x101 : Int, ∃ x112 : Int, ∃ x121 : Int, ∃ x131 : Int, ∃ x141 : Int, ∃ x151 : Int, ∃ x161 : Int, CellsAt w4 ⟨g2, 0, none⟩ 0 [.int .i64 x02, .int .u8 x17, .int .u8 x22, .int .u8 x32, .int .u8 x42, .int .u8 x51, .int .u8 x61, .int .u8 x71, .int .u8 x81, .int .u8 x91, .int .u8 x101, .int .u8 x112, .int .u8 x121, .int .u8 x131, .int .u8 x141, .int .u8 x151, .int .u8 x161] ∧
  ∃ (xA : Option Addr) (xn xc : Nat), w4.cell? ⟨g3, 4, none⟩ = some (.slice xA xn xc) ∧
  Calls Tryd.prog 57 #[.int .i64 x4, .agg #[.int .i64 x01, .int .u8 x11, .int .u8 x21, .int .u8 x31, .int .u8 x41, .int .u8 x5, .int .u8 x6, .int .u8 x7, .int .u8 x8, .int .u8 x9, .int .u8 x10, .int .u8 x111, .int .u8 x12, .int .u8 x13, .int .u8 x14, .int .u8 x15, .int .u8 x16], .agg #[.int .i64 x02, .int .u8 x17, .int .u8 x22, .int .u8 x32, .int .u8 x42, .int .u8 x51, .int .u8 x61, .int .u8 x71, .int .u8 x81, .int .u8 x91, .int .u8 x101, .int .u8 x112, .int .u8 x121, .int .u8 x131, .int .u8 x141, .int .u8 x151, .int .u8 x161], .int .i64 (IntKind.i64.wrap (8 + (xn : Int)))] w4 (onRet (fun r_1 w5 => ∃ (x0A : Option Addr) (x0n x0c : Nat), ∃ x18 : Int, r_1 = .tuple #[.slice x0A x0n x0c, .int .i64 x18] ∧
  Br (decide (x18 ≠ 0))
    (R (.returned (.tuple #[.slice none 0 0, .int .i64 x18])) w5)
    (DrawVC w5 fun S1 w6 =>
  ∃ x19 : Int, (∀ w' : World, S1 w' → w'.cell? ⟨g3, 1, none⟩ = some (.int .i64 x19)) ∧
  ∃ x20 : Int, (∀ w' : World, S1 w' → w'.cell? ⟨g3, 2, none⟩ = some (.int .i64 x20)) ∧
  ∃ x23 : Int, (∀ w' : World, S1 w' → w'.cell? ⟨g3, 3, none⟩ = some (.int .i64 x23)) ∧
  (Calls Tryd.prog 59 #[] w6 (onRet (fun r_2 w7 => ∃ (xA1 : Option Addr) (xn1 xc1 : Nat), r_2 = .slice xA1 xn1 xc1 ∧
  S1 w7 ∧
  NewVC w7 (.cells #[.int .i64 x19, .int .i64 x20, .int .i64 0, .int .i64 x23] 3) fun g4 w8 =>
  S1 w8 ∧
  Calls Tryd.prog 58 #[.slice xA1 xn1 xc1, .slice (some ⟨g4, 0, none⟩) 4 4] w8 (onRet (fun r_3 w9 => ∃ (x0A1 : Option Addr) (x0n1 x0c1 : Nat), ∃ x110 : Int, r_3 = .tuple #[.slice x0A1 x0n1 x0c1, .int .i64 x110] ∧
  S1 w9 ∧
  icmp_Serialise_D62 R x110 w9 g3 x0A x0n x0c x0A1 x0n1 x0c1)
    (fun _ _ => False)))
    (fun _ _ => False))) ∧
  (NewVC w6 (.cells #[.int .i64 x19, .int .i64 x20, .int .i64 0, .int .i64 x23] 3) fun g6 w15 =>
  S1 w15 ∧
  Calls Tryd.prog 59 #[] w15 (onRet (fun r_5 w16 => ∃ (xA4 : Option Addr) (xn4 xc4 : Nat), r_5 = .slice xA4 xn4 xc4 ∧
  S1 w16 ∧
  Calls Tryd.prog 58 #[.slice xA4 xn4 xc4, .slice (some ⟨g6, 0, none⟩) 4 4] w16 (onRet (fun r_6 w17 => ∃ (x0A2 : Option Addr) (x0n2 x0c2 : Nat), ∃ x113 : Int, r_6 = .tuple #[.slice x0A2 x0n2 x0c2, .int .i64 x113] ∧
  S1 w17 ∧
  icmp_Serialise_D62 R x113 w17 g3 x0A x0n x0c x0A2 x0n2 x0c2)
    (fun _ _ => False)))
    (fun _ _ => False)))))
    (fun ch1 w5 => R (.panicked ch1) w5))))
    (fun ch w4 => R (.panicked ch) w4))
def icmp_Serialise_H : Hints := []
set_option maxRecDepth 100000 in
theorem icmp_Serialise_of (src_V : Int) (src_A0_ : Int) (src_A1_ : Int) (src_A2_ : Int) (src_A3_ : Int) (src_A4_ : Int) (src_A5_ : Int) (src_A6_ : Int) (src_A7_ : Int) (src_A8_ : Int) (src_A9_ : Int) (src_A10_ : Int) (src_A11_ : Int) (src_A12_ : Int) (src_A13_ : Int) (src_A14_ : Int) (src_A15_ : Int) (dst_V : Int) (dst_A0_ : Int) (dst_A1_ : Int) (dst_A2_ : Int) (dst_A3_ : Int) (dst_A4_ : Int) (dst_A5_ : Int) (dst_A6_ : Int) (dst_A7_ : Int) (dst_A8_ : Int) (dst_A9_ : Int) (dst_A10_ : Int) (dst_A11_ : Int) (dst_A12_ : Int) (dst_A13_ : Int) (dst_A14_ : Int) (dst_A15_ : Int) (m_V : Int) (m_Type : Int) (m_Code : Int) (m_Rest : Int) (m_DataA : Option Addr) (m_Datan : Nat) (m_Datac : Nat) (w : World) (R : Ending → World → Prop) (h : icmp_Serialise_VC src_V src_A0_ src_A1_ src_A2_ src_A3_ src_A4_ src_A5_ src_A6_ src_A7_ src_A8_ src_A9_ src_A10_ src_A11_ src_A12_ src_A13_ src_A14_ src_A15_ dst_V dst_A0_ dst_A1_ dst_A2_ dst_A3_ dst_A4_ dst_A5_ dst_A6_ dst_A7_ dst_A8_ dst_A9_ dst_A10_ dst_A11_ dst_A12_ dst_A13_ dst_A14_ dst_A15_ m_V m_Type m_Code m_Rest m_DataA m_Datan m_Datac w R) :
    Calls Tryd.prog 26 #[.agg #[.int .i64 src_V, .int .u8 src_A0_, .int .u8 src_A1_, .int .u8 src_A2_, .int .u8 src_A3_, .int .u8 src_A4_, .int .u8 src_A5_, .int .u8 src_A6_, .int .u8 src_A7_, .int .u8 src_A8_, .int .u8 src_A9_, .int .u8 src_A10_, .int .u8 src_A11_, .int .u8 src_A12_, .int .u8 src_A13_, .int .u8 src_A14_, .int .u8 src_A15_], .agg #[.int .i64 dst_V, .int .u8 dst_A0_, .int .u8 dst_A1_, .int .u8 dst_A2_, .int .u8 dst_A3_, .int .u8 dst_A4_, .int .u8 dst_A5_, .int .u8 dst_A6_, .int .u8 dst_A7_, .int .u8 dst_A8_, .int .u8 dst_A9_, .int .u8 dst_A10_, .int .u8 dst_A11_, .int .u8 dst_A12_, .int .u8 dst_A13_, .int .u8 dst_A14_, .int .u8 dst_A15_], .agg #[.int .i64 m_V, .int .i64 m_Type, .int .i64 m_Code, .int .i64 m_Rest, .slice m_DataA m_Datan m_Datac]] w R :=
  calls_of_wpc callOk mixedOk (H := icmp_Serialise_H) (args := [.agg #[.int .i64 src_V, .int .u8 src_A0_, .int .u8 src_A1_, .int .u8 src_A2_, .int .u8 src_A3_, .int .u8 src_A4_, .int .u8 src_A5_, .int .u8 src_A6_, .int .u8 src_A7_, .int .u8 src_A8_, .int .u8 src_A9_, .int .u8 src_A10_, .int .u8 src_A11_, .int .u8 src_A12_, .int .u8 src_A13_, .int .u8 src_A14_, .int .u8 src_A15_], .agg #[.int .i64 dst_V, .int .u8 dst_A0_, .int .u8 dst_A1_, .int .u8 dst_A2_, .int .u8 dst_A3_, .int .u8 dst_A4_, .int .u8 dst_A5_, .int .u8 dst_A6_, .int .u8 dst_A7_, .int .u8 dst_A8_, .int .u8 dst_A9_, .int .u8 dst_A10_, .int .u8 dst_A11_, .int .u8 dst_A12_, .int .u8 dst_A13_, .int .u8 dst_A14_, .int .u8 dst_A15_], .agg #[.int .i64 m_V, .int .i64 m_Type, .int .i64 m_Code, .int .i64 m_Rest, .slice m_DataA m_Datan m_Datac]]) (fn := Tryd.f26) (c := bodyOf Tryd.f26) Tryd.func26 rfl (Nat.le_of_ble_eq_true rfl)
    (Eq.mp (by kernel_rfl : icmp_Serialise_VC src_V src_A0_ src_A1_ src_A2_ src_A3_ src_A4_ src_A5_ src_A6_ src_A7_ src_A8_ src_A9_ src_A10_ src_A11_ src_A12_ src_A13_ src_A14_ src_A15_ dst_V dst_A0_ dst_A1_ dst_A2_ dst_A3_ dst_A4_ dst_A5_ dst_A6_ dst_A7_ dst_A8_ dst_A9_ dst_A10_ dst_A11_ dst_A12_ dst_A13_ dst_A14_ dst_A15_ m_V m_Type m_Code m_Rest m_DataA m_Datan m_Datac w R = wpc Tryd.prog callF Tryd.f26.ntmps icmp_Serialise_H 1 (bodyOf Tryd.f26) (argEnv 0 [.agg #[.int .i64 src_V, .int .u8 src_A0_, .int .u8 src_A1_, .int .u8 src_A2_, .int .u8 src_A3_, .int .u8 src_A4_, .int .u8 src_A5_, .int .u8 src_A6_, .int .u8 src_A7_, .int .u8 src_A8_, .int .u8 src_A9_, .int .u8 src_A10_, .int .u8 src_A11_, .int .u8 src_A12_, .int .u8 src_A13_, .int .u8 src_A14_, .int .u8 src_A15_], .agg #[.int .i64 dst_V, .int .u8 dst_A0_, .int .u8 dst_A1_, .int .u8 dst_A2_, .int .u8 dst_A3_, .int .u8 dst_A4_, .int .u8 dst_A5_, .int .u8 dst_A6_, .int .u8 dst_A7_, .int .u8 dst_A8_, .int .u8 dst_A9_, .int .u8 dst_A10_, .int .u8 dst_A11_, .int .u8 dst_A12_, .int .u8 dst_A13_, .int .u8 dst_A14_, .int .u8 dst_A15_], .agg #[.int .i64 m_V, .int .i64 m_Type, .int .i64 m_Code, .int .i64 m_Rest, .slice m_DataA m_Datan m_Datac]]) [] w (finish Tryd.prog callF Tryd.f26.results.toList R)) h)

set_option maxRecDepth 100000 in
def icmp_pseudo_VC (v_ : Int) (src_V : Int) (src_A0_ : Int) (src_A1_ : Int) (src_A2_ : Int) (src_A3_ : Int) (src_A4_ : Int) (src_A5_ : Int) (src_A6_ : Int) (src_A7_ : Int) (src_A8_ : Int) (src_A9_ : Int) (src_A10_ : Int) (src_A11_ : Int) (src_A12_ : Int) (src_A13_ : Int) (src_A14_ : Int) (src_A15_ : Int) (dst_V : Int) (dst_A0_ : Int) (dst_A1_ : Int) (dst_A2_ : Int) (dst_A3_ : Int) (dst_A4_ : Int) (dst_A5_ : Int) (dst_A6_ : Int) (dst_A7_ : Int) (dst_A8_ : Int) (dst_A9_ : Int) (dst_A10_ : Int) (dst_A11_ : Int) (dst_A12_ : Int) (dst_A13_ : Int) (dst_A14_ : Int) (dst_A15_ : Int) (n : Int) (w : World) (R : Ending → World → Prop) : Prop :=
  NewVC w (.cells #[.int .i64 src_V, .int .u8 src_A0_, .int .u8 src_A1_, .int .u8 src_A2_, .int .u8 src_A3_, .int .u8 src_A4_, .int .u8 src_A5_, .int .u8 src_A6_, .int .u8 src_A7_, .int .u8 src_A8_, .int .u8 src_A9_, .int .u8 src_A10_, .int .u8 src_A11_, .int .u8 src_A12_, .int .u8 src_A13_, .int .u8 src_A14_, .int .u8 src_A15_] 31) fun g1 w1 =>
  NewVC w1 (.cells #[.int .i64 dst_V, .int .u8 dst_A0_, .int .u8 dst_A1_, .int .u8 dst_A2_, .int .u8 dst_A3_, .int .u8 dst_A4_, .int .u8 dst_A5_, .int .u8 dst_A6_, .int .u8 dst_A7_, .int .u8 dst_A8_, .int .u8 dst_A9_, .int .u8 dst_A10_, .int .u8 dst_A11_, .int .u8 dst_A12_, .int .u8 dst_A13_, .int .u8 dst_A14_, .int .u8 dst_A15_] 31) fun g2 w2 =>
  Br (decide (v_ = 4))
    (R (.returned (.tuple #[.slice none 0 0, .int .i64 0])) w2)
    (∃ x : Int, w2.cell? ⟨g1, 0, none⟩ = some (.int .i64 x) ∧
  Br (decide (x ≠ 6))
    (R (.returned (.tuple #[.slice none 0 0, .int .i64 20])) w2)
    (∃ x1 : Int, w2.cell? ⟨g2, 0, none⟩ = some (.int .i64 x1) ∧
    Br (decide (x1 ≠ 6))
    (R (.returned (.tuple #[.slice none 0 0, .int .i64 20])) w2)
    (∃ x0 : Int, ∃ x11 : Int, ∃ x2 : Int, ∃ x3 : Int, ∃ x4 : Int, ∃ x5 : Int, ∃ x6 : Int, ∃ x7 : Int, ∃ x8 : Int, ∃ x9 : Int, ∃ x10 : Int, ∃ x111 : Int, ∃ x12 : Int, ∃ x13 : Int, ∃ x14 : Int, ∃ x15 : Int, ∃ x16 : Int, CellsAt w2 ⟨g1, 0, none⟩ 0 [.int .i64 x0, .int .u8 x11, .int .u8 x2, .int .u8 x3, .int .u8 x4, .int .u8 x5, .int .u8 x6, .int .u8 x7, .int .u8 x8, .int .u8 x9, .int .u8 x10, .int .u8 x111, .int .u8 x12, .int .u8 x13, .int .u8 x14, .int .u8 x15, .int .u8 x16] ∧
  ∃ x01 : Int, ∃ x17 : Int, ∃ x21 : Int, ∃ x31 : Int, ∃ x41 : Int, ∃ x51 : Int, ∃ x61 : Int, ∃ x71 : Int, ∃ x81 : Int, ∃ x91 : Int, ∃ x101 : Int, ∃ x112 : Int, ∃ x121 : Int, ∃ x131 : Int, ∃ x141 : Int, ∃ x151 : Int, ∃ x161 : Int, CellsAt w2 ⟨g2, 0, none⟩ 0 [.int .i64 x01, .int .u8 x17, .int .u8 x21, .int .u8 x31, .int .u8 x41, .int .u8 x51, .int .u8 x61, .int .u8 x71, .int .u8 x81, .int .u8 x91, .int .u8 x101, .int .u8 x112, .int .u8 x121, .int .u8 x131, .int .u8 x141, .int .u8 x151, .int .u8 x161] ∧
  Calls Tryd.prog 87 #[.agg #[.int .i64 x0, .int .u8 x11, .int .u8 x2, .int .u8 x3, .int .u8 x4, .int .u8 x5, .int .u8 x6, .int .u8 x7, .int .u8 x8, .int .u8 x9, .int .u8 x10, .int .u8 x111, .int .u8 x12, .int .u8 x13, .int .u8 x14, .int .u8 x15, .int .u8 x16], .agg #[.int .i64 x01, .int .u8 x17, .int .u8 x21, .int .u8 x31, .int .u8 x41, .int .u8 x51, .int .u8 x61, .int .u8 x71, .int .u8 x81, .int .u8 x91, .int .u8 x101, .int .u8 x112, .int .u8 x121, .int .u8 x131, .int .u8 x141, .int .u8 x151, .int .u8 x161], .int .i64 58, .int .i64 n] w2 (onRet (fun r_ w3 => ∃ (x0A : Option Addr) (x0n x0c : Nat), ∃ x18 : Int, r_ = .tuple #[.slice x0A x0n x0c, .int .i64 x18] ∧
  R (.returned (.tuple #[.slice x0A x0n x0c, .int .i64 x18])) w3)
    (fun ch w3 => R (.panicked ch) w3)))))
def icmp_pseudo_H : Hints := []
set_option maxRecDepth 100000 in
theorem icmp_pseudo_of (v_ : Int) (src_V : Int) (src_A0_ : Int) (src_A1_ : Int) (src_A2_ : Int) (src_A3_ : Int) (src_A4_ : Int) (src_A5_ : Int) (src_A6_ : Int) (src_A7_ : Int) (src_A8_ : Int) (src_A9_ : Int) (src_A10_ : Int) (src_A11_ : Int) (src_A12_ : Int) (src_A13_ : Int) (src_A14_ : Int) (src_A15_ : Int) (dst_V : Int) (dst_A0_ : Int) (dst_A1_ : Int) (dst_A2_ : Int) (dst_A3_ : Int) (dst_A4_ : Int) (dst_A5_ : Int) (dst_A6_ : Int) (dst_A7_ : Int) (dst_A8_ : Int) (dst_A9_ : Int) (dst_A10_ : Int) (dst_A11_ : Int) (dst_A12_ : Int) (dst_A13_ : Int) (dst_A14_ : Int) (dst_A15_ : Int) (n : Int) (w : World) (R : Ending → World → Prop) (h : icmp_pseudo_VC v_ src_V src_A0_ src_A1_ src_A2_ src_A3_ src_A4_ src_A5_ src_A6_ src_A7_ src_A8_ src_A9_ src_A10_ src_A11_ src_A12_ src_A13_ src_A14_ src_A15_ dst_V dst_A0_ dst_A1_ dst_A2_ dst_A3_ dst_A4_ dst_A5_ dst_A6_ dst_A7_ dst_A8_ dst_A9_ dst_A10_ dst_A11_ dst_A12_ dst_A13_ dst_A14_ dst_A15_ n w R) :
    Calls Tryd.prog 57 #[.int .i64 v_, .agg #[.int .i64 src_V, .int .u8 src_A0_, .int .u8 src_A1_, .int .u8 src_A2_, .int .u8 src_A3_, .int .u8 src_A4_, .int .u8 src_A5_, .int .u8 src_A6_, .int .u8 src_A7_, .int .u8 src_A8_, .int .u8 src_A9_, .int .u8 src_A10_, .int .u8 src_A11_, .int .u8 src_A12_, .int .u8 src_A13_, .int .u8 src_A14_, .int .u8 src_A15_], .agg #[.int .i64 dst_V, .int .u8 dst_A0_, .int .u8 dst_A1_, .int .u8 dst_A2_, .int .u8 dst_A3_, .int .u8 dst_A4_, .int .u8 dst_A5_, .int .u8 dst_A6_, .int .u8 dst_A7_, .int .u8 dst_A8_, .int .u8 dst_A9_, .int .u8 dst_A10_, .int .u8 dst_A11_, .int .u8 dst_A12_, .int .u8 dst_A13_, .int .u8 dst_A14_, .int .u8 dst_A15_], .int .i64 n] w R :=
  calls_of_wpc callOk mixedOk (H := icmp_pseudo_H) (args := [.int .i64 v_, .agg #[.int .i64 src_V, .int .u8 src_A0_, .int .u8 src_A1_, .int .u8 src_A2_, .int .u8 src_A3_, .int .u8 src_A4_, .int .u8 src_A5_, .int .u8 src_A6_, .int .u8 src_A7_, .int .u8 src_A8_, .int .u8 src_A9_, .int .u8 src_A10_, .int .u8 src_A11_, .int .u8 src_A12_, .int .u8 src_A13_, .int .u8 src_A14_, .int .u8 src_A15_], .agg #[.int .i64 dst_V, .int .u8 dst_A0_, .int .u8 dst_A1_, .int .u8 dst_A2_, .int .u8 dst_A3_, .int .u8 dst_A4_, .int .u8 dst_A5_, .int .u8 dst_A6_, .int .u8 dst_A7_, .int .u8 dst_A8_, .int .u8 dst_A9_, .int .u8 dst_A10_, .int .u8 dst_A11_, .int .u8 dst_A12_, .int .u8 dst_A13_, .int .u8 dst_A14_, .int .u8 dst_A15_], .int .i64 n]) (fn := Tryd.f57) (c := bodyOf Tryd.f57) Tryd.func57 rfl (Nat.le_of_ble_eq_true rfl)
    (Eq.mp (by kernel_rfl : icmp_pseudo_VC v_ src_V src_A0_ src_A1_ src_A2_ src_A3_ src_A4_ src_A5_ src_A6_ src_A7_ src_A8_ src_A9_ src_A10_ src_A11_ src_A12_ src_A13_ src_A14_ src_A15_ dst_V dst_A0_ dst_A1_ dst_A2_ dst_A3_ dst_A4_ dst_A5_ dst_A6_ dst_A7_ dst_A8_ dst_A9_ dst_A10_ dst_A11_ dst_A12_ dst_A13_ dst_A14_ dst_A15_ n w R = wpc Tryd.prog callF Tryd.f57.ntmps icmp_pseudo_H 1 (bodyOf Tryd.f57) (argEnv 0 [.int .i64 v_, .agg #[.int .i64 src_V, .int .u8 src_A0_, .int .u8 src_A1_, .int .u8 src_A2_, .int .u8 src_A3_, .int .u8 src_A4_, .int .u8 src_A5_, .int .u8 src_A6_, .int .u8 src_A7_, .int .u8 src_A8_, .int .u8 src_A9_, .int .u8 src_A10_, .int .u8 src_A11_, .int .u8 src_A12_, .int .u8 src_A13_, .int .u8 src_A14_, .int .u8 src_A15_], .agg #[.int .i64 dst_V, .int .u8 dst_A0_, .int .u8 dst_A1_, .int .u8 dst_A2_, .int .u8 dst_A3_, .int .u8 dst_A4_, .int .u8 dst_A5_, .int .u8 dst_A6_, .int .u8 dst_A7_, .int .u8 dst_A8_, .int .u8 dst_A9_, .int .u8 dst_A10_, .int .u8 dst_A11_, .int .u8 dst_A12_, .int .u8 dst_A13_, .int .u8 dst_A14_, .int .u8 dst_A15_], .int .i64 n]) [] w (finish Tryd.prog callF Tryd.f57.results.toList R)) h)

set_option maxRecDepth 100000 in
def view_Pack_L1042846 (x0 : Int) (g1 : Nat) (t31_ : Int) (K1018 : (Int × Int → World → Prop)) (x2 : Int) (bit1 : Int) (k : Int) (w4 : World) (K1042846 : (Int × Int → World → Prop)) : Prop :=
  Br (decide ((0 : Int) ≤ k))
    (IdxVC (some ⟨g1, 0, none⟩) x0.toNat 1 (IntKind.i64.wrap (Int.tdiv bit1 8)) fun a2 =>
  ∃ x3 : Int, w4.cell? a2 = some (.int .u8 x3) ∧
  ShVC (IntKind.u64.wrap k) (
  ShVC (IntKind.u64.wrap (7 - IntKind.u64.wrap (Int.tmod bit1 8))) (
  IdxVC (some ⟨g1, 0, none⟩) x0.toNat 1 (IntKind.i64.wrap (Int.tdiv bit1 8)) fun a3 =>
  SetVC w4 a3 (.int .u8 (bitv .or .u8 x3 (IntKind.u8.wrap (IntKind.u8.wrap (bitv .and .i64 (Int.fdiv x2 (2 ^ (min ((IntKind.u64.wrap k).toNat) 64))) 1) * 2 ^ (min ((IntKind.u64.wrap (7 - IntKind.u64.wrap (Int.tmod bit1 8))).toNat) 8))))) fun w5 =>
  K1042846 (IntKind.i64.wrap (bit1 + 1), IntKind.i64.wrap (k - 1)) w5)))
    (K1018 (bit1, IntKind.i64.wrap (t31_ + 1)) w4)
set_option maxRecDepth 100000 in
def view_Pack_L1018 (R : Ending → World → Prop) (widthsA : Option Addr) (widthsn : Nat) (valuesA : Option Addr) (valuesn : Nat) (x0 : Int) (g1 : Nat) (bit : Int) (t31_ : Int) (w3 : World) (K1018 : (Int × Int → World → Prop)) : Prop :=
  Br (decide (t31_ < (widthsn : Int)))
    (IdxVC widthsA widthsn 1 t31_ fun a =>
  ∃ x : Int, w3.cell? a = some (.int .i64 x) ∧
  IdxVC valuesA valuesn 1 t31_ fun a1 =>
  ∃ x2 : Int, w3.cell? a1 = some (.int .i64 x2) ∧
  Br (decide (x2 < 0))
    (R (.returned (.tuple #[.slice none 0 0, .int .i64 12])) w3)
    (ShVC (IntKind.u64.wrap x) (
    Br (decide (Int.fdiv x2 (2 ^ (min ((IntKind.u64.wrap x).toNat) 64)) ≠ 0))
    (R (.returned (.tuple #[.slice none 0 0, .int .i64 12])) w3)
    (LoopVC (S := Int × Int) (fun s w4 K1042846 => view_Pack_L1042846 x0 g1 t31_ K1018 x2 s.1 s.2 w4 K1042846) (bit, IntKind.i64.wrap (x - 1)) w3))))
    (R (.returned (.tuple #[.slice (some ⟨g1, 0, none⟩) x0.toNat x0.toNat, .int .i64 0])) w3)
set_option maxRecDepth 100000 in
def view_Pack_VC (widthsA : Option Addr) (widthsn : Nat) (widthsc : Nat) (valuesA : Option Addr) (valuesn : Nat) (_valuesc : Nat) (w : World) (R : Ending → World → Prop) : Prop :=
  Calls Tryd.prog 88 #[.slice widthsA widthsn widthsc] w (onRet (fun r_ w1 => ∃ x0 : Int, ∃ x1 : Int, r_ = .tuple #[.int .i64 x0, .int .i64 x1] ∧
  Br (decide (x1 ≠ 0))
    (R (.returned (.tuple #[.slice none 0 0, .int .i64 x1])) w1)
    (Br (decide ((valuesn : Int) ≠ (widthsn : Int)))
    (R (.returned (.tuple #[.slice none 0 0, .int .i64 1])) w1)
    (MakeVC w1 5 1 [.int .u8 0] x0 x0 fun g1 w2 =>
  LoopVC (S := Int × Int) (fun s w3 K1018 => view_Pack_L1018 R widthsA widthsn valuesA valuesn x0 g1 s.1 s.2 w3 K1018) (0, 0) w2)))
    (fun ch w1 => R (.panicked ch) w1))
def view_Pack_H : Hints := [(1018, [(9, .int .i64), (31, .int .i64)]), (1042846, [(9, .int .i64), (13, .int .i64)])]
set_option maxRecDepth 100000 in
theorem view_Pack_of (widthsA : Option Addr) (widthsn : Nat) (widthsc : Nat) (valuesA : Option Addr) (valuesn : Nat) (valuesc : Nat) (w : World) (R : Ending → World → Prop) (h : view_Pack_VC widthsA widthsn widthsc valuesA valuesn valuesc w R) :
    Calls Tryd.prog 58 #[.slice widthsA widthsn widthsc, .slice valuesA valuesn valuesc] w R :=
  calls_of_wpc callOk mixedOk (H := view_Pack_H) (args := [.slice widthsA widthsn widthsc, .slice valuesA valuesn valuesc]) (fn := Tryd.f58) (c := bodyOf Tryd.f58) Tryd.func58 rfl (Nat.le_of_ble_eq_true rfl)
    (Eq.mp (by kernel_rfl : view_Pack_VC widthsA widthsn widthsc valuesA valuesn valuesc w R = wpc Tryd.prog callF Tryd.f58.ntmps view_Pack_H 1 (bodyOf Tryd.f58) (argEnv 0 [.slice widthsA widthsn widthsc, .slice valuesA valuesn valuesc]) [] w (finish Tryd.prog callF Tryd.f58.results.toList R)) h)

set_option maxRecDepth 100000 in
def icmp_widths_VC  (w : World) (R : Ending → World → Prop) : Prop :=
  NewVC w (.cells #[.int .i64 8, .int .i64 8, .int .i64 16, .int .i64 32] 3) fun g1 w1 =>
  R (.returned (.slice (some ⟨g1, 0, none⟩) 4 4)) w1
def icmp_widths_H : Hints := []
set_option maxRecDepth 100000 in
theorem icmp_widths_of  (w : World) (R : Ending → World → Prop) (h : icmp_widths_VC  w R) :
    Calls Tryd.prog 59 #[] w R :=
  calls_of_wpc callOk mixedOk (H := icmp_widths_H) (args := []) (fn := Tryd.f59) (c := bodyOf Tryd.f59) Tryd.func59 rfl (Nat.le_of_ble_eq_true rfl)
    (Eq.mp (by kernel_rfl : icmp_widths_VC  w R = wpc Tryd.prog callF Tryd.f59.ntmps icmp_widths_H 1 (bodyOf Tryd.f59) (argEnv 0 []) [] w (finish Tryd.prog callF Tryd.f59.results.toList R)) h)

set_option maxRecDepth 100000 in
def sum_Check_VC (partsA : Option Addr) (partsn : Nat) (partsc : Nat) (w : World) (R : Ending → World → Prop) : Prop :=
  Calls Tryd.prog 89 #[.slice partsA partsn partsc] w (onRet (fun r_ w1 => ∃ x : Int, r_ = .int .i64 x ∧
  R (.returned (.int .i64 (IntKind.i64.wrap (65535 - x)))) w1)
    (fun ch w1 => R (.panicked ch) w1))
def sum_Check_H : Hints := []
set_option maxRecDepth 100000 in
theorem sum_Check_of (partsA : Option Addr) (partsn : Nat) (partsc : Nat) (w : World) (R : Ending → World → Prop) (h : sum_Check_VC partsA partsn partsc w R) :
    Calls Tryd.prog 60 #[.slice partsA partsn partsc] w R :=
  calls_of_wpc callOk mixedOk (H := sum_Check_H) (args := [.slice partsA partsn partsc]) (fn := Tryd.f60) (c := bodyOf Tryd.f60) Tryd.func60 rfl (Nat.le_of_ble_eq_true rfl)
    (Eq.mp (by kernel_rfl : sum_Check_VC partsA partsn partsc w R = wpc Tryd.prog callF Tryd.f60.ntmps sum_Check_H 1 (bodyOf Tryd.f60) (argEnv 0 [.slice partsA partsn partsc]) [] w (finish Tryd.prog callF Tryd.f60.results.toList R)) h)

set_option maxRecDepth 100000 in
def weirref2_Check_VC (partsA : Option Addr) (partsn : Nat) (partsc : Nat) (w : World) (R : Ending → World → Prop) : Prop :=
  Calls Tryd.prog 90 #[.slice partsA partsn partsc] w (onRet (fun r_ w1 => ∃ x : Int, r_ = .int .i64 x ∧
  R (.returned (.int .i64 (IntKind.i64.wrap (65535 - x)))) w1)
    (fun ch w1 => R (.panicked ch) w1))
def weirref2_Check_H : Hints := []
set_option maxRecDepth 100000 in
theorem weirref2_Check_of (partsA : Option Addr) (partsn : Nat) (partsc : Nat) (w : World) (R : Ending → World → Prop) (h : weirref2_Check_VC partsA partsn partsc w R) :
    Calls Tryd.prog 62 #[.slice partsA partsn partsc] w R :=
  calls_of_wpc callOk mixedOk (H := weirref2_Check_H) (args := [.slice partsA partsn partsc]) (fn := Tryd.f62) (c := bodyOf Tryd.f62) Tryd.func62 rfl (Nat.le_of_ble_eq_true rfl)
    (Eq.mp (by kernel_rfl : weirref2_Check_VC partsA partsn partsc w R = wpc Tryd.prog callF Tryd.f62.ntmps weirref2_Check_H 1 (bodyOf Tryd.f62) (argEnv 0 [.slice partsA partsn partsc]) [] w (finish Tryd.prog callF Tryd.f62.results.toList R)) h)

set_option maxRecDepth 100000 in
def sum_Pseudo_J28 (R : Ending → World → Prop) (proto : Int) (n : Int) (g1 : Nat) (g2 : Nat) (x : Int) (t14_ : Bool) (w5 : World) : Prop :=
  Br t14_
    (R (.returned (.tuple #[.slice none 0 0, .int .i64 20])) w5)
    (Br (decide (proto < 0))
      (R (.returned (.tuple #[.slice none 0 0, .int .i64 1])) w5)
      (Br (decide ((255 : Int) < proto))
        (R (.returned (.tuple #[.slice none 0 0, .int .i64 1])) w5)
        (Br (decide (n < 0))
          (R (.returned (.tuple #[.slice none 0 0, .int .i64 1])) w5)
          (Br (decide ((65535 : Int) < n))
      (R (.returned (.tuple #[.slice none 0 0, .int .i64 1])) w5)
      (Br (decide (x = 4))
    (SliceVC (some ⟨g1, 1, none⟩) 16 16 1 none (some 4) none fun sA sn sc =>
    AppVC Tryd.prog #[22, 22] 22 (.slice none 0 0) (.slice sA sn sc) w5 fun lA ln lc w6 =>
    SliceVC (some ⟨g2, 1, none⟩) 16 16 1 none (some 4) none fun sA1 sn1 sc1 =>
    AppVC Tryd.prog #[22, 22] 22 (.slice lA ln lc) (.slice sA1 sn1 sc1) w6 fun lA1 ln1 lc1 w7 =>
    NewVC w7 (.cells #[.int .u8 0, .int .u8 (IntKind.u8.wrap proto), .int .u8 (IntKind.u8.wrap (Int.fdiv n 256)), .int .u8 (IntKind.u8.wrap n)] 5) fun g3 w8 =>
    AppVC Tryd.prog #[22, 22] 22 (.slice lA1 ln1 lc1) (.slice (some ⟨g3, 0, none⟩) 4 4) w8 fun lA2 ln2 lc2 w9 =>
    R (.returned (.tuple #[.slice lA2 ln2 lc2, .int .i64 0])) w9)
    (SliceVC (some ⟨g1, 1, none⟩) 16 16 1 none none none fun sA2 sn2 sc2 =>
  AppVC Tryd.prog #[22, 22] 22 (.slice none 0 0) (.slice sA2 sn2 sc2) w5 fun lA3 ln3 lc3 w10 =>
  SliceVC (some ⟨g2, 1, none⟩) 16 16 1 none none none fun sA3 sn3 sc3 =>
  AppVC Tryd.prog #[22, 22] 22 (.slice lA3 ln3 lc3) (.slice sA3 sn3 sc3) w10 fun lA4 ln4 lc4 w11 =>
  NewVC w11 (.cells #[.int .u8 0, .int .u8 0, .int .u8 (IntKind.u8.wrap (Int.fdiv n 256)), .int .u8 (IntKind.u8.wrap n), .int .u8 0, .int .u8 0, .int .u8 0, .int .u8 (IntKind.u8.wrap proto)] 5) fun g4 w12 =>
  AppVC Tryd.prog #[22, 22] 22 (.slice lA4 ln4 lc4) (.slice (some ⟨g4, 0, none⟩) 8 8) w12 fun lA5 ln5 lc5 w13 =>
  R (.returned (.tuple #[.slice lA5 ln5 lc5, .int .i64 0])) w13))))))
set_option maxRecDepth 100000 in
def sum_Pseudo_VC (src_V : Int) (src_A0_ : Int) (src_A1_ : Int) (src_A2_ : Int) (src_A3_ : Int) (src_A4_ : Int) (src_A5_ : Int) (src_A6_ : Int) (src_A7_ : Int) (src_A8_ : Int) (src_A9_ : Int) (src_A10_ : Int) (src_A11_ : Int) (src_A12_ : Int) (src_A13_ : Int) (src_A14_ : Int) (src_A15_ : Int) (dst_V : Int) (dst_A0_ : Int) (dst_A1_ : Int) (dst_A2_ : Int) (dst_A3_ : Int) (dst_A4_ : Int) (dst_A5_ : Int) (dst_A6_ : Int) (dst_A7_ : Int) (dst_A8_ : Int) (dst_A9_ : Int) (dst_A10_ : Int) (dst_A11_ : Int) (dst_A12_ : Int) (dst_A13_ : Int) (dst_A14_ : Int) (dst_A15_ : Int) (proto : Int) (n : Int) (w : World) (R : Ending → World → Prop) : Prop :=
  NewVC w (.cells #[.int .i64 src_V, .int .u8 src_A0_, .int .u8 src_A1_, .int .u8 src_A2_, .int .u8 src_A3_, .int .u8 src_A4_, .int .u8 src_A5_, .int .u8 src_A6_, .int .u8 src_A7_, .int .u8 src_A8_, .int .u8 src_A9_, .int .u8 src_A10_, .int .u8 src_A11_, .int .u8 src_A12_, .int .u8 src_A13_, .int .u8 src_A14_, .int .u8 src_A15_] 31) fun g1 w1 =>
  NewVC w1 (.cells #[.int .i64 dst_V, .int .u8 dst_A0_, .int .u8 dst_A1_, .int .u8 dst_A2_, .int .u8 dst_A3_, .int .u8 dst_A4_, .int .u8 dst_A5_, .int .u8 dst_A6_, .int .u8 dst_A7_, .int .u8 dst_A8_, .int .u8 dst_A9_, .int .u8 dst_A10_, .int .u8 dst_A11_, .int .u8 dst_A12_, .int .u8 dst_A13_, .int .u8 dst_A14_, .int .u8 dst_A15_] 31) fun g2 w2 =>
  ∃ x0 : Int, ∃ x1 : Int, ∃ x2 : Int, ∃ x3 : Int, ∃ x4 : Int, ∃ x5 : Int, ∃ x6 : Int, ∃ x7 : Int, ∃ x8 : Int, ∃ x9 : Int, ∃ x10 : Int, ∃ x11 : Int, ∃ x12 : Int, ∃ x13 : Int, ∃ x14 : Int, ∃ x15 : Int, ∃ x16 : Int, CellsAt w2 ⟨g1, 0, none⟩ 0 [.int .i64 x0, .int .u8 x1, .int .u8 x2, .int .u8 x3, .int .u8 x4, .int .u8 x5, .int .u8 x6, .int .u8 x7, .int .u8 x8, .int .u8 x9, .int .u8 x10, .int .u8 x11, .int .u8 x12, .int .u8 x13, .int .u8 x14, .int .u8 x15, .int .u8 x16] ∧
  Calls Tryd.prog 115 #[.agg #[.int .i64 x0, .int .u8 x1, .int .u8 x2, .int .u8 x3, .int .u8 x4, .int .u8 x5, .int .u8 x6, .int .u8 x7, .int .u8 x8, .int .u8 x9, .int .u8 x10, .int .u8 x11, .int .u8 x12, .int .u8 x13, .int .u8 x14, .int .u8 x15, .int .u8 x16]] w2 (onRet (fun r_ w3 => ∃ x : Int, r_ = .int .i64 x ∧
  JoinVC (S := Bool) (fun J28 =>
      Br (decide (x = 0))
        (J28 true w3)
        (∃ x01 : Int, ∃ x17 : Int, ∃ x21 : Int, ∃ x31 : Int, ∃ x41 : Int, ∃ x51 : Int, ∃ x61 : Int, ∃ x71 : Int, ∃ x81 : Int, ∃ x91 : Int, ∃ x101 : Int, ∃ x111 : Int, ∃ x121 : Int, ∃ x131 : Int, ∃ x141 : Int, ∃ x151 : Int, ∃ x161 : Int, CellsAt w3 ⟨g2, 0, none⟩ 0 [.int .i64 x01, .int .u8 x17, .int .u8 x21, .int .u8 x31, .int .u8 x41, .int .u8 x51, .int .u8 x61, .int .u8 x71, .int .u8 x81, .int .u8 x91, .int .u8 x101, .int .u8 x111, .int .u8 x121, .int .u8 x131, .int .u8 x141, .int .u8 x151, .int .u8 x161] ∧
        Calls Tryd.prog 115 #[.agg #[.int .i64 x01, .int .u8 x17, .int .u8 x21, .int .u8 x31, .int .u8 x41, .int .u8 x51, .int .u8 x61, .int .u8 x71, .int .u8 x81, .int .u8 x91, .int .u8 x101, .int .u8 x111, .int .u8 x121, .int .u8 x131, .int .u8 x141, .int .u8 x151, .int .u8 x161]] w3 (onRet (fun r_1 w4 => ∃ x18 : Int, r_1 = .int .i64 x18 ∧
        J28 (decide (x18 ≠ x)) w4)
          (fun ch1 w4 => R (.panicked ch1) w4))))
    (fun s w5 => sum_Pseudo_J28 R proto n g1 g2 x s w5))
    (fun ch w3 => R (.panicked ch) w3))
def sum_Pseudo_H : Hints := [(28, [(14, .bool)])]
set_option maxRecDepth 100000 in
theorem sum_Pseudo_of (src_V : Int) (src_A0_ : Int) (src_A1_ : Int) (src_A2_ : Int) (src_A3_ : Int) (src_A4_ : Int) (src_A5_ : Int) (src_A6_ : Int) (src_A7_ : Int) (src_A8_ : Int) (src_A9_ : Int) (src_A10_ : Int) (src_A11_ : Int) (src_A12_ : Int) (src_A13_ : Int) (src_A14_ : Int) (src_A15_ : Int) (dst_V : Int) (dst_A0_ : Int) (dst_A1_ : Int) (dst_A2_ : Int) (dst_A3_ : Int) (dst_A4_ : Int) (dst_A5_ : Int) (dst_A6_ : Int) (dst_A7_ : Int) (dst_A8_ : Int) (dst_A9_ : Int) (dst_A10_ : Int) (dst_A11_ : Int) (dst_A12_ : Int) (dst_A13_ : Int) (dst_A14_ : Int) (dst_A15_ : Int) (proto : Int) (n : Int) (w : World) (R : Ending → World → Prop) (h : sum_Pseudo_VC src_V src_A0_ src_A1_ src_A2_ src_A3_ src_A4_ src_A5_ src_A6_ src_A7_ src_A8_ src_A9_ src_A10_ src_A11_ src_A12_ src_A13_ src_A14_ src_A15_ dst_V dst_A0_ dst_A1_ dst_A2_ dst_A3_ dst_A4_ dst_A5_ dst_A6_ dst_A7_ dst_A8_ dst_A9_ dst_A10_ dst_A11_ dst_A12_ dst_A13_ dst_A14_ dst_A15_ proto n w R) :
    Calls Tryd.prog 87 #[.agg #[.int .i64 src_V, .int .u8 src_A0_, .int .u8 src_A1_, .int .u8 src_A2_, .int .u8 src_A3_, .int .u8 src_A4_, .int .u8 src_A5_, .int .u8 src_A6_, .int .u8 src_A7_, .int .u8 src_A8_, .int .u8 src_A9_, .int .u8 src_A10_, .int .u8 src_A11_, .int .u8 src_A12_, .int .u8 src_A13_, .int .u8 src_A14_, .int .u8 src_A15_], .agg #[.int .i64 dst_V, .int .u8 dst_A0_, .int .u8 dst_A1_, .int .u8 dst_A2_, .int .u8 dst_A3_, .int .u8 dst_A4_, .int .u8 dst_A5_, .int .u8 dst_A6_, .int .u8 dst_A7_, .int .u8 dst_A8_, .int .u8 dst_A9_, .int .u8 dst_A10_, .int .u8 dst_A11_, .int .u8 dst_A12_, .int .u8 dst_A13_, .int .u8 dst_A14_, .int .u8 dst_A15_], .int .i64 proto, .int .i64 n] w R :=
  calls_of_wpc callOk mixedOk (H := sum_Pseudo_H) (args := [.agg #[.int .i64 src_V, .int .u8 src_A0_, .int .u8 src_A1_, .int .u8 src_A2_, .int .u8 src_A3_, .int .u8 src_A4_, .int .u8 src_A5_, .int .u8 src_A6_, .int .u8 src_A7_, .int .u8 src_A8_, .int .u8 src_A9_, .int .u8 src_A10_, .int .u8 src_A11_, .int .u8 src_A12_, .int .u8 src_A13_, .int .u8 src_A14_, .int .u8 src_A15_], .agg #[.int .i64 dst_V, .int .u8 dst_A0_, .int .u8 dst_A1_, .int .u8 dst_A2_, .int .u8 dst_A3_, .int .u8 dst_A4_, .int .u8 dst_A5_, .int .u8 dst_A6_, .int .u8 dst_A7_, .int .u8 dst_A8_, .int .u8 dst_A9_, .int .u8 dst_A10_, .int .u8 dst_A11_, .int .u8 dst_A12_, .int .u8 dst_A13_, .int .u8 dst_A14_, .int .u8 dst_A15_], .int .i64 proto, .int .i64 n]) (fn := Tryd.f87) (c := bodyOf Tryd.f87) Tryd.func87 rfl (Nat.le_of_ble_eq_true rfl)
    (Eq.mp (by kernel_rfl : sum_Pseudo_VC src_V src_A0_ src_A1_ src_A2_ src_A3_ src_A4_ src_A5_ src_A6_ src_A7_ src_A8_ src_A9_ src_A10_ src_A11_ src_A12_ src_A13_ src_A14_ src_A15_ dst_V dst_A0_ dst_A1_ dst_A2_ dst_A3_ dst_A4_ dst_A5_ dst_A6_ dst_A7_ dst_A8_ dst_A9_ dst_A10_ dst_A11_ dst_A12_ dst_A13_ dst_A14_ dst_A15_ proto n w R = wpc Tryd.prog callF Tryd.f87.ntmps sum_Pseudo_H 1 (bodyOf Tryd.f87) (argEnv 0 [.agg #[.int .i64 src_V, .int .u8 src_A0_, .int .u8 src_A1_, .int .u8 src_A2_, .int .u8 src_A3_, .int .u8 src_A4_, .int .u8 src_A5_, .int .u8 src_A6_, .int .u8 src_A7_, .int .u8 src_A8_, .int .u8 src_A9_, .int .u8 src_A10_, .int .u8 src_A11_, .int .u8 src_A12_, .int .u8 src_A13_, .int .u8 src_A14_, .int .u8 src_A15_], .agg #[.int .i64 dst_V, .int .u8 dst_A0_, .int .u8 dst_A1_, .int .u8 dst_A2_, .int .u8 dst_A3_, .int .u8 dst_A4_, .int .u8 dst_A5_, .int .u8 dst_A6_, .int .u8 dst_A7_, .int .u8 dst_A8_, .int .u8 dst_A9_, .int .u8 dst_A10_, .int .u8 dst_A11_, .int .u8 dst_A12_, .int .u8 dst_A13_, .int .u8 dst_A14_, .int .u8 dst_A15_], .int .i64 proto, .int .i64 n]) [] w (finish Tryd.prog callF Tryd.f87.results.toList R)) h)

set_option maxRecDepth 100000 in
def view_bits_L122 (R : Ending → World → Prop) (widthsA : Option Addr) (widthsn : Nat) (all : Int) (t12_ : Int) (w1 : World) (K122 : (Int × Int → World → Prop)) : Prop :=
  Br (decide (t12_ < (widthsn : Int)))
    (IdxVC widthsA widthsn 1 t12_ fun a =>
  ∃ x : Int, w1.cell? a = some (.int .i64 x) ∧
  Br (decide (x < 1))
    (R (.returned (.tuple #[.int .i64 0, .int .i64 11])) w1)
    (Br (decide ((32 : Int) < x))
    (R (.returned (.tuple #[.int .i64 0, .int .i64 11])) w1)
    (K122 (IntKind.i64.wrap (all + x), IntKind.i64.wrap (t12_ + 1)) w1)))
    (Br (decide (Int.tmod all 8 ≠ 0))
    (R (.returned (.tuple #[.int .i64 0, .int .i64 11])) w1)
    (R (.returned (.tuple #[.int .i64 (IntKind.i64.wrap (Int.tdiv all 8)), .int .i64 0])) w1))
set_option maxRecDepth 100000 in
def view_bits_VC (widthsA : Option Addr) (widthsn : Nat) (_widthsc : Nat) (w : World) (R : Ending → World → Prop) : Prop :=
  Br (decide ((64 : Int) < (widthsn : Int)))
    (R (.returned (.tuple #[.int .i64 0, .int .i64 11])) w)
    (LoopVC (S := Int × Int) (fun s w1 K122 => view_bits_L122 R widthsA widthsn s.1 s.2 w1 K122) (0, 0) w)
def view_bits_H : Hints := [(122, [(4, .int .i64), (12, .int .i64)])]
set_option maxRecDepth 100000 in
theorem view_bits_of (widthsA : Option Addr) (widthsn : Nat) (widthsc : Nat) (w : World) (R : Ending → World → Prop) (h : view_bits_VC widthsA widthsn widthsc w R) :
    Calls Tryd.prog 88 #[.slice widthsA widthsn widthsc] w R :=
  calls_of_wpc callOk mixedOk (H := view_bits_H) (args := [.slice widthsA widthsn widthsc]) (fn := Tryd.f88) (c := bodyOf Tryd.f88) Tryd.func88 rfl (Nat.le_of_ble_eq_true rfl)
    (Eq.mp (by kernel_rfl : view_bits_VC widthsA widthsn widthsc w R = wpc Tryd.prog callF Tryd.f88.ntmps view_bits_H 1 (bodyOf Tryd.f88) (argEnv 0 [.slice widthsA widthsn widthsc]) [] w (finish Tryd.prog callF Tryd.f88.results.toList R)) h)

set_option maxRecDepth 100000 in
def sum_Sum_L29898 (R : Ending → World → Prop) (t11_ : Int) (K58 : (Int × Bool × Int → World → Prop)) (xA : Option Addr) (xn : Nat) (n1 : Int) (high1 : Bool) (t17_ : Int) (w2 : World) (K29898 : (Int × Bool × Int → World → Prop)) : Prop :=
  Br (decide (t17_ < (xn : Int)))
    (IdxVC xA xn 1 t17_ fun a1 =>
  ∃ x : Int, w2.cell? a1 = some (.int .u8 x) ∧
  Br high1
    (K29898 (IntKind.i64.wrap (n1 + IntKind.i64.wrap (IntKind.i64.wrap x * 256)), !high1, IntKind.i64.wrap (t17_ + 1)) w2)
    (K29898 (IntKind.i64.wrap (n1 + IntKind.i64.wrap x), !high1, IntKind.i64.wrap (t17_ + 1)) w2))
    (Calls Tryd.prog 116 #[.int .i64 n1] w2 (onRet (fun r_ w3 => ∃ x1 : Int, r_ = .int .i64 x1 ∧
  K58 (x1, high1, IntKind.i64.wrap (t11_ + 1)) w3)
    (fun ch w3 => R (.panicked ch) w3)))
set_option maxRecDepth 100000 in
def sum_Sum_L58 (R : Ending → World → Prop) (partsA : Option Addr) (partsn : Nat) (n : Int) (high : Bool) (t11_ : Int) (w1 : World) (K58 : (Int × Bool × Int → World → Prop)) : Prop :=
  Br (decide (t11_ < (partsn : Int)))
    (IdxVC partsA partsn 1 t11_ fun a =>
  ∃ (xA : Option Addr) (xn xc : Nat), w1.cell? a = some (.slice xA xn xc) ∧
  LoopVC (S := Int × Bool × Int) (fun s w2 K29898 => sum_Sum_L29898 R t11_ K58 xA xn s.1 s.2.1 s.2.2 w2 K29898) (n, high, 0) w1)
    (R (.returned (.int .i64 n)) w1)
set_option maxRecDepth 100000 in
def sum_Sum_VC (partsA : Option Addr) (partsn : Nat) (_partsc : Nat) (w : World) (R : Ending → World → Prop) : Prop :=
  LoopVC (S := Int × Bool × Int) (fun s w1 K58 => sum_Sum_L58 R partsA partsn s.1 s.2.1 s.2.2 w1 K58) (0, true, 0) w
def sum_Sum_H : Hints := [(58, [(3, .int .i64), (4, .bool), (11, .int .i64)]), (29898, [(3, .int .i64), (4, .bool), (17, .int .i64)])]
set_option maxRecDepth 100000 in
theorem sum_Sum_of (partsA : Option Addr) (partsn : Nat) (partsc : Nat) (w : World) (R : Ending → World → Prop) (h : sum_Sum_VC partsA partsn partsc w R) :
    Calls Tryd.prog 89 #[.slice partsA partsn partsc] w R :=
  calls_of_wpc callOk mixedOk (H := sum_Sum_H) (args := [.slice partsA partsn partsc]) (fn := Tryd.f89) (c := bodyOf Tryd.f89) Tryd.func89 rfl (Nat.le_of_ble_eq_true rfl)
    (Eq.mp (by kernel_rfl : sum_Sum_VC partsA partsn partsc w R = wpc Tryd.prog callF Tryd.f89.ntmps sum_Sum_H 1 (bodyOf Tryd.f89) (argEnv 0 [.slice partsA partsn partsc]) [] w (finish Tryd.prog callF Tryd.f89.results.toList R)) h)

set_option maxRecDepth 100000 in
def weirref2_Sum_L7826 (partsA : Option Addr) (partsn : Nat) (i : Int) (K122 : (Int × Int × Int → World → Prop)) (at_1 : Int) (n1 : Int) (k : Int) (w2 : World) (K7826 : (Int × Int × Int → World → Prop)) : Prop :=
  IdxVC partsA partsn 1 i fun a =>
  ∃ (xA : Option Addr) (xn xc : Nat), w2.cell? a = some (.slice xA xn xc) ∧
  Br (decide (k < (xn : Int)))
    (IdxVC partsA partsn 1 i fun a1 =>
  ∃ (xA1 : Option Addr) (xn1 xc1 : Nat), w2.cell? a1 = some (.slice xA1 xn1 xc1) ∧
  IdxVC xA1 xn1 1 k fun a2 =>
  ∃ x : Int, w2.cell? a2 = some (.int .u8 x) ∧
  Br (decide (Int.tmod at_1 2 = 0))
    (K7826 (IntKind.i64.wrap (at_1 + 1), IntKind.i64.wrap (n1 + IntKind.i64.wrap (IntKind.i64.wrap x * 256)), IntKind.i64.wrap (k + 1)) w2)
    (K7826 (IntKind.i64.wrap (at_1 + 1), IntKind.i64.wrap (n1 + IntKind.i64.wrap x), IntKind.i64.wrap (k + 1)) w2))
    (K122 (at_1, n1, IntKind.i64.wrap (i + 1)) w2)
set_option maxRecDepth 100000 in
def weirref2_Sum_L122 (R : Ending → World → Prop) (partsA : Option Addr) (partsn : Nat) (at_ : Int) (n : Int) (i : Int) (w1 : World) (K122 : (Int × Int × Int → World → Prop)) : Prop :=
  Br (decide (i < (partsn : Int)))
    (LoopVC (S := Int × Int × Int) (fun s w2 K7826 => weirref2_Sum_L7826 partsA partsn i K122 s.1 s.2.1 s.2.2 w2 K7826) (at_, n, 0) w1)
    (Calls Tryd.prog 117 #[.int .i64 n] w1 (onRet (fun r_ w3 => ∃ x1 : Int, r_ = .int .i64 x1 ∧
  R (.returned (.int .i64 x1)) w3)
    (fun ch w3 => R (.panicked ch) w3)))
set_option maxRecDepth 100000 in
def weirref2_Sum_VC (partsA : Option Addr) (partsn : Nat) (_partsc : Nat) (w : World) (R : Ending → World → Prop) : Prop :=
  LoopVC (S := Int × Int × Int) (fun s w1 K122 => weirref2_Sum_L122 R partsA partsn s.1 s.2.1 s.2.2 w1 K122) (0, 0, 0) w
def weirref2_Sum_H : Hints := [(122, [(3, .int .i64), (4, .int .i64), (5, .int .i64)]), (7826, [(3, .int .i64), (4, .int .i64), (6, .int .i64)])]
set_option maxRecDepth 100000 in
theorem weirref2_Sum_of (partsA : Option Addr) (partsn : Nat) (partsc : Nat) (w : World) (R : Ending → World → Prop) (h : weirref2_Sum_VC partsA partsn partsc w R) :
    Calls Tryd.prog 90 #[.slice partsA partsn partsc] w R :=
  calls_of_wpc callOk mixedOk (H := weirref2_Sum_H) (args := [.slice partsA partsn partsc]) (fn := Tryd.f90) (c := bodyOf Tryd.f90) Tryd.func90 rfl (Nat.le_of_ble_eq_true rfl)
    (Eq.mp (by kernel_rfl : weirref2_Sum_VC partsA partsn partsc w R = wpc Tryd.prog callF Tryd.f90.ntmps weirref2_Sum_H 1 (bodyOf Tryd.f90) (argEnv 0 [.slice partsA partsn partsc]) [] w (finish Tryd.prog callF Tryd.f90.results.toList R)) h)

set_option maxRecDepth 100000 in
def sum_version_VC (ip_V : Int) (ip_A0_ : Int) (ip_A1_ : Int) (ip_A2_ : Int) (ip_A3_ : Int) (ip_A4_ : Int) (ip_A5_ : Int) (ip_A6_ : Int) (ip_A7_ : Int) (ip_A8_ : Int) (ip_A9_ : Int) (ip_A10_ : Int) (ip_A11_ : Int) (ip_A12_ : Int) (ip_A13_ : Int) (ip_A14_ : Int) (ip_A15_ : Int) (w : World) (R : Ending → World → Prop) : Prop :=
  NewVC w (.cells #[.int .i64 ip_V, .int .u8 ip_A0_, .int .u8 ip_A1_, .int .u8 ip_A2_, .int .u8 ip_A3_, .int .u8 ip_A4_, .int .u8 ip_A5_, .int .u8 ip_A6_, .int .u8 ip_A7_, .int .u8 ip_A8_, .int .u8 ip_A9_, .int .u8 ip_A10_, .int .u8 ip_A11_, .int .u8 ip_A12_, .int .u8 ip_A13_, .int .u8 ip_A14_, .int .u8 ip_A15_] 31) fun g1 w1 =>
  ∃ x : Int, w1.cell? ⟨g1, 0, none⟩ = some (.int .i64 x) ∧
  Br (decide (x = 6))
    (R (.returned (.int .i64 6)) w1)
    (∃ x1 : Int, w1.cell? ⟨g1, 0, none⟩ = some (.int .i64 x1) ∧
    Br (decide (x1 ≠ 4))
      (R (.returned (.int .i64 0)) w1)
      (IdxVC (some ⟨g1, 1, none⟩) 16 1 0 fun a =>
  ∃ x2 : Int, w1.cell? a = some (.int .u8 x2) ∧
  IdxVC (some ⟨g1, 1, none⟩) 16 1 1 fun a1 =>
  ∃ x3 : Int, w1.cell? a1 = some (.int .u8 x3) ∧
  IdxVC (some ⟨g1, 1, none⟩) 16 1 2 fun a2 =>
  ∃ x4 : Int, w1.cell? a2 = some (.int .u8 x4) ∧
  IdxVC (some ⟨g1, 1, none⟩) 16 1 3 fun a3 =>
  ∃ x5 : Int, w1.cell? a3 = some (.int .u8 x5) ∧
  NewVC w1 (.cells #[.int .u8 0, .int .u8 0, .int .u8 0, .int .u8 0, .int .u8 0, .int .u8 0, .int .u8 0, .int .u8 0, .int .u8 0, .int .u8 0, .int .u8 0, .int .u8 0, .int .u8 0, .int .u8 0, .int .u8 0, .int .u8 0] 29) fun g2 w2 =>
  SetVC w2 ⟨g2, 0, none⟩ (.int .u8 x2) fun w3 =>
  SetVC w3 ⟨g2, 1, none⟩ (.int .u8 x3) fun w4 =>
  SetVC w4 ⟨g2, 2, none⟩ (.int .u8 x4) fun w5 =>
  SetVC w5 ⟨g2, 3, none⟩ (.int .u8 x5) fun w6 =>
  SetVC w6 ⟨g2, 4, none⟩ (.int .u8 0) fun w7 =>
  SetVC w7 ⟨g2, 5, none⟩ (.int .u8 0) fun w8 =>
  SetVC w8 ⟨g2, 6, none⟩ (.int .u8 0) fun w9 =>
  SetVC w9 ⟨g2, 7, none⟩ (.int .u8 0) fun w10 =>
  SetVC w10 ⟨g2, 8, none⟩ (.int .u8 0) fun w11 =>
  SetVC w11 ⟨g2, 9, none⟩ (.int .u8 0) fun w12 =>
  SetVC w12 ⟨g2, 10, none⟩ (.int .u8 0) fun w13 =>
  SetVC w13 ⟨g2, 11, none⟩ (.int .u8 0) fun w14 =>
  SetVC w14 ⟨g2, 12, none⟩ (.int .u8 0) fun w15 =>
  SetVC w15 ⟨g2, 13, none⟩ (.int .u8 0) fun w16 =>
  SetVC w16 ⟨g2, 14, none⟩ (.int .u8 0) fun w17 =>
  SetVC w17 ⟨g2, 15, none⟩ (.int .u8 0) fun w18 =>
  ∃ x0 : Int, ∃ x11 : Int, ∃ x21 : Int, ∃ x31 : Int, ∃ x41 : Int, ∃ x51 : Int, ∃ x6 : Int, ∃ x7 : Int, ∃ x8 : Int, ∃ x9 : Int, ∃ x10 : Int, ∃ x111 : Int, ∃ x12 : Int, ∃ x13 : Int, ∃ x14 : Int, ∃ x15 : Int, CellsAt w18 ⟨g1, 1, none⟩ 0 [.int .u8 x0, .int .u8 x11, .int .u8 x21, .int .u8 x31, .int .u8 x41, .int .u8 x51, .int .u8 x6, .int .u8 x7, .int .u8 x8, .int .u8 x9, .int .u8 x10, .int .u8 x111, .int .u8 x12, .int .u8 x13, .int .u8 x14, .int .u8 x15] ∧
  ∃ x01 : Int, ∃ x16 : Int, ∃ x22 : Int, ∃ x32 : Int, ∃ x42 : Int, ∃ x52 : Int, ∃ x61 : Int, ∃ x71 : Int, ∃ x81 : Int, ∃ x91 : Int, ∃ x101 : Int, ∃ x112 : Int, ∃ x121 : Int, ∃ x131 : Int, ∃ x141 : Int, ∃ x151 : Int, CellsAt w18 ⟨g2, 0, none⟩ 0 [.int .u8 x01, .int .u8 x16, .int .u8 x22, .int .u8 x32, .int .u8 x42, .int .u8 x52, .int .u8 x61, .int .u8 x71, .int .u8 x81, .int .u8 x91, .int .u8 x101, .int .u8 x112, .int .u8 x121, .int .u8 x131, .int .u8 x141, .int .u8 x151] ∧
  Br (!(((decide (x0 = x01)) && ((decide (x11 = x16)) && ((decide (x21 = x22)) && ((decide (x31 = x32)) && ((decide (x41 = x42)) && ((decide (x51 = x52)) && ((decide (x6 = x61)) && ((decide (x7 = x71)) && ((decide (x8 = x81)) && ((decide (x9 = x91)) && ((decide (x10 = x101)) && ((decide (x111 = x112)) && ((decide (x12 = x121)) && ((decide (x13 = x131)) && ((decide (x14 = x141)) && ((decide (x15 = x151)) && true))))))))))))))))))
    (R (.returned (.int .i64 0)) w18)
    (R (.returned (.int .i64 4)) w18)))
def sum_version_H : Hints := []
set_option maxRecDepth 100000 in
theorem sum_version_of (ip_V : Int) (ip_A0_ : Int) (ip_A1_ : Int) (ip_A2_ : Int) (ip_A3_ : Int) (ip_A4_ : Int) (ip_A5_ : Int) (ip_A6_ : Int) (ip_A7_ : Int) (ip_A8_ : Int) (ip_A9_ : Int) (ip_A10_ : Int) (ip_A11_ : Int) (ip_A12_ : Int) (ip_A13_ : Int) (ip_A14_ : Int) (ip_A15_ : Int) (w : World) (R : Ending → World → Prop) (h : sum_version_VC ip_V ip_A0_ ip_A1_ ip_A2_ ip_A3_ ip_A4_ ip_A5_ ip_A6_ ip_A7_ ip_A8_ ip_A9_ ip_A10_ ip_A11_ ip_A12_ ip_A13_ ip_A14_ ip_A15_ w R) :
    Calls Tryd.prog 115 #[.agg #[.int .i64 ip_V, .int .u8 ip_A0_, .int .u8 ip_A1_, .int .u8 ip_A2_, .int .u8 ip_A3_, .int .u8 ip_A4_, .int .u8 ip_A5_, .int .u8 ip_A6_, .int .u8 ip_A7_, .int .u8 ip_A8_, .int .u8 ip_A9_, .int .u8 ip_A10_, .int .u8 ip_A11_, .int .u8 ip_A12_, .int .u8 ip_A13_, .int .u8 ip_A14_, .int .u8 ip_A15_]] w R :=
  calls_of_wpc callOk mixedOk (H := sum_version_H) (args := [.agg #[.int .i64 ip_V, .int .u8 ip_A0_, .int .u8 ip_A1_, .int .u8 ip_A2_, .int .u8 ip_A3_, .int .u8 ip_A4_, .int .u8 ip_A5_, .int .u8 ip_A6_, .int .u8 ip_A7_, .int .u8 ip_A8_, .int .u8 ip_A9_, .int .u8 ip_A10_, .int .u8 ip_A11_, .int .u8 ip_A12_, .int .u8 ip_A13_, .int .u8 ip_A14_, .int .u8 ip_A15_]]) (fn := Tryd.f115) (c := bodyOf Tryd.f115) Tryd.func115 rfl (Nat.le_of_ble_eq_true rfl)
    (Eq.mp (by kernel_rfl : sum_version_VC ip_V ip_A0_ ip_A1_ ip_A2_ ip_A3_ ip_A4_ ip_A5_ ip_A6_ ip_A7_ ip_A8_ ip_A9_ ip_A10_ ip_A11_ ip_A12_ ip_A13_ ip_A14_ ip_A15_ w R = wpc Tryd.prog callF Tryd.f115.ntmps sum_version_H 1 (bodyOf Tryd.f115) (argEnv 0 [.agg #[.int .i64 ip_V, .int .u8 ip_A0_, .int .u8 ip_A1_, .int .u8 ip_A2_, .int .u8 ip_A3_, .int .u8 ip_A4_, .int .u8 ip_A5_, .int .u8 ip_A6_, .int .u8 ip_A7_, .int .u8 ip_A8_, .int .u8 ip_A9_, .int .u8 ip_A10_, .int .u8 ip_A11_, .int .u8 ip_A12_, .int .u8 ip_A13_, .int .u8 ip_A14_, .int .u8 ip_A15_]]) [] w (finish Tryd.prog callF Tryd.f115.results.toList R)) h)

set_option maxRecDepth 100000 in
def sum_fold_L12 (R : Ending → World → Prop)  (n1 : Int) (w1 : World) (K12 : (Int → World → Prop)) : Prop :=
  Br (decide ((65535 : Int) < n1))
    (K12 (IntKind.i64.wrap (bitv .and .i64 n1 65535 + Int.fdiv n1 65536)) w1)
    (R (.returned (.int .i64 n1)) w1)
set_option maxRecDepth 100000 in
def sum_fold_VC (n : Int) (w : World) (R : Ending → World → Prop) : Prop :=
  LoopVC (S := Int) (fun s w1 K12 => sum_fold_L12 R s w1 K12) n w
def sum_fold_H : Hints := [(12, [(0, .int .i64)])]
set_option maxRecDepth 100000 in
theorem sum_fold_of (n : Int) (w : World) (R : Ending → World → Prop) (h : sum_fold_VC n w R) :
    Calls Tryd.prog 116 #[.int .i64 n] w R :=
  calls_of_wpc callOk mixedOk (H := sum_fold_H) (args := [.int .i64 n]) (fn := Tryd.f116) (c := bodyOf Tryd.f116) Tryd.func116 rfl (Nat.le_of_ble_eq_true rfl)
    (Eq.mp (by kernel_rfl : sum_fold_VC n w R = wpc Tryd.prog callF Tryd.f116.ntmps sum_fold_H 1 (bodyOf Tryd.f116) (argEnv 0 [.int .i64 n]) [] w (finish Tryd.prog callF Tryd.f116.results.toList R)) h)

set_option maxRecDepth 100000 in
def weirref2_folded_VC (n : Int) (w : World) (R : Ending → World → Prop) : Prop :=
  Br (decide (n = 0))
    (R (.returned (.int .i64 0)) w)
    (R (.returned (.int .i64 (IntKind.i64.wrap (Int.tmod (IntKind.i64.wrap (n - 1)) 65535 + 1)))) w)
def weirref2_folded_H : Hints := []
set_option maxRecDepth 100000 in
theorem weirref2_folded_of (n : Int) (w : World) (R : Ending → World → Prop) (h : weirref2_folded_VC n w R) :
    Calls Tryd.prog 117 #[.int .i64 n] w R :=
  calls_of_wpc callOk mixedOk (H := weirref2_folded_H) (args := [.int .i64 n]) (fn := Tryd.f117) (c := bodyOf Tryd.f117) Tryd.func117 rfl (Nat.le_of_ble_eq_true rfl)
    (Eq.mp (by kernel_rfl : weirref2_folded_VC n w R = wpc Tryd.prog callF Tryd.f117.ntmps weirref2_folded_H 1 (bodyOf Tryd.f117) (argEnv 0 [.int .i64 n]) [] w (finish Tryd.prog callF Tryd.f117.results.toList R)) h)

end Go.Proofs.YtjngdcilnipjcaaDoor
