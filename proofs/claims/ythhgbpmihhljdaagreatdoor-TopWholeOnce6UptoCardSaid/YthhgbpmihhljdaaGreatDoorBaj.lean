/- WRITTEN BY a program of this session (vc.py): for each Go function the condition that is enough for its contract, and the theorem that it is. -/
import Derived.Test.YthhgbpmihhljdaaGreatDoorProg
import Derived.Test.YthhgbpmihhljdaaGreatDoorBae
import Derived.Test.YthhgbpmihhljdaaGreatDoorBai
import Derived.Test.YthhgbpmihhljdaaGreatDoorBag
namespace Go.Proofs.YthhgbpmihhljdaaGreatDoor
open Go.Eng
namespace Nd

set_option maxRecDepth 100000 in
def view_Uint_VC (bA : Option Addr) (bn : Nat) (bc : Nat) (at_ : Int) (n : Int) (w : World) (R : Ending → World → Prop) : Prop :=
  NewVC w (.cells #[.int .u64 0] 133) fun g1 w1 =>
  NewVC w1 (.cells #[.int .i64 0] 36) fun g2 w2 =>
  Calls Tryz.prog 126 #[.int .i64 n] w2 (onRet (fun r_ w3 => ∃ x : Bool, r_ = .bool x ∧
  Br (!x)
    (SetVC w3 ⟨g1, 0, none⟩ (.int .u64 0) fun w4 =>
    SetVC w4 ⟨g2, 0, none⟩ (.int .i64 1) fun w5 =>
    ∃ res : Int, w5.cell? ⟨g1, 0, none⟩ = some (.int .u64 res) ∧
  ∃ res1 : Int, w5.cell? ⟨g2, 0, none⟩ = some (.int .i64 res1) ∧
  R (.returned (.tuple #[.int .u64 res, .int .i64 res1])) w5)
    (Calls Tryz.prog 128 #[.slice bA bn bc, .int .i64 at_, .int .i64 n] w3 (onRet (fun r_1 w6 => ∃ x1 : Int, r_1 = .int .u64 x1 ∧
  SetVC w6 ⟨g1, 0, none⟩ (.int .u64 x1) fun w7 =>
  SetVC w7 ⟨g2, 0, none⟩ (.int .i64 0) fun w8 =>
  leaveWp Tryz.prog callF (fun w9 => ∃ res2 : Int, w9.cell? ⟨g1, 0, none⟩ = some (.int .u64 res2) ∧
    ∃ res3 : Int, w9.cell? ⟨g2, 0, none⟩ = some (.int .i64 res3) ∧
    R (.returned (.tuple #[.int .u64 res2, .int .i64 res3])) w9)
    R [{ target := .fn (.func 127) #[.pointer (some ⟨g1, 0, none⟩), .pointer (some ⟨g2, 0, none⟩)], args := #[] }] .returning w8)
    (fun ch1 w6 => leaveWp Tryz.prog callF (fun w10 => ∃ res4 : Int, w10.cell? ⟨g1, 0, none⟩ = some (.int .u64 res4) ∧
    ∃ res5 : Int, w10.cell? ⟨g2, 0, none⟩ = some (.int .i64 res5) ∧
    R (.returned (.tuple #[.int .u64 res4, .int .i64 res5])) w10)
    R [{ target := .fn (.func 127) #[.pointer (some ⟨g1, 0, none⟩), .pointer (some ⟨g2, 0, none⟩)], args := #[] }] (.panicking ch1) w6))))
    (fun ch w3 => R (.panicked ch) w3))
def view_Uint_H : Hints := []
set_option maxRecDepth 100000 in
theorem view_Uint_of (bA : Option Addr) (bn : Nat) (bc : Nat) (at_ : Int) (n : Int) (w : World) (R : Ending → World → Prop) (hvc_ : view_Uint_VC bA bn bc at_ n w R) :
    Calls Tryz.prog 120 #[.slice bA bn bc, .int .i64 at_, .int .i64 n] w R :=
  calls_of_wpc callOk mixedOk (H := view_Uint_H) (args := [.slice bA bn bc, .int .i64 at_, .int .i64 n]) (fn := Tryz.f120) (c := bodyOf Tryz.f120) Tryz.func120 rfl (Nat.le_of_ble_eq_true rfl)
    (Eq.mp (by kernel_rfl : view_Uint_VC bA bn bc at_ n w R = wpc Tryz.prog callF Tryz.f120.ntmps view_Uint_H 1 (bodyOf Tryz.f120) (argEnv 0 [.slice bA bn bc, .int .i64 at_, .int .i64 n]) [] w (finish Tryz.prog callF Tryz.f120.results.toList R)) hvc_)

set_option maxRecDepth 100000 in
def view_number_L122 (R : Ending → World → Prop) (bA : Option Addr) (bn : Nat) (bc : Nat) (at_ : Int) (n : Int) (v_ : Int) (t20_ : Int) (w1 : World) (K122 : (Int × Int → World → Prop)) : Prop :=
  Br (decide (t20_ < n))
    (Calls Tryz.prog 119 #[.slice bA bn bc, .int .i64 (IntKind.i64.wrap (at_ + t20_))] w1 (onRet (fun r_ w2 => ∃ x : Int, r_ = .int .u8 x ∧
  K122 (bitv .or .u64 (IntKind.u64.wrap (v_ * 256)) (IntKind.u64.wrap x), IntKind.i64.wrap (t20_ + 1)) w2)
    (fun ch w2 => R (.panicked ch) w2)))
    (R (.returned (.int .u64 v_)) w1)
set_option maxRecDepth 100000 in
def view_number_VC (bA : Option Addr) (bn : Nat) (bc : Nat) (at_ : Int) (n : Int) (w : World) (R : Ending → World → Prop) : Prop :=
  Br (decide (at_ < 0))
    (R (.panicked [{ v := .iface 202 (.agg #[]), recovered := false }]) w)
    (Br (decide ((bn : Int) < at_))
    (R (.panicked [{ v := .iface 202 (.agg #[]), recovered := false }]) w)
    (LoopVC (S := Int × Int) (fun s_ w1 K122 => view_number_L122 R bA bn bc at_ n s_.1 s_.2 w1 K122) (0, 0) w))
def view_number_H : Hints := [(122, [(7, .int .u64), (20, .int .i64)])]
set_option maxRecDepth 100000 in
theorem view_number_of (bA : Option Addr) (bn : Nat) (bc : Nat) (at_ : Int) (n : Int) (w : World) (R : Ending → World → Prop) (hvc_ : view_number_VC bA bn bc at_ n w R) :
    Calls Tryz.prog 128 #[.slice bA bn bc, .int .i64 at_, .int .i64 n] w R :=
  calls_of_wpc callOk mixedOk (H := view_number_H) (args := [.slice bA bn bc, .int .i64 at_, .int .i64 n]) (fn := Tryz.f128) (c := bodyOf Tryz.f128) Tryz.func128 rfl (Nat.le_of_ble_eq_true rfl)
    (Eq.mp (by kernel_rfl : view_number_VC bA bn bc at_ n w R = wpc Tryz.prog callF Tryz.f128.ntmps view_number_H 1 (bodyOf Tryz.f128) (argEnv 0 [.slice bA bn bc, .int .i64 at_, .int .i64 n]) [] w (finish Tryz.prog callF Tryz.f128.results.toList R)) hvc_)

set_option maxRecDepth 100000 in
def view_Window_VC (bA : Option Addr) (bn : Nat) (bc : Nat) (at_ : Int) (n : Int) (w : World) (R : Ending → World → Prop) : Prop :=
  NewVC w (.cells #[.slice none 0 0] 28) fun g1 w1 =>
  NewVC w1 (.cells #[.int .i64 0] 36) fun g2 w2 =>
  Br (decide (n < 0))
    (SetVC w2 ⟨g1, 0, none⟩ (.slice none 0 0) fun w3 =>
    SetVC w3 ⟨g2, 0, none⟩ (.int .i64 1) fun w4 =>
    ∃ (resA : Option Addr) (resn resc : Nat), w4.cell? ⟨g1, 0, none⟩ = some (.slice resA resn resc) ∧
  ∃ res : Int, w4.cell? ⟨g2, 0, none⟩ = some (.int .i64 res) ∧
  R (.returned (.tuple #[.slice resA resn resc, .int .i64 res])) w4)
    (Calls Tryz.prog 118 #[.slice bA bn bc, .int .i64 at_, .int .i64 n] w2 (onRet (fun r_ w5 => ∃ (xA : Option Addr) (xn xc : Nat), r_ = .slice xA xn xc ∧
  SetVC w5 ⟨g1, 0, none⟩ (.slice xA xn xc) fun w6 =>
  SetVC w6 ⟨g2, 0, none⟩ (.int .i64 0) fun w7 =>
  leaveWp Tryz.prog callF (fun w8 => ∃ (resA1 : Option Addr) (resn1 resc1 : Nat), w8.cell? ⟨g1, 0, none⟩ = some (.slice resA1 resn1 resc1) ∧
    ∃ res1 : Int, w8.cell? ⟨g2, 0, none⟩ = some (.int .i64 res1) ∧
    R (.returned (.tuple #[.slice resA1 resn1 resc1, .int .i64 res1])) w8)
    R [{ target := .fn (.func 124) #[.pointer (some ⟨g1, 0, none⟩), .pointer (some ⟨g2, 0, none⟩)], args := #[] }] .returning w7)
    (fun ch w5 => leaveWp Tryz.prog callF (fun w9 => ∃ (resA2 : Option Addr) (resn2 resc2 : Nat), w9.cell? ⟨g1, 0, none⟩ = some (.slice resA2 resn2 resc2) ∧
    ∃ res2 : Int, w9.cell? ⟨g2, 0, none⟩ = some (.int .i64 res2) ∧
    R (.returned (.tuple #[.slice resA2 resn2 resc2, .int .i64 res2])) w9)
    R [{ target := .fn (.func 124) #[.pointer (some ⟨g1, 0, none⟩), .pointer (some ⟨g2, 0, none⟩)], args := #[] }] (.panicking ch) w5)))
def view_Window_H : Hints := []
set_option maxRecDepth 100000 in
theorem view_Window_of (bA : Option Addr) (bn : Nat) (bc : Nat) (at_ : Int) (n : Int) (w : World) (R : Ending → World → Prop) (hvc_ : view_Window_VC bA bn bc at_ n w R) :
    Calls Tryz.prog 111 #[.slice bA bn bc, .int .i64 at_, .int .i64 n] w R :=
  calls_of_wpc callOk mixedOk (H := view_Window_H) (args := [.slice bA bn bc, .int .i64 at_, .int .i64 n]) (fn := Tryz.f111) (c := bodyOf Tryz.f111) Tryz.func111 rfl (Nat.le_of_ble_eq_true rfl)
    (Eq.mp (by kernel_rfl : view_Window_VC bA bn bc at_ n w R = wpc Tryz.prog callF Tryz.f111.ntmps view_Window_H 1 (bodyOf Tryz.f111) (argEnv 0 [.slice bA bn bc, .int .i64 at_, .int .i64 n]) [] w (finish Tryz.prog callF Tryz.f111.results.toList R)) hvc_)

set_option maxRecDepth 100000 in
def view_Cursor_Window_VC (c : Option Addr) (n : Int) (w : World) (R : Ending → World → Prop) : Prop :=
  DrawVC w fun S1 w1 =>
  NilVC c fun p =>
  ∃ (xA : Option Addr) (xn xc : Nat), (∀ w' : World, S1 w' → w'.cell? p = some (.slice xA xn xc)) ∧
  NilVC c fun p1 =>
  ∃ x : Int, (∀ w' : World, S1 w' → w'.cell? (p1.add 1) = some (.int .i64 x)) ∧
  Calls Tryz.prog 111 #[.slice xA xn xc, .int .i64 x, .int .i64 n] w1 (onRet (fun r_ w2 => ∃ (x0A : Option Addr) (x0n x0c : Nat), ∃ x1 : Int, r_ = .tuple #[.slice x0A x0n x0c, .int .i64 x1] ∧
  S1 w2 ∧
  Br (decide (x1 = 0))
    (NilVC c fun p2 =>
    ∃ x2 : Int, w2.cell? (p2.add 1) = some (.int .i64 x2) ∧
    NilVC c fun p3 =>
    SetVC w2 (p3.add 1) (.int .i64 (IntKind.i64.wrap (x2 + n))) fun w3 =>
    R (.returned (.tuple #[.slice x0A x0n x0c, .int .i64 x1])) w3)
    (R (.returned (.tuple #[.slice x0A x0n x0c, .int .i64 x1])) w2))
    (fun _ _ => False))
def view_Cursor_Window_H : Hints := []
set_option maxRecDepth 100000 in
theorem view_Cursor_Window_of (c : Option Addr) (n : Int) (w : World) (R : Ending → World → Prop) (hvc_ : view_Cursor_Window_VC c n w R) :
    Calls Tryz.prog 91 #[.pointer c, .int .i64 n] w R :=
  calls_of_wpc callOk mixedOk (H := view_Cursor_Window_H) (args := [.pointer c, .int .i64 n]) (fn := Tryz.f91) (c := bodyOf Tryz.f91) Tryz.func91 rfl (Nat.le_of_ble_eq_true rfl)
    (Eq.mp (by kernel_rfl : view_Cursor_Window_VC c n w R = wpc Tryz.prog callF Tryz.f91.ntmps view_Cursor_Window_H 1 (bodyOf Tryz.f91) (argEnv 0 [.pointer c, .int .i64 n]) [] w (finish Tryz.prog callF Tryz.f91.results.toList R)) hvc_)

set_option maxRecDepth 100000 in
def view_Cursor_Uint_VC (c : Option Addr) (n : Int) (w : World) (R : Ending → World → Prop) : Prop :=
  DrawVC w fun S1 w1 =>
  NilVC c fun p =>
  ∃ (xA : Option Addr) (xn xc : Nat), (∀ w' : World, S1 w' → w'.cell? p = some (.slice xA xn xc)) ∧
  NilVC c fun p1 =>
  ∃ x : Int, (∀ w' : World, S1 w' → w'.cell? (p1.add 1) = some (.int .i64 x)) ∧
  Calls Tryz.prog 120 #[.slice xA xn xc, .int .i64 x, .int .i64 n] w1 (onRet (fun r_ w2 => ∃ x0 : Int, ∃ x1 : Int, r_ = .tuple #[.int .u64 x0, .int .i64 x1] ∧
  S1 w2 ∧
  Br (decide (x1 = 0))
    (NilVC c fun p2 =>
    ∃ x2 : Int, w2.cell? (p2.add 1) = some (.int .i64 x2) ∧
    NilVC c fun p3 =>
    SetVC w2 (p3.add 1) (.int .i64 (IntKind.i64.wrap (x2 + n))) fun w3 =>
    R (.returned (.tuple #[.int .u64 x0, .int .i64 x1])) w3)
    (R (.returned (.tuple #[.int .u64 x0, .int .i64 x1])) w2))
    (fun _ _ => False))
def view_Cursor_Uint_H : Hints := []
set_option maxRecDepth 100000 in
theorem view_Cursor_Uint_of (c : Option Addr) (n : Int) (w : World) (R : Ending → World → Prop) (hvc_ : view_Cursor_Uint_VC c n w R) :
    Calls Tryz.prog 109 #[.pointer c, .int .i64 n] w R :=
  calls_of_wpc callOk mixedOk (H := view_Cursor_Uint_H) (args := [.pointer c, .int .i64 n]) (fn := Tryz.f109) (c := bodyOf Tryz.f109) Tryz.func109 rfl (Nat.le_of_ble_eq_true rfl)
    (Eq.mp (by kernel_rfl : view_Cursor_Uint_VC c n w R = wpc Tryz.prog callF Tryz.f109.ntmps view_Cursor_Uint_H 1 (bodyOf Tryz.f109) (argEnv 0 [.pointer c, .int .i64 n]) [] w (finish Tryz.prog callF Tryz.f109.results.toList R)) hvc_)

set_option maxRecDepth 100000 in
def view_Cursor_Left_VC (c : Option Addr) (w : World) (R : Ending → World → Prop) : Prop :=
  DrawVC w fun S1 w1 =>
  NilVC c fun p =>
  ∃ (xA : Option Addr) (xn xc : Nat), (∀ w' : World, S1 w' → w'.cell? p = some (.slice xA xn xc)) ∧
  NilVC c fun p1 =>
  ∃ x : Int, (∀ w' : World, S1 w' → w'.cell? (p1.add 1) = some (.int .i64 x)) ∧
  R (.returned (.int .i64 (IntKind.i64.wrap ((xn : Int) - x)))) w1
def view_Cursor_Left_H : Hints := []
set_option maxRecDepth 100000 in
theorem view_Cursor_Left_of (c : Option Addr) (w : World) (R : Ending → World → Prop) (hvc_ : view_Cursor_Left_VC c w R) :
    Calls Tryz.prog 92 #[.pointer c] w R :=
  calls_of_wpc callOk mixedOk (H := view_Cursor_Left_H) (args := [.pointer c]) (fn := Tryz.f92) (c := bodyOf Tryz.f92) Tryz.func92 rfl (Nat.le_of_ble_eq_true rfl)
    (Eq.mp (by kernel_rfl : view_Cursor_Left_VC c w R = wpc Tryz.prog callF Tryz.f92.ntmps view_Cursor_Left_H 1 (bodyOf Tryz.f92) (argEnv 0 [.pointer c]) [] w (finish Tryz.prog callF Tryz.f92.results.toList R)) hvc_)
end Nd
end Go.Proofs.YthhgbpmihhljdaaGreatDoor
/- WRITTEN BY a program of this session (vc.py): for each Go function the condition that is enough for its contract, and the theorem that it is. -/
namespace Go.Proofs.YthhgbpmihhljdaaGreatDoor
open Go.Eng
namespace N6

set_option maxRecDepth 100000 in
def ip6_option_VC (bA : Option Addr) (bn : Nat) (bc : Nat) (at_ : Int) (w : World) (R : Ending → World → Prop) : Prop :=
  Calls Tryz.prog 120 #[.slice bA bn bc, .int .i64 (IntKind.i64.wrap (at_ + 1)), .int .i64 1] w (onRet (fun r_ w1 => ∃ x0 : Int, ∃ x1 : Int, r_ = .tuple #[.int .u64 x0, .int .i64 x1] ∧
  Br (decide (x1 ≠ 0))
    (R (.panicked [{ v := .iface 204 (.agg #[]), recovered := false }]) w1)
    (Br (decide ((bn : Int) < IntKind.i64.wrap (IntKind.i64.wrap (at_ + 2) + IntKind.i64.wrap x0)))
    (R (.panicked [{ v := .iface 204 (.agg #[]), recovered := false }]) w1)
    (R (.returned (.int .i64 (IntKind.i64.wrap (2 + IntKind.i64.wrap x0)))) w1)))
    (fun ch w1 => R (.panicked ch) w1))
def ip6_option_H : Hints := []
set_option maxRecDepth 100000 in
theorem ip6_option_of (bA : Option Addr) (bn : Nat) (bc : Nat) (at_ : Int) (w : World) (R : Ending → World → Prop) (hvc_ : ip6_option_VC bA bn bc at_ w R) :
    Calls Tryz.prog 123 #[.slice bA bn bc, .int .i64 at_] w R :=
  calls_of_wpc callOk mixedOk (H := ip6_option_H) (args := [.slice bA bn bc, .int .i64 at_]) (fn := Tryz.f123) (c := bodyOf Tryz.f123) Tryz.func123 rfl (Nat.le_of_ble_eq_true rfl)
    (Eq.mp (by kernel_rfl : ip6_option_VC bA bn bc at_ w R = wpc Tryz.prog callF Tryz.f123.ntmps ip6_option_H 1 (bodyOf Tryz.f123) (argEnv 0 [.slice bA bn bc, .int .i64 at_]) [] w (finish Tryz.prog callF Tryz.f123.results.toList R)) hvc_)

set_option maxRecDepth 100000 in
def ip6_flush_VC (gf0 : Nat) (gf1 : Nat) (w : World) (R : Ending → World → Prop) : Prop :=
  ∃ x : Int, w.cell? ⟨gf0, 0, none⟩ = some (.int .i64 x) ∧
  Br (decide ((0 : Int) < x))
    (DrawVC w fun S1 w1 =>
    ∃ (xA : Option Addr) (xn xc : Nat), (∀ w' : World, S1 w' → w'.cell? ⟨gf1, 0, none⟩ = some (.slice xA xn xc)) ∧
    ∃ x1 : Int, (∀ w' : World, S1 w' → w'.cell? ⟨gf0, 0, none⟩ = some (.int .i64 x1)) ∧
    MakeVC w1 5 1 [.int .u8 0] x1 x1 fun g1 w2 =>
    S1 w2 ∧
    NewVC w2 (.cells (⟨0, ⟨(some ⟨g1, 0, none⟩), x1.toNat, x1.toNat⟩⟩ : OptV).cells.toArray 127) fun g2 w3 =>
    S1 w3 ∧
    AppVC Tryz.prog #[54, 54] 54 (.slice xA xn xc) (.slice (some ⟨g2, 0, none⟩) 1 1) w3 fun lA ln lc w4 =>
    S1 w4 ∧
    SetVC w4 ⟨gf1, 0, none⟩ (.slice lA ln lc) fun w5 =>
    SetVC w5 ⟨gf0, 0, none⟩ (.int .i64 0) fun w6 =>
  R (.returned (.tuple #[])) w6)
    (SetVC w ⟨gf0, 0, none⟩ (.int .i64 0) fun w7 =>
  R (.returned (.tuple #[])) w7)
def ip6_flush_H : Hints := []
set_option maxRecDepth 100000 in
theorem ip6_flush_of (gf0 : Nat) (gf1 : Nat) (w : World) (R : Ending → World → Prop) (hvc_ : ip6_flush_VC gf0 gf1 w R) :
    Calls Tryz.prog 122 #[.pointer (some ⟨gf0, 0, none⟩), .pointer (some ⟨gf1, 0, none⟩)] w R :=
  calls_of_wpc callOk mixedOk (H := ip6_flush_H) (args := [.pointer (some ⟨gf0, 0, none⟩), .pointer (some ⟨gf1, 0, none⟩)]) (fn := Tryz.f122) (c := bodyOf Tryz.f122) Tryz.func122 rfl (Nat.le_of_ble_eq_true rfl)
    (Eq.mp (by kernel_rfl : ip6_flush_VC gf0 gf1 w R = wpc Tryz.prog callF Tryz.f122.ntmps ip6_flush_H 1 (bodyOf Tryz.f122) (argEnv 0 [.pointer (some ⟨gf0, 0, none⟩), .pointer (some ⟨gf1, 0, none⟩)]) [] w (finish Tryz.prog callF Tryz.f122.results.toList R)) hvc_)

set_option maxRecDepth 100000 in
def ip6_options_L250 (R : Ending → World → Prop) (bA : Option Addr) (bn : Nat) (bc : Nat) (g1 : Nat) (g2 : Nat) (g3 : Nat) (at_ : Int) (w5 : World) (K250 : (Int → World → Prop)) : Prop :=
  Br (decide (at_ < (bn : Int)))
    (IdxVC bA bn 1 at_ fun a =>
  ∃ x : Int, w5.cell? a = some (.int .u8 x) ∧
  Br (decide (IntKind.i64.wrap x = 0))
    (∃ x1 : Int, w5.cell? ⟨g3, 0, none⟩ = some (.int .i64 x1) ∧
    SetVC w5 ⟨g3, 0, none⟩ (.int .i64 (IntKind.i64.wrap (x1 + 1))) fun w6 =>
    ([{ target := .fn (.func 121) #[.pointer (some ⟨g1, 0, none⟩), .pointer (some ⟨g2, 0, none⟩)], args := #[] }] : List Deferred) = [{ target := .fn (.func 121) #[.pointer (some ⟨g1, 0, none⟩), .pointer (some ⟨g2, 0, none⟩)], args := #[] }] ∧ K250 (IntKind.i64.wrap (at_ + 1)) w6)
    (Calls Tryz.prog 123 #[.slice bA bn bc, .int .i64 at_] w5 (onRet (fun r_ w7 => ∃ x2 : Int, r_ = .int .i64 x2 ∧
  Br (decide (IntKind.i64.wrap x = 1))
    (∃ x3 : Int, w7.cell? ⟨g3, 0, none⟩ = some (.int .i64 x3) ∧
    SetVC w7 ⟨g3, 0, none⟩ (.int .i64 (IntKind.i64.wrap (x3 + x2))) fun w8 =>
    ([{ target := .fn (.func 121) #[.pointer (some ⟨g1, 0, none⟩), .pointer (some ⟨g2, 0, none⟩)], args := #[] }] : List Deferred) = [{ target := .fn (.func 121) #[.pointer (some ⟨g1, 0, none⟩), .pointer (some ⟨g2, 0, none⟩)], args := #[] }] ∧ K250 (IntKind.i64.wrap (at_ + x2)) w8)
    (Calls Tryz.prog 122 #[.pointer (some ⟨g3, 0, none⟩), .pointer (some ⟨g1, 0, none⟩)] w7 (onRet (fun r_1 w9 => r_1 = .tuple #[] ∧
    Calls Tryz.prog 111 #[.slice bA bn bc, .int .i64 (IntKind.i64.wrap (at_ + 2)), .int .i64 (IntKind.i64.wrap (x2 - 2))] w9 (onRet (fun r_2 w10 => ∃ (x0A : Option Addr) (x0n x0c : Nat), ∃ x11 : Int, r_2 = .tuple #[.slice x0A x0n x0c, .int .i64 x11] ∧
    ∃ (xA : Option Addr) (xn xc : Nat), w10.cell? ⟨g1, 0, none⟩ = some (.slice xA xn xc) ∧
    NewVC w10 (.cells (⟨IntKind.i64.wrap x, ⟨x0A, x0n, x0c⟩⟩ : OptV).cells.toArray 127) fun g4 w11 =>
    AppVC Tryz.prog #[54, 54] 54 (.slice xA xn xc) (.slice (some ⟨g4, 0, none⟩) 1 1) w11 fun lA ln lc w12 =>
    SetVC w12 ⟨g1, 0, none⟩ (.slice lA ln lc) fun w13 =>
    ([{ target := .fn (.func 121) #[.pointer (some ⟨g1, 0, none⟩), .pointer (some ⟨g2, 0, none⟩)], args := #[] }] : List Deferred) = [{ target := .fn (.func 121) #[.pointer (some ⟨g1, 0, none⟩), .pointer (some ⟨g2, 0, none⟩)], args := #[] }] ∧ K250 (IntKind.i64.wrap (at_ + x2)) w13)
      (fun ch2 w10 => leaveWp Tryz.prog callF (fun w14 => ∃ (resA : Option Addr) (resn resc : Nat), w14.cell? ⟨g1, 0, none⟩ = some (.slice resA resn resc) ∧
    ∃ res : Int, w14.cell? ⟨g2, 0, none⟩ = some (.int .i64 res) ∧
    R (.returned (.tuple #[.slice resA resn resc, .int .i64 res])) w14)
    R [{ target := .fn (.func 121) #[.pointer (some ⟨g1, 0, none⟩), .pointer (some ⟨g2, 0, none⟩)], args := #[] }] (.panicking ch2) w10)))
      (fun ch1 w9 => leaveWp Tryz.prog callF (fun w15 => ∃ (resA1 : Option Addr) (resn1 resc1 : Nat), w15.cell? ⟨g1, 0, none⟩ = some (.slice resA1 resn1 resc1) ∧
    ∃ res1 : Int, w15.cell? ⟨g2, 0, none⟩ = some (.int .i64 res1) ∧
    R (.returned (.tuple #[.slice resA1 resn1 resc1, .int .i64 res1])) w15)
    R [{ target := .fn (.func 121) #[.pointer (some ⟨g1, 0, none⟩), .pointer (some ⟨g2, 0, none⟩)], args := #[] }] (.panicking ch1) w9))))
    (fun ch w7 => leaveWp Tryz.prog callF (fun w16 => ∃ (resA2 : Option Addr) (resn2 resc2 : Nat), w16.cell? ⟨g1, 0, none⟩ = some (.slice resA2 resn2 resc2) ∧
    ∃ res2 : Int, w16.cell? ⟨g2, 0, none⟩ = some (.int .i64 res2) ∧
    R (.returned (.tuple #[.slice resA2 resn2 resc2, .int .i64 res2])) w16)
    R [{ target := .fn (.func 121) #[.pointer (some ⟨g1, 0, none⟩), .pointer (some ⟨g2, 0, none⟩)], args := #[] }] (.panicking ch) w7))))
    (Calls Tryz.prog 122 #[.pointer (some ⟨g3, 0, none⟩), .pointer (some ⟨g1, 0, none⟩)] w5 (onRet (fun r_3 w17 => r_3 = .tuple #[] ∧
  ∃ (xA1 : Option Addr) (xn1 xc1 : Nat), w17.cell? ⟨g1, 0, none⟩ = some (.slice xA1 xn1 xc1) ∧
  SetVC w17 ⟨g1, 0, none⟩ (.slice xA1 xn1 xc1) fun w18 =>
  SetVC w18 ⟨g2, 0, none⟩ (.int .i64 0) fun w19 =>
  leaveWp Tryz.prog callF (fun w20 => ∃ (resA3 : Option Addr) (resn3 resc3 : Nat), w20.cell? ⟨g1, 0, none⟩ = some (.slice resA3 resn3 resc3) ∧
    ∃ res3 : Int, w20.cell? ⟨g2, 0, none⟩ = some (.int .i64 res3) ∧
    R (.returned (.tuple #[.slice resA3 resn3 resc3, .int .i64 res3])) w20)
    R [{ target := .fn (.func 121) #[.pointer (some ⟨g1, 0, none⟩), .pointer (some ⟨g2, 0, none⟩)], args := #[] }] .returning w19)
    (fun ch3 w17 => leaveWp Tryz.prog callF (fun w21 => ∃ (resA4 : Option Addr) (resn4 resc4 : Nat), w21.cell? ⟨g1, 0, none⟩ = some (.slice resA4 resn4 resc4) ∧
    ∃ res4 : Int, w21.cell? ⟨g2, 0, none⟩ = some (.int .i64 res4) ∧
    R (.returned (.tuple #[.slice resA4 resn4 resc4, .int .i64 res4])) w21)
    R [{ target := .fn (.func 121) #[.pointer (some ⟨g1, 0, none⟩), .pointer (some ⟨g2, 0, none⟩)], args := #[] }] (.panicking ch3) w17)))
set_option maxRecDepth 100000 in
def ip6_options_VC (bA : Option Addr) (bn : Nat) (bc : Nat) (w : World) (R : Ending → World → Prop) : Prop :=
  NewVC w (.cells #[.slice none 0 0] 54) fun g1 w1 =>
  NewVC w1 (.cells #[.int .i64 0] 36) fun g2 w2 =>
  NewVC w2 (.cells #[.int .i64 0] 3) fun g3 w3 =>
  SetVC w3 ⟨g3, 0, none⟩ (.int .i64 0) fun w4 =>
  LoopVC (S := Int) (fun s_ w5 K250 => ip6_options_L250 R bA bn bc g1 g2 g3 s_ w5 K250) 0 w4
def ip6_options_H : Hints := [(250, [(6, .int .i64)])]
set_option maxRecDepth 100000 in
theorem ip6_options_of (bA : Option Addr) (bn : Nat) (bc : Nat) (w : World) (R : Ending → World → Prop) (hvc_ : ip6_options_VC bA bn bc w R) :
    Calls Tryz.prog 110 #[.slice bA bn bc] w R :=
  calls_of_wpc callOk mixedOk (H := ip6_options_H) (args := [.slice bA bn bc]) (fn := Tryz.f110) (c := bodyOf Tryz.f110) Tryz.func110 rfl (Nat.le_of_ble_eq_true rfl)
    (Eq.mp (by kernel_rfl : ip6_options_VC bA bn bc w R = wpc Tryz.prog callF Tryz.f110.ntmps ip6_options_H 1 (bodyOf Tryz.f110) (argEnv 0 [.slice bA bn bc]) [] w (finish Tryz.prog callF Tryz.f110.results.toList R)) hvc_)

set_option maxRecDepth 100000 in
def ip6_header_J511 (R : Ending → World → Prop) (c : Option Addr) (x0 : Int) (g1 : Nat)  (w11 : World) : Prop :=
  DrawVC w11 fun S1 w12 =>
  NilVC c fun p3 =>
  ∃ (xA1 : Option Addr) (xn1 xc1 : Nat), (∀ w' : World, S1 w' → w'.cell? p3 = some (.slice xA1 xn1 xc1)) ∧
  ExtV.ex fun h => (∀ w' : World, S1 w' → CellsAt w' ⟨g1, 0, none⟩ 0 h.cells) ∧
  NewVC w12 (.cells h.cells.toArray 56) fun g2 w13 =>
  S1 w13 ∧
  AppVC Tryz.prog #[25, 25] 25 (.slice xA1 xn1 xc1) (.slice (some ⟨g2, 0, none⟩) 1 1) w13 fun lA ln lc w14 =>
  S1 w14 ∧
  NilVC c fun p4 =>
  SetVC w14 p4 (.slice lA ln lc) fun w15 =>
  NilVC c fun p5 =>
  SetVC w15 (p5.add 5) (.int .i64 (IntKind.i64.wrap x0)) fun w16 =>
  R (.returned (.int .i64 0)) w16
set_option maxRecDepth 100000 in
def ip6_header_VC (c : Option Addr) (cur : Option Addr) (w : World) (R : Ending → World → Prop) : Prop :=
  NilVC c fun p =>
  ∃ (xA : Option Addr) (xn xc : Nat), w.cell? p = some (.slice xA xn xc) ∧
  Br (decide ((xn : Int) = 8))
    (R (.returned (.int .i64 74)) w)
    (Calls Tryz.prog 92 #[.pointer cur] w (onRet (fun r_ w1 => ∃ x : Int, r_ = .int .i64 x ∧
  Br (decide (x < 8))
    (R (.returned (.int .i64 72)) w1)
    (Calls Tryz.prog 109 #[.pointer cur, .int .i64 1] w1 (onRet (fun r_1 w2 => ∃ x0 : Int, ∃ x1 : Int, r_1 = .tuple #[.int .u64 x0, .int .i64 x1] ∧
  Calls Tryz.prog 109 #[.pointer cur, .int .i64 1] w2 (onRet (fun r_2 w3 => ∃ x01 : Int, ∃ x11 : Int, r_2 = .tuple #[.int .u64 x01, .int .i64 x11] ∧
  Calls Tryz.prog 91 #[.pointer cur, .int .i64 (IntKind.i64.wrap (IntKind.i64.wrap (8 * IntKind.i64.wrap x01) + 6))] w3 (onRet (fun r_3 w4 => ∃ (x0A : Option Addr) (x0n x0c : Nat), ∃ x12 : Int, r_3 = .tuple #[.slice x0A x0n x0c, .int .i64 x12] ∧
  Br (decide (x12 ≠ 0))
    (R (.returned (.int .i64 72)) w4)
    (NilVC c fun p1 =>
  ∃ x2 : Int, w4.cell? (p1.add 5) = some (.int .i64 x2) ∧
  NewVC w4 (.cells (ExtV.z : ExtV).cells.toArray 56) fun g1 w5 =>
  Stores ⟨g1, 0, none⟩ 0 (⟨x2, ⟨none, 0, 0⟩, ⟨none, 0, 0⟩⟩ : ExtV).cells w5 fun w6 =>
  JoinVC (S := Unit) (fun J511 =>
      NilVC c fun p2 =>
      ∃ x3 : Int, w6.cell? (p2.add 5) = some (.int .i64 x3) ∧
      Calls Tryz.prog 51 #[.int .i64 x3] w6 (onRet (fun r_4 w7 => ∃ x4 : Int, r_4 = .int .i64 x4 ∧
      Br (decide (x4 = 2))
        (SetVC w7 ⟨g1, 2, none⟩ (.slice x0A x0n x0c) fun w8 =>
        J511 () w8)
        (Calls Tryz.prog 110 #[.slice x0A x0n x0c] w7 (onRet (fun r_5 w9 => ∃ (x0A1 : Option Addr) (x0n1 x0c1 : Nat), ∃ x13 : Int, r_5 = .tuple #[.slice x0A1 x0n1 x0c1, .int .i64 x13] ∧
        SetVC w9 ⟨g1, 1, none⟩ (.slice x0A1 x0n1 x0c1) fun w10 =>
        Br (decide (x13 ≠ 0))
          (R (.returned (.int .i64 x13)) w10)
          (J511 () w10))
          (fun ch5 w9 => R (.panicked ch5) w9))))
        (fun ch4 w7 => R (.panicked ch4) w7)))
    (fun _ w11 => ip6_header_J511 R c x0 g1 w11)))
    (fun ch3 w4 => R (.panicked ch3) w4)))
    (fun ch2 w3 => R (.panicked ch2) w3)))
    (fun ch1 w2 => R (.panicked ch1) w2))))
    (fun ch w1 => R (.panicked ch) w1)))
def ip6_header_H : Hints := [(511, [])]
set_option maxRecDepth 100000 in
theorem ip6_header_of (c : Option Addr) (cur : Option Addr) (w : World) (R : Ending → World → Prop) (hvc_ : ip6_header_VC c cur w R) :
    Calls Tryz.prog 90 #[.pointer c, .pointer cur] w R :=
  calls_of_wpc callOk mixedOk (H := ip6_header_H) (args := [.pointer c, .pointer cur]) (fn := Tryz.f90) (c := bodyOf Tryz.f90) Tryz.func90 rfl (Nat.le_of_ble_eq_true rfl)
    (Eq.mp (by kernel_rfl : ip6_header_VC c cur w R = wpc Tryz.prog callF Tryz.f90.ntmps ip6_header_H 1 (bodyOf Tryz.f90) (argEnv 0 [.pointer c, .pointer cur]) [] w (finish Tryz.prog callF Tryz.f90.results.toList R)) hvc_)

set_option maxRecDepth 100000 in
def ip6_fragment_VC (c : ChnV) (cur : Option Addr) (w : World) (R : Ending → World → Prop) : Prop :=
  NewVC w (.cells c.cells.toArray 142) fun g1 w1 =>
  NewVC w1 (.cells (ChnV.z : ChnV).cells.toArray 142) fun g2 w2 =>
  Calls Tryz.prog 91 #[.pointer cur, .int .i64 8] w2 (onRet (fun r_ w3 => ∃ (x0A : Option Addr) (x0n x0c : Nat), ∃ x1 : Int, r_ = .tuple #[.slice x0A x0n x0c, .int .i64 x1] ∧
  Br (decide (x1 ≠ 0))
    (Stores ⟨g2, 0, none⟩ 0 (ChnV.z : ChnV).cells w3 fun w4 =>
    ChnV.ex fun res => CellsAt w4 ⟨g2, 0, none⟩ 0 res.cells ∧
  R (.returned (.tuple #[res.val, .int .i64 72])) w4)
    (NewVC w3 (.cells #[.int .i64 8, .int .i64 8, .int .i64 13, .int .i64 2, .int .i64 1, .int .i64 32] 3) fun g3 w5 =>
  Calls Tryz.prog 108 #[.slice x0A x0n x0c, .int .i64 0, .slice (some ⟨g3, 0, none⟩) 6 6] w5 (onRet (fun r_1 w6 => ∃ (x0A1 : Option Addr) (x0n1 x0c1 : Nat), ∃ x11 : Int, ∃ x2 : Int, r_1 = .tuple #[.slice x0A1 x0n1 x0c1, .int .i64 x11, .int .i64 x2] ∧
  IdxVC x0A1 x0n1 1 0 fun a =>
  ∃ x : Int, w6.cell? a = some (.int .i64 x) ∧
  SetVC w6 ⟨g1, 5, none⟩ (.int .i64 x) fun w7 =>
  DrawVC w7 fun S1 w8 =>
  IdxVC x0A1 x0n1 1 4 fun a1 =>
  ∃ x3 : Int, (∀ w' : World, S1 w' → w'.cell? a1 = some (.int .i64 x3)) ∧
  IdxVC x0A1 x0n1 1 5 fun a2 =>
  ∃ x4 : Int, (∀ w' : World, S1 w' → w'.cell? a2 = some (.int .i64 x4)) ∧
  IdxVC x0A1 x0n1 1 2 fun a3 =>
  ∃ x5 : Int, (∀ w' : World, S1 w' → w'.cell? a3 = some (.int .i64 x5)) ∧
  Stores ⟨g1, 1, none⟩ 0 (⟨true, decide (x3 = 1), x4, IntKind.i64.wrap (8 * x5)⟩ : FragV).cells w8 fun w9 =>
  Calls Tryz.prog 92 #[.pointer cur] w9 (onRet (fun r_2 w10 => ∃ x6 : Int, r_2 = .int .i64 x6 ∧
  Calls Tryz.prog 91 #[.pointer cur, .int .i64 x6] w10 (onRet (fun r_3 w11 => ∃ (x0A2 : Option Addr) (x0n2 x0c2 : Nat), ∃ x12 : Int, r_3 = .tuple #[.slice x0A2 x0n2 x0c2, .int .i64 x12] ∧
  SetVC w11 ⟨g1, 6, none⟩ (.slice x0A2 x0n2 x0c2) fun w12 =>
  FragV.ex fun h => CellsAt w12 ⟨g1, 1, none⟩ 0 h.cells ∧
  ∃ (xA : Option Addr) (xn xc : Nat), w12.cell? ⟨g1, 6, none⟩ = some (.slice xA xn xc) ∧
  Calls Tryz.prog 84 #[h.val, .int .i64 (xn : Int)] w12 (onRet (fun r_4 w13 => ∃ x7 : Bool, r_4 = .bool x7 ∧
  Br (!x7)
    (Stores ⟨g2, 0, none⟩ 0 (ChnV.z : ChnV).cells w13 fun w14 =>
    ChnV.ex fun res1 => CellsAt w14 ⟨g2, 0, none⟩ 0 res1.cells ∧
  R (.returned (.tuple #[res1.val, .int .i64 76])) w14)
    (ChnV.ex fun h1 => CellsAt w13 ⟨g1, 0, none⟩ 0 h1.cells ∧
  Stores ⟨g2, 0, none⟩ 0 h1.cells w13 fun w15 =>
  ChnV.ex fun res2 => CellsAt w15 ⟨g2, 0, none⟩ 0 res2.cells ∧
  R (.returned (.tuple #[res2.val, .int .i64 0])) w15))
    (fun ch4 w13 => R (.panicked ch4) w13)))
    (fun ch3 w11 => R (.panicked ch3) w11)))
    (fun ch2 w10 => R (.panicked ch2) w10)))
    (fun ch1 w6 => R (.panicked ch1) w6))))
    (fun ch w3 => R (.panicked ch) w3))
def ip6_fragment_H : Hints := []
set_option maxRecDepth 100000 in
theorem ip6_fragment_of (c : ChnV) (cur : Option Addr) (w : World) (R : Ending → World → Prop) (hvc_ : ip6_fragment_VC c cur w R) :
    Calls Tryz.prog 89 #[c.val, .pointer cur] w R :=
  calls_of_wpc callOk mixedOk (H := ip6_fragment_H) (args := [c.val, .pointer cur]) (fn := Tryz.f89) (c := bodyOf Tryz.f89) Tryz.func89 rfl (Nat.le_of_ble_eq_true rfl)
    (Eq.mp (by kernel_rfl : ip6_fragment_VC c cur w R = wpc Tryz.prog callF Tryz.f89.ntmps ip6_fragment_H 1 (bodyOf Tryz.f89) (argEnv 0 [c.val, .pointer cur]) [] w (finish Tryz.prog callF Tryz.f89.results.toList R)) hvc_)

set_option maxRecDepth 100000 in
def ip6_walk_J3913 (R : Ending → World → Prop) (g1 : Nat) (g2 : Nat) (x : Option Addr) (i : Int) (K122 : (Int → World → Prop))  (w13 : World) : Prop :=
  Calls Tryz.prog 90 #[.pointer (some ⟨g2, 0, none⟩), .pointer x] w13 (onRet (fun r_4 w14 => ∃ x6 : Int, r_4 = .int .i64 x6 ∧
  Br (decide (x6 ≠ 0))
    (Stores ⟨g1, 0, none⟩ 0 (ChnV.z : ChnV).cells w14 fun w15 =>
    ChnV.ex fun res4 => CellsAt w15 ⟨g1, 0, none⟩ 0 res4.cells ∧
  R (.returned (.tuple #[res4.val, .int .i64 x6])) w15)
    (K122 (IntKind.i64.wrap (i + 1)) w14))
    (fun ch4 w14 => R (.panicked ch4) w14))
set_option maxRecDepth 100000 in
def ip6_walk_L122 (R : Ending → World → Prop) (inner : Bool) (g1 : Nat) (g2 : Nat) (x : Option Addr) (i : Int) (w5 : World) (K122 : (Int → World → Prop)) : Prop :=
  ∃ x1 : Int, w5.cell? ⟨g2, 5, none⟩ = some (.int .i64 x1) ∧
  Calls Tryz.prog 51 #[.int .i64 x1] w5 (onRet (fun r_1 w6 => ∃ x2 : Int, r_1 = .int .i64 x2 ∧
  Br (decide (x2 ≠ 0))
    (∃ x3 : Int, w6.cell? ⟨g2, 5, none⟩ = some (.int .i64 x3) ∧
  Calls Tryz.prog 51 #[.int .i64 x3] w6 (onRet (fun r_2 w7 => ∃ x4 : Int, r_2 = .int .i64 x4 ∧
  Br (decide (x4 = 3))
    (Br inner
      (Stores ⟨g1, 0, none⟩ 0 (ChnV.z : ChnV).cells w7 fun w8 =>
      ChnV.ex fun res => CellsAt w8 ⟨g1, 0, none⟩ 0 res.cells ∧
  R (.returned (.tuple #[res.val, .int .i64 76])) w8)
      (ChnV.ex fun h => CellsAt w7 ⟨g2, 0, none⟩ 0 h.cells ∧
    Calls Tryz.prog 89 #[h.val, .pointer x] w7 (onRet (fun r_3 w9 => ChnV.ex fun h1 => ∃ x11 : Int, r_3 = .tuple #[h1.val, .int .i64 x11] ∧
    Stores ⟨g1, 0, none⟩ 0 h1.cells w9 fun w10 =>
    ChnV.ex fun res1 => CellsAt w10 ⟨g1, 0, none⟩ 0 res1.cells ∧
  R (.returned (.tuple #[res1.val, .int .i64 x11])) w10)
      (fun ch3 w9 => R (.panicked ch3) w9))))
    (JoinVC (S := Unit) (fun J3913 =>
      ∃ x5 : Int, w7.cell? ⟨g2, 5, none⟩ = some (.int .i64 x5) ∧
      Br (decide (x5 = 0))
        (Br (decide ((0 : Int) < i))
          (Stores ⟨g1, 0, none⟩ 0 (ChnV.z : ChnV).cells w7 fun w11 =>
      ChnV.ex fun res2 => CellsAt w11 ⟨g1, 0, none⟩ 0 res2.cells ∧
  R (.returned (.tuple #[res2.val, .int .i64 73])) w11)
          (Br inner
        (Stores ⟨g1, 0, none⟩ 0 (ChnV.z : ChnV).cells w7 fun w12 =>
        ChnV.ex fun res3 => CellsAt w12 ⟨g1, 0, none⟩ 0 res3.cells ∧
  R (.returned (.tuple #[res3.val, .int .i64 73])) w12)
        (J3913 () w7)))
        (J3913 () w7))
    (fun _ w13 => ip6_walk_J3913 R g1 g2 x i K122 w13)))
    (fun ch2 w7 => R (.panicked ch2) w7)))
    (Calls Tryz.prog 92 #[.pointer x] w6 (onRet (fun r_5 w16 => ∃ x7 : Int, r_5 = .int .i64 x7 ∧
  Calls Tryz.prog 91 #[.pointer x, .int .i64 x7] w16 (onRet (fun r_6 w17 => ∃ (x0A : Option Addr) (x0n x0c : Nat), ∃ x12 : Int, r_6 = .tuple #[.slice x0A x0n x0c, .int .i64 x12] ∧
  SetVC w17 ⟨g2, 6, none⟩ (.slice x0A x0n x0c) fun w18 =>
  ChnV.ex fun h2 => CellsAt w18 ⟨g2, 0, none⟩ 0 h2.cells ∧
  Stores ⟨g1, 0, none⟩ 0 h2.cells w18 fun w19 =>
  ChnV.ex fun res5 => CellsAt w19 ⟨g1, 0, none⟩ 0 res5.cells ∧
  R (.returned (.tuple #[res5.val, .int .i64 0])) w19)
    (fun ch6 w17 => R (.panicked ch6) w17)))
    (fun ch5 w16 => R (.panicked ch5) w16))))
    (fun ch1 w6 => R (.panicked ch1) w6))
set_option maxRecDepth 100000 in
def ip6_walk_VC (next : Int) (bA : Option Addr) (bn : Nat) (bc : Nat) (inner : Bool) (w : World) (R : Ending → World → Prop) : Prop :=
  NewVC w (.cells (ChnV.z : ChnV).cells.toArray 142) fun g1 w1 =>
  NewVC w1 (.cells (ChnV.z : ChnV).cells.toArray 142) fun g2 w2 =>
  Stores ⟨g2, 0, none⟩ 0 (⟨⟨none, 0, 0⟩, (FragV.z : FragV), next, ⟨none, 0, 0⟩⟩ : ChnV).cells w2 fun w3 =>
  Calls Tryz.prog 88 #[.slice bA bn bc] w3 (onRet (fun r_ w4 => ∃ x : Option Addr, r_ = .pointer x ∧
  LoopVC (S := Int) (fun s_ w5 K122 => ip6_walk_L122 R inner g1 g2 x s_ w5 K122) 0 w4)
    (fun ch w4 => R (.panicked ch) w4))
def ip6_walk_H : Hints := [(122, [(10, .int .i64)]), (3913, [])]
set_option maxRecDepth 100000 in
theorem ip6_walk_of (next : Int) (bA : Option Addr) (bn : Nat) (bc : Nat) (inner : Bool) (w : World) (R : Ending → World → Prop) (hvc_ : ip6_walk_VC next bA bn bc inner w R) :
    Calls Tryz.prog 76 #[.int .i64 next, .slice bA bn bc, .bool inner] w R :=
  calls_of_wpc callOk mixedOk (H := ip6_walk_H) (args := [.int .i64 next, .slice bA bn bc, .bool inner]) (fn := Tryz.f76) (c := bodyOf Tryz.f76) Tryz.func76 rfl (Nat.le_of_ble_eq_true rfl)
    (Eq.mp (by kernel_rfl : ip6_walk_VC next bA bn bc inner w R = wpc Tryz.prog callF Tryz.f76.ntmps ip6_walk_H 1 (bodyOf Tryz.f76) (argEnv 0 [.int .i64 next, .slice bA bn bc, .bool inner]) [] w (finish Tryz.prog callF Tryz.f76.results.toList R)) hvc_)

set_option maxRecDepth 100000 in
def ip6_Chain_J12 (R : Ending → World → Prop) (next : Int) (bA : Option Addr) (bn : Nat) (bc : Nat) (t10_ : Bool) (w1 : World) : Prop :=
  Br t10_
    (R (.returned (.tuple #[.slice none 0 0, .int .i64 0, .slice none 0 0, .int .i64 1])) w1)
    (Br (decide ((65535 : Int) < (bn : Int)))
      (R (.returned (.tuple #[.slice none 0 0, .int .i64 0, .slice none 0 0, .int .i64 2])) w1)
      (Calls Tryz.prog 76 #[.int .i64 next, .slice bA bn bc, .bool true] w1 (onRet (fun r_ w2 => ChnV.ex fun h => ∃ x1 : Int, r_ = .tuple #[h.val, .int .i64 x1] ∧
  NewVC w2 (.cells (ChnV.z : ChnV).cells.toArray 142) fun g1 w3 =>
  Stores ⟨g1, 0, none⟩ 0 h.cells w3 fun w4 =>
  DrawVC w4 fun S1 w5 =>
  ∃ (xA : Option Addr) (xn xc : Nat), (∀ w' : World, S1 w' → w'.cell? ⟨g1, 0, none⟩ = some (.slice xA xn xc)) ∧
  ∃ x : Int, (∀ w' : World, S1 w' → w'.cell? ⟨g1, 5, none⟩ = some (.int .i64 x)) ∧
  ∃ (xA1 : Option Addr) (xn1 xc1 : Nat), (∀ w' : World, S1 w' → w'.cell? ⟨g1, 6, none⟩ = some (.slice xA1 xn1 xc1)) ∧
  R (.returned (.tuple #[.slice xA xn xc, .int .i64 x, .slice xA1 xn1 xc1, .int .i64 x1])) w5)
    (fun ch w2 => R (.panicked ch) w2))))
set_option maxRecDepth 100000 in
def ip6_Chain_VC (next : Int) (bA : Option Addr) (bn : Nat) (bc : Nat) (w : World) (R : Ending → World → Prop) : Prop :=
  JoinVC (S := Bool) (fun J12 =>
      Br (decide (next < 0))
        (J12 true w)
        (J12 (decide ((255 : Int) < next)) w))
    (fun s_ w1 => ip6_Chain_J12 R next bA bn bc s_ w1)
def ip6_Chain_H : Hints := [(12, [(10, .bool)])]
set_option maxRecDepth 100000 in
theorem ip6_Chain_of (next : Int) (bA : Option Addr) (bn : Nat) (bc : Nat) (w : World) (R : Ending → World → Prop) (hvc_ : ip6_Chain_VC next bA bn bc w R) :
    Calls Tryz.prog 54 #[.int .i64 next, .slice bA bn bc] w R :=
  calls_of_wpc callOk mixedOk (H := ip6_Chain_H) (args := [.int .i64 next, .slice bA bn bc]) (fn := Tryz.f54) (c := bodyOf Tryz.f54) Tryz.func54 rfl (Nat.le_of_ble_eq_true rfl)
    (Eq.mp (by kernel_rfl : ip6_Chain_VC next bA bn bc w R = wpc Tryz.prog callF Tryz.f54.ntmps ip6_Chain_H 1 (bodyOf Tryz.f54) (argEnv 0 [.int .i64 next, .slice bA bn bc]) [] w (finish Tryz.prog callF Tryz.f54.results.toList R)) hvc_)
end N6
end Go.Proofs.YthhgbpmihhljdaaGreatDoor
/- WRITTEN BY a program of this session (vc.py): for each Go function the condition that is enough for its contract, and the theorem that it is. -/
namespace Go.Proofs.YthhgbpmihhljdaaGreatDoor
open Go.Eng
namespace N6
end N6
end Go.Proofs.YthhgbpmihhljdaaGreatDoor
