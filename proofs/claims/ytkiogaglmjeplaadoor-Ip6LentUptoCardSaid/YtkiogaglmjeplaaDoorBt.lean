/- WRITTEN BY a program of this session (vc.py): for each Go function the condition that is enough for its contract, and the theorem that it is. -/
import Derived.Test.YtkiogaglmjeplaaDoorProg
import Derived.Test.YtkiogaglmjeplaaDoorBq
import Derived.Test.YtkiogaglmjeplaaDoorBr
import Derived.Test.YtkiogaglmjeplaaDoorBp
import Derived.Test.YtkiogaglmjeplaaDoorBe
import Derived.Test.YtkiogaglmjeplaaDoorBs
namespace Go.Proofs.YtkiogaglmjeplaaDoor
open Go.Eng
namespace N6

set_option maxRecDepth 100000 in
def ip6_whole_VC (bA : Option Addr) (bn : Nat) (bc : Nat) (w : World) (R : Ending → World → Prop) : Prop :=
  Br (decide ((65535 : Int) < (bn : Int)))
    (R (.returned (.tuple #[.slice none 0 0, .slice none 0 0, .int .i64 2])) w)
    (Br (decide ((bn : Int) < 40))
      (R (.returned (.tuple #[.slice none 0 0, .slice none 0 0, .int .i64 70])) w)
      (NewVC w (.cells #[.int .i64 4, .int .i64 8, .int .i64 20, .int .i64 16, .int .i64 8, .int .i64 8] 3) fun g1 w1 =>
  Calls Tryd.prog 72 #[.slice bA bn bc, .int .i64 0, .slice (some ⟨g1, 0, none⟩) 6 6] w1 (onRet (fun r_ w2 => ∃ (x0A : Option Addr) (x0n x0c : Nat), ∃ x1 : Int, ∃ x2 : Int, r_ = .tuple #[.slice x0A x0n x0c, .int .i64 x1, .int .i64 x2] ∧
  IdxVC x0A x0n 1 0 fun a =>
  ∃ x : Int, w2.cell? a = some (.int .i64 x) ∧
  Br (decide (x ≠ 6))
    (R (.returned (.tuple #[.slice none 0 0, .slice none 0 0, .int .i64 71])) w2)
    (IdxVC x0A x0n 1 3 fun a1 =>
  ∃ x3 : Int, w2.cell? a1 = some (.int .i64 x3) ∧
  Calls Tryd.prog 73 #[.slice bA bn bc, .int .i64 (IntKind.i64.wrap (x1 + 32)), .int .i64 x3] w2 (onRet (fun r_1 w3 => ∃ (x0A1 : Option Addr) (x0n1 x0c1 : Nat), ∃ x11 : Int, r_1 = .tuple #[.slice x0A1 x0n1 x0c1, .int .i64 x11] ∧
  Br (decide (x11 ≠ 0))
    (R (.returned (.tuple #[.slice none 0 0, .slice none 0 0, .int .i64 70])) w3)
    (R (.returned (.tuple #[.slice x0A x0n x0c, .slice x0A1 x0n1 x0c1, .int .i64 0])) w3))
    (fun ch1 w3 => R (.panicked ch1) w3))))
    (fun ch w2 => R (.panicked ch) w2))))
def ip6_whole_H : Hints := []
set_option maxRecDepth 100000 in
theorem ip6_whole_of (bA : Option Addr) (bn : Nat) (bc : Nat) (w : World) (R : Ending → World → Prop) (hvc_ : ip6_whole_VC bA bn bc w R) :
    Calls Tryd.prog 44 #[.slice bA bn bc] w R :=
  calls_of_wpc callOk mixedOk (H := ip6_whole_H) (args := [.slice bA bn bc]) (fn := Tryd.f44) (c := bodyOf Tryd.f44) Tryd.func44 rfl (Nat.le_of_ble_eq_true rfl)
    (Eq.mp (by kernel_rfl : ip6_whole_VC bA bn bc w R = wpc Tryd.prog callF Tryd.f44.ntmps ip6_whole_H 1 (bodyOf Tryd.f44) (argEnv 0 [.slice bA bn bc]) [] w (finish Tryd.prog callF Tryd.f44.results.toList R)) hvc_)

set_option maxRecDepth 100000 in
def ip6_Parse_VC (bA : Option Addr) (bn : Nat) (bc : Nat) (w : World) (R : Ending → World → Prop) : Prop :=
  NewVC w (.cells (Ip6V.z : Ip6V).cells.toArray 30) fun g1 w1 =>
  Calls Tryd.prog 44 #[.slice bA bn bc] w1 (onRet (fun r_ w2 => ∃ (x0A : Option Addr) (x0n x0c : Nat), ∃ (x1A : Option Addr) (x1n x1c : Nat), ∃ x2 : Int, r_ = .tuple #[.slice x0A x0n x0c, .slice x1A x1n x1c, .int .i64 x2] ∧
  Br (decide (x2 ≠ 0))
    (Stores ⟨g1, 0, none⟩ 0 (Ip6V.z : Ip6V).cells w2 fun w3 =>
    Ip6V.ex fun res => CellsAt w3 ⟨g1, 0, none⟩ 0 res.cells ∧
  R (.returned (.tuple #[res.val, .int .i64 x2])) w3)
    (IdxVC x0A x0n 1 4 fun a =>
  ∃ x : Int, w2.cell? a = some (.int .i64 x) ∧
  Calls Tryd.prog 45 #[.int .i64 x, .slice x1A x1n x1c, .bool false] w2 (onRet (fun r_1 w4 => ChnV.ex fun h => ∃ x1 : Int, r_1 = .tuple #[h.val, .int .i64 x1] ∧
  NewVC w4 (.cells (ChnV.z : ChnV).cells.toArray 101) fun g2 w5 =>
  Stores ⟨g2, 0, none⟩ 0 h.cells w5 fun w6 =>
  Br (decide (x1 ≠ 0))
    (Stores ⟨g1, 0, none⟩ 0 (Ip6V.z : Ip6V).cells w6 fun w7 =>
    Ip6V.ex fun res1 => CellsAt w7 ⟨g1, 0, none⟩ 0 res1.cells ∧
  R (.returned (.tuple #[res1.val, .int .i64 x1])) w7)
    (DrawVC w6 fun S1 w8 =>
  IdxVC x0A x0n 1 1 fun a1 =>
  ∃ x3 : Int, (∀ w' : World, S1 w' → w'.cell? a1 = some (.int .i64 x3)) ∧
  IdxVC x0A x0n 1 2 fun a2 =>
  ∃ x4 : Int, (∀ w' : World, S1 w' → w'.cell? a2 = some (.int .i64 x4)) ∧
  IdxVC x0A x0n 1 5 fun a3 =>
  ∃ x5 : Int, (∀ w' : World, S1 w' → w'.cell? a3 = some (.int .i64 x5)) ∧
  ∃ (xA : Option Addr) (xn xc : Nat), (∀ w' : World, S1 w' → w'.cell? ⟨g2, 0, none⟩ = some (.slice xA xn xc)) ∧
  FragV.ex fun h1 => (∀ w' : World, S1 w' → CellsAt w' ⟨g2, 1, none⟩ 0 h1.cells) ∧
  ∃ x6 : Int, (∀ w' : World, S1 w' → w'.cell? ⟨g2, 5, none⟩ = some (.int .i64 x6)) ∧
  ∃ (xA1 : Option Addr) (xn1 xc1 : Nat), (∀ w' : World, S1 w' → w'.cell? ⟨g2, 6, none⟩ = some (.slice xA1 xn1 xc1)) ∧
  NewVC w8 (.cells (Ip6V.z : Ip6V).cells.toArray 30) fun g3 w9 =>
  S1 w9 ∧
  Stores ⟨g3, 0, none⟩ 0 [.int .i64 x3, .int .i64 x4, .int .i64 x5, .int .i64 0, .int .u8 0, .int .u8 0, .int .u8 0, .int .u8 0, .int .u8 0, .int .u8 0, .int .u8 0, .int .u8 0, .int .u8 0, .int .u8 0, .int .u8 0, .int .u8 0, .int .u8 0, .int .u8 0, .int .u8 0, .int .u8 0, .int .i64 0, .int .u8 0, .int .u8 0, .int .u8 0, .int .u8 0, .int .u8 0, .int .u8 0, .int .u8 0, .int .u8 0, .int .u8 0, .int .u8 0, .int .u8 0, .int .u8 0, .int .u8 0, .int .u8 0, .int .u8 0, .int .u8 0, .slice xA xn xc, .bool h1.has, .bool h1.more, .int .i64 h1.id, .int .i64 h1.off, .int .i64 x6, .slice xA1 xn1 xc1] w9 fun w10 =>
  SliceVC bA bn bc 1 (some 8) (some 24) none fun sA sn _sc =>
  16 ≤ sn ∧
  NilVC sA fun p =>
  A16V.ex fun h2 => CellsAt w10 p 0 h2.cells ∧
  Stores ⟨g3, 3, none⟩ 0 [.int .i64 6, .int .u8 h2.a0, .int .u8 h2.a1, .int .u8 h2.a2, .int .u8 h2.a3, .int .u8 h2.a4, .int .u8 h2.a5, .int .u8 h2.a6, .int .u8 h2.a7, .int .u8 h2.a8, .int .u8 h2.a9, .int .u8 h2.a10, .int .u8 h2.a11, .int .u8 h2.a12, .int .u8 h2.a13, .int .u8 h2.a14, .int .u8 h2.a15] w10 fun w11 =>
  SliceVC bA bn bc 1 (some 24) (some 40) none fun sA1 sn1 _sc1 =>
  16 ≤ sn1 ∧
  NilVC sA1 fun p1 =>
  A16V.ex fun h3 => CellsAt w11 p1 0 h3.cells ∧
  Stores ⟨g3, 20, none⟩ 0 [.int .i64 6, .int .u8 h3.a0, .int .u8 h3.a1, .int .u8 h3.a2, .int .u8 h3.a3, .int .u8 h3.a4, .int .u8 h3.a5, .int .u8 h3.a6, .int .u8 h3.a7, .int .u8 h3.a8, .int .u8 h3.a9, .int .u8 h3.a10, .int .u8 h3.a11, .int .u8 h3.a12, .int .u8 h3.a13, .int .u8 h3.a14, .int .u8 h3.a15] w11 fun w12 =>
  Ip6V.ex fun h4 => CellsAt w12 ⟨g3, 0, none⟩ 0 h4.cells ∧
  Stores ⟨g1, 0, none⟩ 0 h4.cells w12 fun w13 =>
  Ip6V.ex fun res2 => CellsAt w13 ⟨g1, 0, none⟩ 0 res2.cells ∧
  R (.returned (.tuple #[res2.val, .int .i64 0])) w13))
    (fun ch1 w4 => R (.panicked ch1) w4))))
    (fun ch w2 => R (.panicked ch) w2))
def ip6_Parse_H : Hints := []
set_option maxRecDepth 100000 in
theorem ip6_Parse_of (bA : Option Addr) (bn : Nat) (bc : Nat) (w : World) (R : Ending → World → Prop) (hvc_ : ip6_Parse_VC bA bn bc w R) :
    Calls Tryd.prog 13 #[.slice bA bn bc] w R :=
  calls_of_wpc callOk mixedOk (H := ip6_Parse_H) (args := [.slice bA bn bc]) (fn := Tryd.f13) (c := bodyOf Tryd.f13) Tryd.func13 rfl (Nat.le_of_ble_eq_true rfl)
    (Eq.mp (by kernel_rfl : ip6_Parse_VC bA bn bc w R = wpc Tryd.prog callF Tryd.f13.ntmps ip6_Parse_H 1 (bodyOf Tryd.f13) (argEnv 0 [.slice bA bn bc]) [] w (finish Tryd.prog callF Tryd.f13.results.toList R)) hvc_)

set_option maxRecDepth 100000 in
def weirref1_Part_L58 (R : Ending → World → Prop) (bA : Option Addr) (bn : Nat) (hi : Int) (lA : Option Addr) (ln : Nat) (lc : Nat) (i : Int) (w1 : World) (K58 : ((Option Addr × Nat × Nat) × Int → World → Prop)) : Prop :=
  Br (decide (i < hi))
    (IdxVC bA bn 1 i fun a =>
  ∃ x : Int, w1.cell? a = some (.int .u8 x) ∧
  NewVC w1 (.cells #[.int .u8 x] 5) fun g1 w2 =>
  AppVC Tryd.prog #[22, 22] 22 (.slice lA ln lc) (.slice (some ⟨g1, 0, none⟩) 1 1) w2 fun lA1 ln1 lc1 w3 =>
  K58 ((lA1, ln1, lc1), IntKind.i64.wrap (i + 1)) w3)
    (R (.returned (.slice lA ln lc)) w1)
set_option maxRecDepth 100000 in
def weirref1_Part_VC (bA : Option Addr) (bn : Nat) (_bc : Nat) (lo : Int) (hi : Int) (w : World) (R : Ending → World → Prop) : Prop :=
  LoopVC (S := (Option Addr × Nat × Nat) × Int) (fun s_ w1 K58 => weirref1_Part_L58 R bA bn hi s_.1.1 s_.1.2.1 s_.1.2.2 s_.2 w1 K58) ((none, 0, 0), lo) w
def weirref1_Part_H : Hints := [(58, [(7, .slice), (8, .int .i64)])]
set_option maxRecDepth 100000 in
theorem weirref1_Part_of (bA : Option Addr) (bn : Nat) (bc : Nat) (lo : Int) (hi : Int) (w : World) (R : Ending → World → Prop) (hvc_ : weirref1_Part_VC bA bn bc lo hi w R) :
    Calls Tryd.prog 15 #[.slice bA bn bc, .int .i64 lo, .int .i64 hi] w R :=
  calls_of_wpc callOk mixedOk (H := weirref1_Part_H) (args := [.slice bA bn bc, .int .i64 lo, .int .i64 hi]) (fn := Tryd.f15) (c := bodyOf Tryd.f15) Tryd.func15 rfl (Nat.le_of_ble_eq_true rfl)
    (Eq.mp (by kernel_rfl : weirref1_Part_VC bA bn bc lo hi w R = wpc Tryd.prog callF Tryd.f15.ntmps weirref1_Part_H 1 (bodyOf Tryd.f15) (argEnv 0 [.slice bA bn bc, .int .i64 lo, .int .i64 hi]) [] w (finish Tryd.prog callF Tryd.f15.results.toList R)) hvc_)

set_option maxRecDepth 100000 in
def weirref1_There_VC (_bA : Option Addr) (bn : Nat) (_bc : Nat) (at_ : Int) (n : Int) (w : World) (R : Ending → World → Prop) : Prop :=
  Br (decide ((0 : Int) ≤ at_))
    (Br (decide (at_ ≤ (bn : Int)))
      (R (.returned (.bool (decide (n ≤ IntKind.i64.wrap ((bn : Int) - at_))))) w)
      (R (.returned (.bool false)) w))
    (R (.returned (.bool false)) w)
def weirref1_There_H : Hints := []
set_option maxRecDepth 100000 in
theorem weirref1_There_of (bA : Option Addr) (bn : Nat) (bc : Nat) (at_ : Int) (n : Int) (w : World) (R : Ending → World → Prop) (hvc_ : weirref1_There_VC bA bn bc at_ n w R) :
    Calls Tryd.prog 80 #[.slice bA bn bc, .int .i64 at_, .int .i64 n] w R :=
  calls_of_wpc callOk mixedOk (H := weirref1_There_H) (args := [.slice bA bn bc, .int .i64 at_, .int .i64 n]) (fn := Tryd.f80) (c := bodyOf Tryd.f80) Tryd.func80 rfl (Nat.le_of_ble_eq_true rfl)
    (Eq.mp (by kernel_rfl : weirref1_There_VC bA bn bc at_ n w R = wpc Tryd.prog callF Tryd.f80.ntmps weirref1_There_H 1 (bodyOf Tryd.f80) (argEnv 0 [.slice bA bn bc, .int .i64 at_, .int .i64 n]) [] w (finish Tryd.prog callF Tryd.f80.results.toList R)) hvc_)

set_option maxRecDepth 100000 in
def weirref1_bit_L58 (R : Ending → World → Prop)  (c : Int) (k : Int) (w1 : World) (K58 : (Int × Int → World → Prop)) : Prop :=
  Br (decide (k < 7))
    (K58 (IntKind.i64.wrap (Int.tdiv c 2), IntKind.i64.wrap (k + 1)) w1)
    (R (.returned (.int .i64 (Int.tmod c 2))) w1)
set_option maxRecDepth 100000 in
def weirref1_bit_VC (bA : Option Addr) (bn : Nat) (_bc : Nat) (i : Int) (w : World) (R : Ending → World → Prop) : Prop :=
  IdxVC bA bn 1 (IntKind.i64.wrap (Int.tdiv i 8)) fun a =>
  ∃ x : Int, w.cell? a = some (.int .u8 x) ∧
  LoopVC (S := Int × Int) (fun s_ w1 K58 => weirref1_bit_L58 R s_.1 s_.2 w1 K58) (IntKind.i64.wrap x, Int.tmod i 8) w
def weirref1_bit_H : Hints := [(58, [(5, .int .i64), (6, .int .i64)])]
set_option maxRecDepth 100000 in
theorem weirref1_bit_of (bA : Option Addr) (bn : Nat) (bc : Nat) (i : Int) (w : World) (R : Ending → World → Prop) (hvc_ : weirref1_bit_VC bA bn bc i w R) :
    Calls Tryd.prog 81 #[.slice bA bn bc, .int .i64 i] w R :=
  calls_of_wpc callOk mixedOk (H := weirref1_bit_H) (args := [.slice bA bn bc, .int .i64 i]) (fn := Tryd.f81) (c := bodyOf Tryd.f81) Tryd.func81 rfl (Nat.le_of_ble_eq_true rfl)
    (Eq.mp (by kernel_rfl : weirref1_bit_VC bA bn bc i w R = wpc Tryd.prog callF Tryd.f81.ntmps weirref1_bit_H 1 (bodyOf Tryd.f81) (argEnv 0 [.slice bA bn bc, .int .i64 i]) [] w (finish Tryd.prog callF Tryd.f81.results.toList R)) hvc_)

set_option maxRecDepth 100000 in
def weirref1_Fields_L522826 (R : Ending → World → Prop) (bA : Option Addr) (bn : Nat) (bc : Nat) (widthsA : Option Addr) (widthsn : Nat) (lA : Option Addr) (ln : Nat) (lc : Nat) (i : Int) (K2042 : ((Option Addr × Nat × Nat) × Int × Int → World → Prop)) (p1 : Int) (v_ : Int) (k : Int) (w4 : World) (K522826 : (Int × Int × Int → World → Prop)) : Prop :=
  IdxVC widthsA widthsn 1 i fun a =>
  ∃ x2 : Int, w4.cell? a = some (.int .i64 x2) ∧
  Br (decide (k < x2))
    (Calls Tryd.prog 81 #[.slice bA bn bc, .int .i64 p1] w4 (onRet (fun r_2 w5 => ∃ x3 : Int, r_2 = .int .i64 x3 ∧
  K522826 (IntKind.i64.wrap (p1 + 1), IntKind.i64.wrap (IntKind.i64.wrap (2 * v_) + x3), IntKind.i64.wrap (k + 1)) w5)
    (fun ch2 w5 => R (.panicked ch2) w5)))
    (NewVC w4 (.cells #[.int .i64 v_] 3) fun g1 w6 =>
  AppVC Tryd.prog #[97, 97] 97 (.slice lA ln lc) (.slice (some ⟨g1, 0, none⟩) 1 1) w6 fun lA1 ln1 lc1 w7 =>
  K2042 ((lA1, ln1, lc1), p1, IntKind.i64.wrap (i + 1)) w7)
set_option maxRecDepth 100000 in
def weirref1_Fields_L2042 (R : Ending → World → Prop) (bA : Option Addr) (bn : Nat) (bc : Nat) (at_ : Int) (widthsA : Option Addr) (widthsn : Nat) (x : Int) (lA : Option Addr) (ln : Nat) (lc : Nat) (p : Int) (i : Int) (w3 : World) (K2042 : ((Option Addr × Nat × Nat) × Int × Int → World → Prop)) : Prop :=
  Br (decide (i < (widthsn : Int)))
    (LoopVC (S := Int × Int × Int) (fun s_ w4 K522826 => weirref1_Fields_L522826 R bA bn bc widthsA widthsn lA ln lc i K2042 s_.1 s_.2.1 s_.2.2 w4 K522826) (p, 0, 0) w3)
    (R (.returned (.tuple #[.slice lA ln lc, .int .i64 (IntKind.i64.wrap (at_ + IntKind.i64.wrap (Int.tdiv x 8))), .int .i64 0])) w3)
set_option maxRecDepth 100000 in
def weirref1_Fields_VC (bA : Option Addr) (bn : Nat) (bc : Nat) (at_ : Int) (widthsA : Option Addr) (widthsn : Nat) (widthsc : Nat) (w : World) (R : Ending → World → Prop) : Prop :=
  Calls Tryd.prog 79 #[.slice widthsA widthsn widthsc] w (onRet (fun r_ w1 => ∃ x : Int, r_ = .int .i64 x ∧
  Br (decide (x < 0))
    (R (.returned (.tuple #[.slice none 0 0, .int .i64 0, .int .i64 11])) w1)
    (Calls Tryd.prog 80 #[.slice bA bn bc, .int .i64 at_, .int .i64 (IntKind.i64.wrap (Int.tdiv x 8))] w1 (onRet (fun r_1 w2 => ∃ x1 : Bool, r_1 = .bool x1 ∧
  Br (!x1)
    (R (.returned (.tuple #[.slice none 0 0, .int .i64 0, .int .i64 10])) w2)
    (LoopVC (S := (Option Addr × Nat × Nat) × Int × Int) (fun s_ w3 K2042 => weirref1_Fields_L2042 R bA bn bc at_ widthsA widthsn x s_.1.1 s_.1.2.1 s_.1.2.2 s_.2.1 s_.2.2 w3 K2042) ((none, 0, 0), IntKind.i64.wrap (8 * at_), 0) w2))
    (fun ch1 w2 => R (.panicked ch1) w2))))
    (fun ch w1 => R (.panicked ch) w1))
def weirref1_Fields_H : Hints := [(2042, [(11, .slice), (12, .int .i64), (13, .int .i64)]), (522826, [(12, .int .i64), (14, .int .i64), (15, .int .i64)])]
set_option maxRecDepth 100000 in
theorem weirref1_Fields_of (bA : Option Addr) (bn : Nat) (bc : Nat) (at_ : Int) (widthsA : Option Addr) (widthsn : Nat) (widthsc : Nat) (w : World) (R : Ending → World → Prop) (hvc_ : weirref1_Fields_VC bA bn bc at_ widthsA widthsn widthsc w R) :
    Calls Tryd.prog 46 #[.slice bA bn bc, .int .i64 at_, .slice widthsA widthsn widthsc] w R :=
  calls_of_wpc callOk mixedOk (H := weirref1_Fields_H) (args := [.slice bA bn bc, .int .i64 at_, .slice widthsA widthsn widthsc]) (fn := Tryd.f46) (c := bodyOf Tryd.f46) Tryd.func46 rfl (Nat.le_of_ble_eq_true rfl)
    (Eq.mp (by kernel_rfl : weirref1_Fields_VC bA bn bc at_ widthsA widthsn widthsc w R = wpc Tryd.prog callF Tryd.f46.ntmps weirref1_Fields_H 1 (bodyOf Tryd.f46) (argEnv 0 [.slice bA bn bc, .int .i64 at_, .slice widthsA widthsn widthsc]) [] w (finish Tryd.prog callF Tryd.f46.results.toList R)) hvc_)

set_option maxRecDepth 100000 in
def weirref1_Uint_L506 (R : Ending → World → Prop) (bA : Option Addr) (bn : Nat) (bc : Nat) (at_ : Int) (n : Int) (v_ : Int) (i : Int) (w2 : World) (K506 : (Int × Int → World → Prop)) : Prop :=
  Br (decide (i < IntKind.i64.wrap (8 * IntKind.i64.wrap (at_ + n))))
    (Calls Tryd.prog 81 #[.slice bA bn bc, .int .i64 i] w2 (onRet (fun r_1 w3 => ∃ x1 : Int, r_1 = .int .i64 x1 ∧
  K506 (IntKind.u64.wrap (IntKind.u64.wrap (2 * v_) + IntKind.u64.wrap x1), IntKind.i64.wrap (i + 1)) w3)
    (fun ch1 w3 => R (.panicked ch1) w3)))
    (R (.returned (.tuple #[.int .u64 v_, .int .i64 0])) w2)
set_option maxRecDepth 100000 in
def weirref1_Uint_VC (bA : Option Addr) (bn : Nat) (bc : Nat) (at_ : Int) (n : Int) (w : World) (R : Ending → World → Prop) : Prop :=
  Br (decide (n < 1))
    (R (.returned (.tuple #[.int .u64 0, .int .i64 1])) w)
    (Br (decide ((8 : Int) < n))
    (R (.returned (.tuple #[.int .u64 0, .int .i64 1])) w)
    (Calls Tryd.prog 80 #[.slice bA bn bc, .int .i64 at_, .int .i64 n] w (onRet (fun r_ w1 => ∃ x : Bool, r_ = .bool x ∧
  Br (!x)
    (R (.returned (.tuple #[.int .u64 0, .int .i64 10])) w1)
    (LoopVC (S := Int × Int) (fun s_ w2 K506 => weirref1_Uint_L506 R bA bn bc at_ n s_.1 s_.2 w2 K506) (0, IntKind.i64.wrap (8 * at_)) w1))
    (fun ch w1 => R (.panicked ch) w1))))
def weirref1_Uint_H : Hints := [(506, [(9, .int .u64), (10, .int .i64)])]
set_option maxRecDepth 100000 in
theorem weirref1_Uint_of (bA : Option Addr) (bn : Nat) (bc : Nat) (at_ : Int) (n : Int) (w : World) (R : Ending → World → Prop) (hvc_ : weirref1_Uint_VC bA bn bc at_ n w R) :
    Calls Tryd.prog 49 #[.slice bA bn bc, .int .i64 at_, .int .i64 n] w R :=
  calls_of_wpc callOk mixedOk (H := weirref1_Uint_H) (args := [.slice bA bn bc, .int .i64 at_, .int .i64 n]) (fn := Tryd.f49) (c := bodyOf Tryd.f49) Tryd.func49 rfl (Nat.le_of_ble_eq_true rfl)
    (Eq.mp (by kernel_rfl : weirref1_Uint_VC bA bn bc at_ n w R = wpc Tryd.prog callF Tryd.f49.ntmps weirref1_Uint_H 1 (bodyOf Tryd.f49) (argEnv 0 [.slice bA bn bc, .int .i64 at_, .int .i64 n]) [] w (finish Tryd.prog callF Tryd.f49.results.toList R)) hvc_)

set_option maxRecDepth 100000 in
def weirref7_padding_L28 (R : Ending → World → Prop) (bA : Option Addr) (bn : Nat) (p : Int) (n : Int) (w1 : World) (K28 : (Int → World → Prop)) : Prop :=
  Br (decide (IntKind.i64.wrap (p + n) < (bn : Int)))
    (IdxVC bA bn 1 (IntKind.i64.wrap (p + n)) fun a =>
    ∃ x : Int, w1.cell? a = some (.int .u8 x) ∧
    Br (decide (x < 2))
    (IdxVC bA bn 1 (IntKind.i64.wrap (p + n)) fun a1 =>
  ∃ x1 : Int, w1.cell? a1 = some (.int .u8 x1) ∧
  Br (decide (x1 = 0))
    (K28 (IntKind.i64.wrap (n + 1)) w1)
    (Br (decide ((bn : Int) ≤ IntKind.i64.wrap (IntKind.i64.wrap (p + n) + 1)))
    (R (.returned (.int .i64 (-1))) w1)
    (IdxVC bA bn 1 (IntKind.i64.wrap (IntKind.i64.wrap (p + n) + 1)) fun a2 =>
    ∃ x2 : Int, w1.cell? a2 = some (.int .u8 x2) ∧
    Br (decide ((bn : Int) < IntKind.i64.wrap (IntKind.i64.wrap (IntKind.i64.wrap (p + n) + 2) + IntKind.i64.wrap x2)))
    (R (.returned (.int .i64 (-1))) w1)
    (IdxVC bA bn 1 (IntKind.i64.wrap (IntKind.i64.wrap (p + n) + 1)) fun a3 =>
  ∃ x3 : Int, w1.cell? a3 = some (.int .u8 x3) ∧
  K28 (IntKind.i64.wrap (IntKind.i64.wrap (n + 2) + IntKind.i64.wrap x3)) w1))))
    (R (.returned (.int .i64 n)) w1))
    (R (.returned (.int .i64 n)) w1)
set_option maxRecDepth 100000 in
def weirref7_padding_VC (bA : Option Addr) (bn : Nat) (_bc : Nat) (p : Int) (w : World) (R : Ending → World → Prop) : Prop :=
  LoopVC (S := Int) (fun s_ w1 K28 => weirref7_padding_L28 R bA bn p s_ w1 K28) 0 w
def weirref7_padding_H : Hints := [(28, [(5, .int .i64)])]
set_option maxRecDepth 100000 in
theorem weirref7_padding_of (bA : Option Addr) (bn : Nat) (bc : Nat) (p : Int) (w : World) (R : Ending → World → Prop) (hvc_ : weirref7_padding_VC bA bn bc p w R) :
    Calls Tryd.prog 103 #[.slice bA bn bc, .int .i64 p] w R :=
  calls_of_wpc callOk mixedOk (H := weirref7_padding_H) (args := [.slice bA bn bc, .int .i64 p]) (fn := Tryd.f103) (c := bodyOf Tryd.f103) Tryd.func103 rfl (Nat.le_of_ble_eq_true rfl)
    (Eq.mp (by kernel_rfl : weirref7_padding_VC bA bn bc p w R = wpc Tryd.prog callF Tryd.f103.ntmps weirref7_padding_H 1 (bodyOf Tryd.f103) (argEnv 0 [.slice bA bn bc, .int .i64 p]) [] w (finish Tryd.prog callF Tryd.f103.results.toList R)) hvc_)

set_option maxRecDepth 100000 in
def weirref7_Options_L247210 (lA : Option Addr) (ln : Nat) (lc : Nat) (p : Int) (K60 : ((Option Addr × Nat × Nat) × Int → World → Prop)) (x : Int) (zA : Option Addr) (zn : Nat) (zc : Nat) (i : Int) (w3 : World) (K247210 : ((Option Addr × Nat × Nat) × Int → World → Prop)) : Prop :=
  Br (decide (i < x))
    (NewVC w3 (.cells #[.int .u8 0] 5) fun g1 w4 =>
  AppVC Tryd.prog #[22, 22] 22 (.slice zA zn zc) (.slice (some ⟨g1, 0, none⟩) 1 1) w4 fun lA1 ln1 lc1 w5 =>
  K247210 ((lA1, ln1, lc1), IntKind.i64.wrap (i + 1)) w5)
    (NewVC w3 (.cells #[.int .i64 0, .slice zA zn zc] 65) fun g2 w6 =>
    AppVC Tryd.prog #[52, 52] 52 (.slice lA ln lc) (.slice (some ⟨g2, 0, none⟩) 1 1) w6 fun lA2 ln2 lc2 w7 =>
    K60 ((lA2, ln2, lc2), IntKind.i64.wrap (p + x)) w7)
set_option maxRecDepth 100000 in
def weirref7_Options_L60 (R : Ending → World → Prop) (bA : Option Addr) (bn : Nat) (bc : Nat) (lA : Option Addr) (ln : Nat) (lc : Nat) (p : Int) (w1 : World) (K60 : ((Option Addr × Nat × Nat) × Int → World → Prop)) : Prop :=
  Br (decide (p < (bn : Int)))
    (Calls Tryd.prog 103 #[.slice bA bn bc, .int .i64 p] w1 (onRet (fun r_ w2 => ∃ x : Int, r_ = .int .i64 x ∧
  Br (decide (x < 0))
    (R (.returned (.tuple #[.slice none 0 0, .int .i64 75])) w2)
    (Br (decide ((0 : Int) < x))
    (LoopVC (S := (Option Addr × Nat × Nat) × Int) (fun s_ w3 K247210 => weirref7_Options_L247210 lA ln lc p K60 x s_.1.1 s_.1.2.1 s_.1.2.2 s_.2 w3 K247210) ((none, 0, 0), 0) w2)
    (Br (decide ((bn : Int) ≤ IntKind.i64.wrap (p + 1)))
    (R (.returned (.tuple #[.slice none 0 0, .int .i64 75])) w2)
    (IdxVC bA bn 1 (IntKind.i64.wrap (p + 1)) fun a =>
    ∃ x1 : Int, w2.cell? a = some (.int .u8 x1) ∧
    Br (decide ((bn : Int) < IntKind.i64.wrap (IntKind.i64.wrap (p + 2) + IntKind.i64.wrap x1)))
    (R (.returned (.tuple #[.slice none 0 0, .int .i64 75])) w2)
    (IdxVC bA bn 1 (IntKind.i64.wrap (p + 1)) fun a1 =>
  ∃ x2 : Int, w2.cell? a1 = some (.int .u8 x2) ∧
  DrawVC w2 fun S1 w8 =>
  IdxVC bA bn 1 p fun a2 =>
  ∃ x3 : Int, (∀ w' : World, S1 w' → w'.cell? a2 = some (.int .u8 x3)) ∧
  Calls Tryd.prog 15 #[.slice bA bn bc, .int .i64 (IntKind.i64.wrap (p + 2)), .int .i64 (IntKind.i64.wrap (IntKind.i64.wrap (p + 2) + IntKind.i64.wrap x2))] w8 (onRet (fun r_1 w9 => ∃ (xA : Option Addr) (xn xc : Nat), r_1 = .slice xA xn xc ∧
  S1 w9 ∧
  NewVC w9 (.cells #[.int .i64 (IntKind.i64.wrap x3), .slice xA xn xc] 65) fun g3 w10 =>
  S1 w10 ∧
  AppVC Tryd.prog #[52, 52] 52 (.slice lA ln lc) (.slice (some ⟨g3, 0, none⟩) 1 1) w10 fun lA3 ln3 lc3 w11 =>
  S1 w11 ∧
  K60 ((lA3, ln3, lc3), IntKind.i64.wrap (IntKind.i64.wrap (p + 2) + IntKind.i64.wrap x2)) w11)
    (fun _ _ => False)))))))
    (fun ch w2 => R (.panicked ch) w2)))
    (R (.returned (.tuple #[.slice lA ln lc, .int .i64 0])) w1)
set_option maxRecDepth 100000 in
def weirref7_Options_VC (bA : Option Addr) (bn : Nat) (bc : Nat) (w : World) (R : Ending → World → Prop) : Prop :=
  LoopVC (S := (Option Addr × Nat × Nat) × Int) (fun s_ w1 K60 => weirref7_Options_L60 R bA bn bc s_.1.1 s_.1.2.1 s_.1.2.2 s_.2 w1 K60) ((none, 0, 0), 0) w
def weirref7_Options_H : Hints := [(60, [(4, .slice), (5, .int .i64)]), (247210, [(7, .slice), (8, .int .i64)])]
set_option maxRecDepth 100000 in
theorem weirref7_Options_of (bA : Option Addr) (bn : Nat) (bc : Nat) (w : World) (R : Ending → World → Prop) (hvc_ : weirref7_Options_VC bA bn bc w R) :
    Calls Tryd.prog 82 #[.slice bA bn bc] w R :=
  calls_of_wpc callOk mixedOk (H := weirref7_Options_H) (args := [.slice bA bn bc]) (fn := Tryd.f82) (c := bodyOf Tryd.f82) Tryd.func82 rfl (Nat.le_of_ble_eq_true rfl)
    (Eq.mp (by kernel_rfl : weirref7_Options_VC bA bn bc w R = wpc Tryd.prog callF Tryd.f82.ntmps weirref7_Options_H 1 (bodyOf Tryd.f82) (argEnv 0 [.slice bA bn bc]) [] w (finish Tryd.prog callF Tryd.f82.results.toList R)) hvc_)

set_option maxRecDepth 100000 in
def weirref7_chain_J14527 (bA : Option Addr) (bn : Nat) (p1 : Int) (lA : Option Addr) (ln : Nat) (lc : Nat) (K28 : (Int × Int × (Option Addr × Nat × Nat) → World → Prop)) (x1 : Int) (g1 : Nat)  (w10 : World) : Prop :=
  ExtV.ex fun h => CellsAt w10 ⟨g1, 0, none⟩ 0 h.cells ∧
  NewVC w10 (.cells h.cells.toArray 54) fun g2 w11 =>
  AppVC Tryd.prog #[26, 26] 26 (.slice lA ln lc) (.slice (some ⟨g2, 0, none⟩) 1 1) w11 fun lA1 ln1 lc1 w12 =>
  IdxVC bA bn 1 p1 fun a2 =>
  ∃ x2 : Int, w12.cell? a2 = some (.int .u8 x2) ∧
  K28 (IntKind.i64.wrap x2, IntKind.i64.wrap (IntKind.i64.wrap (p1 + IntKind.i64.wrap (8 * IntKind.i64.wrap x1)) + 8), (lA1, ln1, lc1)) w12
set_option maxRecDepth 100000 in
def weirref7_chain_J226 (R : Ending → World → Prop) (bA : Option Addr) (bn : Nat) (bc : Nat) (k1 : Int) (p1 : Int) (lA : Option Addr) (ln : Nat) (lc : Nat) (K28 : (Int × Int × (Option Addr × Nat × Nat) → World → Prop))  (w3 : World) : Prop :=
  Br (decide ((ln : Int) = 8))
    (R (.returned (.tuple #[.slice none 0 0, .int .i64 0, .int .i64 0, .int .i64 74])) w3)
    (Br (decide (IntKind.i64.wrap ((bn : Int) - p1) < 8))
    (R (.returned (.tuple #[.slice none 0 0, .int .i64 0, .int .i64 0, .int .i64 72])) w3)
    (IdxVC bA bn 1 (IntKind.i64.wrap (p1 + 1)) fun a =>
    ∃ x : Int, w3.cell? a = some (.int .u8 x) ∧
    Br (decide (IntKind.i64.wrap ((bn : Int) - p1) < IntKind.i64.wrap (IntKind.i64.wrap (8 * IntKind.i64.wrap x) + 8)))
    (R (.returned (.tuple #[.slice none 0 0, .int .i64 0, .int .i64 0, .int .i64 72])) w3)
    (IdxVC bA bn 1 (IntKind.i64.wrap (p1 + 1)) fun a1 =>
  ∃ x1 : Int, w3.cell? a1 = some (.int .u8 x1) ∧
  NewVC w3 (.cells (ExtV.z : ExtV).cells.toArray 54) fun g1 w4 =>
  Stores ⟨g1, 0, none⟩ 0 [.int .i64 k1, .slice none 0 0, .slice none 0 0] w4 fun w5 =>
  Calls Tryd.prog 15 #[.slice bA bn bc, .int .i64 (IntKind.i64.wrap (p1 + 2)), .int .i64 (IntKind.i64.wrap (IntKind.i64.wrap (p1 + IntKind.i64.wrap (8 * IntKind.i64.wrap x1)) + 8))] w5 (onRet (fun r_ w6 => ∃ (xA : Option Addr) (xn xc : Nat), r_ = .slice xA xn xc ∧
  JoinVC (S := Unit) (fun J14527 =>
      Br (decide (k1 = 43))
        (SetVC w6 ⟨g1, 2, none⟩ (.slice xA xn xc) fun w7 =>
        J14527 () w7)
        (Calls Tryd.prog 82 #[.slice xA xn xc] w6 (onRet (fun r_1 w8 => ∃ (x0A : Option Addr) (x0n x0c : Nat), ∃ x11 : Int, r_1 = .tuple #[.slice x0A x0n x0c, .int .i64 x11] ∧
        Br (decide (x11 ≠ 0))
          (R (.returned (.tuple #[.slice none 0 0, .int .i64 0, .int .i64 0, .int .i64 x11])) w8)
          (SetVC w8 ⟨g1, 1, none⟩ (.slice x0A x0n x0c) fun w9 =>
        J14527 () w9))
          (fun ch1 w8 => R (.panicked ch1) w8))))
    (fun _ w10 => weirref7_chain_J14527 bA bn p1 lA ln lc K28 x1 g1 w10))
    (fun ch w6 => R (.panicked ch) w6)))))
set_option maxRecDepth 100000 in
def weirref7_chain_J56 (R : Ending → World → Prop) (bA : Option Addr) (bn : Nat) (bc : Nat) (top : Bool) (k1 : Int) (p1 : Int) (lA : Option Addr) (ln : Nat) (lc : Nat) (K28 : (Int × Int × (Option Addr × Nat × Nat) → World → Prop))  (w2 : World) : Prop :=
  JoinVC (S := Unit) (fun J226 =>
      Br (decide (k1 = 0))
        (Br (!top)
          (R (.returned (.tuple #[.slice none 0 0, .int .i64 0, .int .i64 0, .int .i64 73])) w2)
          (Br (decide ((0 : Int) < (ln : Int)))
        (R (.returned (.tuple #[.slice none 0 0, .int .i64 0, .int .i64 0, .int .i64 73])) w2)
        (J226 () w2)))
        (J226 () w2))
    (fun _ w3 => weirref7_chain_J226 R bA bn bc k1 p1 lA ln lc K28 w3)
set_option maxRecDepth 100000 in
def weirref7_chain_L28 (R : Ending → World → Prop) (bA : Option Addr) (bn : Nat) (bc : Nat) (top : Bool) (k1 : Int) (p1 : Int) (lA : Option Addr) (ln : Nat) (lc : Nat) (w1 : World) (K28 : (Int × Int × (Option Addr × Nat × Nat) → World → Prop)) : Prop :=
  JoinVC (S := Unit) (fun J56 =>
      Br (decide (k1 = 0))
        (J56 () w1)
        (Br (decide (k1 = 43))
          (J56 () w1)
          (Br (decide (k1 = 60))
        (J56 () w1)
        (R (.returned (.tuple #[.slice lA ln lc, .int .i64 k1, .int .i64 p1, .int .i64 0])) w1))))
    (fun _ w2 => weirref7_chain_J56 R bA bn bc top k1 p1 lA ln lc K28 w2)
set_option maxRecDepth 100000 in
def weirref7_chain_VC (k : Int) (bA : Option Addr) (bn : Nat) (bc : Nat) (p : Int) (top : Bool) (w : World) (R : Ending → World → Prop) : Prop :=
  LoopVC (S := Int × Int × (Option Addr × Nat × Nat)) (fun s_ w1 K28 => weirref7_chain_L28 R bA bn bc top s_.1 s_.2.1 s_.2.2.1 s_.2.2.2.1 s_.2.2.2.2 w1 K28) (k, p, (none, 0, 0)) w
def weirref7_chain_H : Hints := [(28, [(0, .int .i64), (2, .int .i64), (12, .slice)]), (56, []), (226, []), (14527, [])]
set_option maxRecDepth 100000 in
theorem weirref7_chain_of (k : Int) (bA : Option Addr) (bn : Nat) (bc : Nat) (p : Int) (top : Bool) (w : World) (R : Ending → World → Prop) (hvc_ : weirref7_chain_VC k bA bn bc p top w R) :
    Calls Tryd.prog 47 #[.int .i64 k, .slice bA bn bc, .int .i64 p, .bool top] w R :=
  calls_of_wpc callOk mixedOk (H := weirref7_chain_H) (args := [.int .i64 k, .slice bA bn bc, .int .i64 p, .bool top]) (fn := Tryd.f47) (c := bodyOf Tryd.f47) Tryd.func47 rfl (Nat.le_of_ble_eq_true rfl)
    (Eq.mp (by kernel_rfl : weirref7_chain_VC k bA bn bc p top w R = wpc Tryd.prog callF Tryd.f47.ntmps weirref7_chain_H 1 (bodyOf Tryd.f47) (argEnv 0 [.int .i64 k, .slice bA bn bc, .int .i64 p, .bool top]) [] w (finish Tryd.prog callF Tryd.f47.results.toList R)) hvc_)

set_option maxRecDepth 100000 in
def weirref7_Chain_VC (next : Int) (bA : Option Addr) (bn : Nat) (bc : Nat) (w : World) (R : Ending → World → Prop) : Prop :=
  Calls Tryd.prog 60 #[.int .i64 next, .int .i64 255] w (onRet (fun r_ w1 => ∃ x : Bool, r_ = .bool x ∧
  Br x
    (R (.returned (.tuple #[.slice none 0 0, .int .i64 0, .slice none 0 0, .int .i64 1])) w1)
    (Br (decide ((65535 : Int) < (bn : Int)))
    (R (.returned (.tuple #[.slice none 0 0, .int .i64 0, .slice none 0 0, .int .i64 2])) w1)
    (Calls Tryd.prog 47 #[.int .i64 next, .slice bA bn bc, .int .i64 0, .bool false] w1 (onRet (fun r_1 w2 => ∃ (x0A : Option Addr) (x0n x0c : Nat), ∃ x1 : Int, ∃ x2 : Int, ∃ x3 : Int, r_1 = .tuple #[.slice x0A x0n x0c, .int .i64 x1, .int .i64 x2, .int .i64 x3] ∧
  Br (decide (x3 ≠ 0))
    (R (.returned (.tuple #[.slice none 0 0, .int .i64 0, .slice none 0 0, .int .i64 x3])) w2)
    (Br (decide (x1 = 44))
    (R (.returned (.tuple #[.slice none 0 0, .int .i64 0, .slice none 0 0, .int .i64 76])) w2)
    (Calls Tryd.prog 15 #[.slice bA bn bc, .int .i64 x2, .int .i64 (bn : Int)] w2 (onRet (fun r_2 w3 => ∃ (xA : Option Addr) (xn xc : Nat), r_2 = .slice xA xn xc ∧
  R (.returned (.tuple #[.slice x0A x0n x0c, .int .i64 x1, .slice xA xn xc, .int .i64 0])) w3)
    (fun ch2 w3 => R (.panicked ch2) w3)))))
    (fun ch1 w2 => R (.panicked ch1) w2)))))
    (fun ch w1 => R (.panicked ch) w1))
def weirref7_Chain_H : Hints := []
set_option maxRecDepth 100000 in
theorem weirref7_Chain_of (next : Int) (bA : Option Addr) (bn : Nat) (bc : Nat) (w : World) (R : Ending → World → Prop) (hvc_ : weirref7_Chain_VC next bA bn bc w R) :
    Calls Tryd.prog 67 #[.int .i64 next, .slice bA bn bc] w R :=
  calls_of_wpc callOk mixedOk (H := weirref7_Chain_H) (args := [.int .i64 next, .slice bA bn bc]) (fn := Tryd.f67) (c := bodyOf Tryd.f67) Tryd.func67 rfl (Nat.le_of_ble_eq_true rfl)
    (Eq.mp (by kernel_rfl : weirref7_Chain_VC next bA bn bc w R = wpc Tryd.prog callF Tryd.f67.ntmps weirref7_Chain_H 1 (bodyOf Tryd.f67) (argEnv 0 [.int .i64 next, .slice bA bn bc]) [] w (finish Tryd.prog callF Tryd.f67.results.toList R)) hvc_)

set_option maxRecDepth 100000 in
def weirref7_address_L58 (R : Ending → World → Prop) (bA : Option Addr) (bn : Nat) (p : Int) (g1 : Nat) (g2 : Nat) (i : Int) (w4 : World) (K58 : (Int → World → Prop)) : Prop :=
  Br (decide (i < 16))
    (IdxVC bA bn 1 (IntKind.i64.wrap (p + i)) fun a =>
  ∃ x : Int, w4.cell? a = some (.int .u8 x) ∧
  IdxVC (some ⟨g2, 1, none⟩) 16 1 i fun a1 =>
  SetVC w4 a1 (.int .u8 x) fun w5 =>
  K58 (IntKind.i64.wrap (i + 1)) w5)
    (IPV.ex fun h => CellsAt w4 ⟨g2, 0, none⟩ 0 h.cells ∧
  Stores ⟨g1, 0, none⟩ 0 h.cells w4 fun w6 =>
  IPV.ex fun res => CellsAt w6 ⟨g1, 0, none⟩ 0 res.cells ∧
  R (.returned res.val) w6)
set_option maxRecDepth 100000 in
def weirref7_address_VC (bA : Option Addr) (bn : Nat) (_bc : Nat) (p : Int) (w : World) (R : Ending → World → Prop) : Prop :=
  NewVC w (.cells (IPV.z : IPV).cells.toArray 25) fun g1 w1 =>
  NewVC w1 (.cells (IPV.z : IPV).cells.toArray 25) fun g2 w2 =>
  Stores ⟨g2, 0, none⟩ 0 [.int .i64 6, .int .u8 0, .int .u8 0, .int .u8 0, .int .u8 0, .int .u8 0, .int .u8 0, .int .u8 0, .int .u8 0, .int .u8 0, .int .u8 0, .int .u8 0, .int .u8 0, .int .u8 0, .int .u8 0, .int .u8 0, .int .u8 0] w2 fun w3 =>
  LoopVC (S := Int) (fun s_ w4 K58 => weirref7_address_L58 R bA bn p g1 g2 s_ w4 K58) 0 w3
def weirref7_address_H : Hints := [(58, [(6, .int .i64)])]
set_option maxRecDepth 100000 in
theorem weirref7_address_of (bA : Option Addr) (bn : Nat) (bc : Nat) (p : Int) (w : World) (R : Ending → World → Prop) (hvc_ : weirref7_address_VC bA bn bc p w R) :
    Calls Tryd.prog 48 #[.slice bA bn bc, .int .i64 p] w R :=
  calls_of_wpc callOk mixedOk (H := weirref7_address_H) (args := [.slice bA bn bc, .int .i64 p]) (fn := Tryd.f48) (c := bodyOf Tryd.f48) Tryd.func48 rfl (Nat.le_of_ble_eq_true rfl)
    (Eq.mp (by kernel_rfl : weirref7_address_VC bA bn bc p w R = wpc Tryd.prog callF Tryd.f48.ntmps weirref7_address_H 1 (bodyOf Tryd.f48) (argEnv 0 [.slice bA bn bc, .int .i64 p]) [] w (finish Tryd.prog callF Tryd.f48.results.toList R)) hvc_)

set_option maxRecDepth 100000 in
def weirref7_Parse_J2047 (R : Ending → World → Prop) (g1 : Nat) (sA : Option Addr) (sn : Nat) (sc : Nat) (g3 : Nat) (p : Int) (w20 : World) : Prop :=
  Calls Tryd.prog 15 #[.slice sA sn sc, .int .i64 p, .int .i64 (sn : Int)] w20 (onRet (fun r_5 w21 => ∃ (xA : Option Addr) (xn xc : Nat), r_5 = .slice xA xn xc ∧
  SetVC w21 ⟨g3, 43, none⟩ (.slice xA xn xc) fun w22 =>
  ∃ x14 : Bool, w22.cell? ⟨g3, 38, none⟩ = some (.bool x14) ∧
  Br x14
    (∃ x15 : Int, w22.cell? ⟨g3, 41, none⟩ = some (.int .i64 x15) ∧
    ∃ x16 : Bool, w22.cell? ⟨g3, 39, none⟩ = some (.bool x16) ∧
    ∃ (xA1 : Option Addr) (xn1 xc1 : Nat), w22.cell? ⟨g3, 43, none⟩ = some (.slice xA1 xn1 xc1) ∧
    Calls Tryd.prog 50 #[.int .i64 x15, .bool x16, .int .i64 (xn1 : Int)] w22 (onRet (fun r_6 w23 => ∃ x17 : Bool, r_6 = .bool x17 ∧
    Br (!x17)
    (Stores ⟨g1, 0, none⟩ 0 (Ip6V.z : Ip6V).cells w23 fun w24 =>
    Ip6V.ex fun res6 => CellsAt w24 ⟨g1, 0, none⟩ 0 res6.cells ∧
  R (.returned (.tuple #[res6.val, .int .i64 76])) w24)
    (Ip6V.ex fun h2 => CellsAt w23 ⟨g3, 0, none⟩ 0 h2.cells ∧
  Stores ⟨g1, 0, none⟩ 0 h2.cells w23 fun w25 =>
  Ip6V.ex fun res7 => CellsAt w25 ⟨g1, 0, none⟩ 0 res7.cells ∧
  R (.returned (.tuple #[res7.val, .int .i64 0])) w25))
      (fun ch6 w23 => R (.panicked ch6) w23)))
    (Ip6V.ex fun h3 => CellsAt w22 ⟨g3, 0, none⟩ 0 h3.cells ∧
  Stores ⟨g1, 0, none⟩ 0 h3.cells w22 fun w26 =>
  Ip6V.ex fun res8 => CellsAt w26 ⟨g1, 0, none⟩ 0 res8.cells ∧
  R (.returned (.tuple #[res8.val, .int .i64 0])) w26))
    (fun ch5 w21 => R (.panicked ch5) w21))
set_option maxRecDepth 100000 in
def weirref7_Parse_D2046 (R : Ending → World → Prop) (x11 : Int) (sn : Nat) (x21 : Int) (g1 : Nat) (w14 : World) (sA : Option Addr) (sc : Nat) (g3 : Nat) : Prop :=
  JoinVC (S := Int) (fun J2047 =>
      Br (decide (x11 = 44))
        (Br (decide (IntKind.i64.wrap ((sn : Int) - x21) < 8))
          (Stores ⟨g1, 0, none⟩ 0 (Ip6V.z : Ip6V).cells w14 fun w15 =>
          Ip6V.ex fun res5 => CellsAt w15 ⟨g1, 0, none⟩ 0 res5.cells ∧
  R (.returned (.tuple #[res5.val, .int .i64 72])) w15)
          (Calls Tryd.prog 49 #[.slice sA sn sc, .int .i64 (IntKind.i64.wrap (x21 + 4)), .int .i64 4] w14 (onRet (fun r_4 w16 => ∃ x0 : Int, ∃ x12 : Int, r_4 = .tuple #[.int .u64 x0, .int .i64 x12] ∧
        DrawVC w16 fun S2 w17 =>
        IdxVC sA sn 1 (IntKind.i64.wrap (x21 + 2)) fun a7 =>
        ∃ x9 : Int, (∀ w' : World, S2 w' → w'.cell? a7 = some (.int .u8 x9)) ∧
        IdxVC sA sn 1 (IntKind.i64.wrap (x21 + 3)) fun a8 =>
        ∃ x10 : Int, (∀ w' : World, S2 w' → w'.cell? a8 = some (.int .u8 x10)) ∧
        Stores ⟨g3, 38, none⟩ 0 [.bool true, .bool (decide (Int.tmod (IntKind.i64.wrap (IntKind.i64.wrap (256 * IntKind.i64.wrap x9) + IntKind.i64.wrap x10)) 2 = 1)), .int .i64 (IntKind.i64.wrap x0), .int .i64 (IntKind.i64.wrap (IntKind.i64.wrap (Int.tdiv (IntKind.i64.wrap (IntKind.i64.wrap (256 * IntKind.i64.wrap x9) + IntKind.i64.wrap x10)) 8) * 8))] w17 fun w18 =>
        IdxVC sA sn 1 x21 fun a9 =>
        ∃ x13 : Int, w18.cell? a9 = some (.int .u8 x13) ∧
        SetVC w18 ⟨g3, 42, none⟩ (.int .i64 (IntKind.i64.wrap x13)) fun w19 =>
        J2047 (IntKind.i64.wrap (x21 + 8)) w19)
          (fun ch4 w16 => R (.panicked ch4) w16))))
        (J2047 x21 w14))
    (fun s_ w20 => weirref7_Parse_J2047 R g1 sA sn sc g3 s_ w20)
set_option maxRecDepth 100000 in
def weirref7_Parse_VC (bA : Option Addr) (bn : Nat) (bc : Nat) (w : World) (R : Ending → World → Prop) : Prop :=
  NewVC w (.cells (Ip6V.z : Ip6V).cells.toArray 30) fun g1 w1 =>
  Br (decide ((65535 : Int) < (bn : Int)))
    (Stores ⟨g1, 0, none⟩ 0 (Ip6V.z : Ip6V).cells w1 fun w2 =>
    Ip6V.ex fun res => CellsAt w2 ⟨g1, 0, none⟩ 0 res.cells ∧
  R (.returned (.tuple #[res.val, .int .i64 2])) w2)
    (Br (decide ((bn : Int) < 40))
    (Stores ⟨g1, 0, none⟩ 0 (Ip6V.z : Ip6V).cells w1 fun w3 =>
    Ip6V.ex fun res1 => CellsAt w3 ⟨g1, 0, none⟩ 0 res1.cells ∧
  R (.returned (.tuple #[res1.val, .int .i64 70])) w3)
    (NewVC w1 (.cells #[.int .i64 4, .int .i64 8, .int .i64 20, .int .i64 16, .int .i64 8, .int .i64 8] 3) fun g2 w4 =>
  Calls Tryd.prog 46 #[.slice bA bn bc, .int .i64 0, .slice (some ⟨g2, 0, none⟩) 6 6] w4 (onRet (fun r_ w5 => ∃ (x0A : Option Addr) (x0n x0c : Nat), ∃ x1 : Int, ∃ x2 : Int, r_ = .tuple #[.slice x0A x0n x0c, .int .i64 x1, .int .i64 x2] ∧
  IdxVC x0A x0n 1 0 fun a =>
  ∃ x : Int, w5.cell? a = some (.int .i64 x) ∧
  Br (decide (x ≠ 6))
    (Stores ⟨g1, 0, none⟩ 0 (Ip6V.z : Ip6V).cells w5 fun w6 =>
    Ip6V.ex fun res2 => CellsAt w6 ⟨g1, 0, none⟩ 0 res2.cells ∧
  R (.returned (.tuple #[res2.val, .int .i64 71])) w6)
    (IdxVC x0A x0n 1 3 fun a1 =>
  ∃ x3 : Int, w5.cell? a1 = some (.int .i64 x3) ∧
  Br (decide (IntKind.i64.wrap ((bn : Int) - 40) < x3))
    (Stores ⟨g1, 0, none⟩ 0 (Ip6V.z : Ip6V).cells w5 fun w7 =>
    Ip6V.ex fun res3 => CellsAt w7 ⟨g1, 0, none⟩ 0 res3.cells ∧
  R (.returned (.tuple #[res3.val, .int .i64 70])) w7)
    (IdxVC x0A x0n 1 3 fun a2 =>
  ∃ x4 : Int, w5.cell? a2 = some (.int .i64 x4) ∧
  SliceVC bA bn bc 1 none (some (IntKind.i64.wrap (40 + x4))) none fun sA sn sc =>
  IdxVC x0A x0n 1 4 fun a3 =>
  ∃ x5 : Int, w5.cell? a3 = some (.int .i64 x5) ∧
  Calls Tryd.prog 47 #[.int .i64 x5, .slice sA sn sc, .int .i64 40, .bool true] w5 (onRet (fun r_1 w8 => ∃ (x0A1 : Option Addr) (x0n1 x0c1 : Nat), ∃ x11 : Int, ∃ x21 : Int, ∃ x31 : Int, r_1 = .tuple #[.slice x0A1 x0n1 x0c1, .int .i64 x11, .int .i64 x21, .int .i64 x31] ∧
  Br (decide (x31 ≠ 0))
    (Stores ⟨g1, 0, none⟩ 0 (Ip6V.z : Ip6V).cells w8 fun w9 =>
    Ip6V.ex fun res4 => CellsAt w9 ⟨g1, 0, none⟩ 0 res4.cells ∧
  R (.returned (.tuple #[res4.val, .int .i64 x31])) w9)
    (DrawVC w8 fun S1 w10 =>
  IdxVC x0A x0n 1 1 fun a4 =>
  ∃ x6 : Int, (∀ w' : World, S1 w' → w'.cell? a4 = some (.int .i64 x6)) ∧
  IdxVC x0A x0n 1 2 fun a5 =>
  ∃ x7 : Int, (∀ w' : World, S1 w' → w'.cell? a5 = some (.int .i64 x7)) ∧
  IdxVC x0A x0n 1 5 fun a6 =>
  ∃ x8 : Int, (∀ w' : World, S1 w' → w'.cell? a6 = some (.int .i64 x8)) ∧
  (Calls Tryd.prog 48 #[.slice sA sn sc, .int .i64 8] w10 (onRet (fun r_2 w11 => IPV.ex fun h => r_2 = h.val ∧
  S1 w11 ∧
  (Calls Tryd.prog 48 #[.slice sA sn sc, .int .i64 24] w11 (onRet (fun r_3 w12 => IPV.ex fun h1 => r_3 = h1.val ∧
  S1 w12 ∧
  NewVC w12 (.cells (Ip6V.z : Ip6V).cells.toArray 30) fun g3 w13 =>
  S1 w13 ∧
  Stores ⟨g3, 0, none⟩ 0 [.int .i64 x6, .int .i64 x7, .int .i64 x8, .int .i64 h.v, .int .u8 h.a0, .int .u8 h.a1, .int .u8 h.a2, .int .u8 h.a3, .int .u8 h.a4, .int .u8 h.a5, .int .u8 h.a6, .int .u8 h.a7, .int .u8 h.a8, .int .u8 h.a9, .int .u8 h.a10, .int .u8 h.a11, .int .u8 h.a12, .int .u8 h.a13, .int .u8 h.a14, .int .u8 h.a15, .int .i64 h1.v, .int .u8 h1.a0, .int .u8 h1.a1, .int .u8 h1.a2, .int .u8 h1.a3, .int .u8 h1.a4, .int .u8 h1.a5, .int .u8 h1.a6, .int .u8 h1.a7, .int .u8 h1.a8, .int .u8 h1.a9, .int .u8 h1.a10, .int .u8 h1.a11, .int .u8 h1.a12, .int .u8 h1.a13, .int .u8 h1.a14, .int .u8 h1.a15, .slice x0A1 x0n1 x0c1, .bool false, .bool false, .int .i64 0, .int .i64 0, .int .i64 x11, .slice none 0 0] w13 fun w14 =>
  weirref7_Parse_D2046 R x11 sn x21 g1 w14 sA sc g3)
    (fun _ _ => False))) ∧
  (NewVC w11 (.cells (Ip6V.z : Ip6V).cells.toArray 30) fun g4 w27 =>
  S1 w27 ∧
  Calls Tryd.prog 48 #[.slice sA sn sc, .int .i64 24] w27 (onRet (fun r_7 w28 => IPV.ex fun h4 => r_7 = h4.val ∧
  S1 w28 ∧
  Stores ⟨g4, 0, none⟩ 0 [.int .i64 x6, .int .i64 x7, .int .i64 x8, .int .i64 h.v, .int .u8 h.a0, .int .u8 h.a1, .int .u8 h.a2, .int .u8 h.a3, .int .u8 h.a4, .int .u8 h.a5, .int .u8 h.a6, .int .u8 h.a7, .int .u8 h.a8, .int .u8 h.a9, .int .u8 h.a10, .int .u8 h.a11, .int .u8 h.a12, .int .u8 h.a13, .int .u8 h.a14, .int .u8 h.a15, .int .i64 h4.v, .int .u8 h4.a0, .int .u8 h4.a1, .int .u8 h4.a2, .int .u8 h4.a3, .int .u8 h4.a4, .int .u8 h4.a5, .int .u8 h4.a6, .int .u8 h4.a7, .int .u8 h4.a8, .int .u8 h4.a9, .int .u8 h4.a10, .int .u8 h4.a11, .int .u8 h4.a12, .int .u8 h4.a13, .int .u8 h4.a14, .int .u8 h4.a15, .slice x0A1 x0n1 x0c1, .bool false, .bool false, .int .i64 0, .int .i64 0, .int .i64 x11, .slice none 0 0] w28 fun w29 =>
  weirref7_Parse_D2046 R x11 sn x21 g1 w29 sA sc g4)
    (fun _ _ => False))))
    (fun _ _ => False))) ∧
  (NewVC w10 (.cells (Ip6V.z : Ip6V).cells.toArray 30) fun g5 w42 =>
  S1 w42 ∧
  Calls Tryd.prog 48 #[.slice sA sn sc, .int .i64 8] w42 (onRet (fun r_11 w43 => IPV.ex fun h7 => r_11 = h7.val ∧
  S1 w43 ∧
  Calls Tryd.prog 48 #[.slice sA sn sc, .int .i64 24] w43 (onRet (fun r_12 w44 => IPV.ex fun h8 => r_12 = h8.val ∧
  S1 w44 ∧
  Stores ⟨g5, 0, none⟩ 0 [.int .i64 x6, .int .i64 x7, .int .i64 x8, .int .i64 h7.v, .int .u8 h7.a0, .int .u8 h7.a1, .int .u8 h7.a2, .int .u8 h7.a3, .int .u8 h7.a4, .int .u8 h7.a5, .int .u8 h7.a6, .int .u8 h7.a7, .int .u8 h7.a8, .int .u8 h7.a9, .int .u8 h7.a10, .int .u8 h7.a11, .int .u8 h7.a12, .int .u8 h7.a13, .int .u8 h7.a14, .int .u8 h7.a15, .int .i64 h8.v, .int .u8 h8.a0, .int .u8 h8.a1, .int .u8 h8.a2, .int .u8 h8.a3, .int .u8 h8.a4, .int .u8 h8.a5, .int .u8 h8.a6, .int .u8 h8.a7, .int .u8 h8.a8, .int .u8 h8.a9, .int .u8 h8.a10, .int .u8 h8.a11, .int .u8 h8.a12, .int .u8 h8.a13, .int .u8 h8.a14, .int .u8 h8.a15, .slice x0A1 x0n1 x0c1, .bool false, .bool false, .int .i64 0, .int .i64 0, .int .i64 x11, .slice none 0 0] w44 fun w45 =>
  weirref7_Parse_D2046 R x11 sn x21 g1 w45 sA sc g5)
    (fun _ _ => False)))
    (fun _ _ => False)))))
    (fun ch1 w8 => R (.panicked ch1) w8)))))
    (fun ch w5 => R (.panicked ch) w5))))
def weirref7_Parse_H : Hints := [(2047, [(9, .int .i64)])]
set_option maxRecDepth 100000 in
theorem weirref7_Parse_of (bA : Option Addr) (bn : Nat) (bc : Nat) (w : World) (R : Ending → World → Prop) (hvc_ : weirref7_Parse_VC bA bn bc w R) :
    Calls Tryd.prog 14 #[.slice bA bn bc] w R :=
  calls_of_wpc callOk mixedOk (H := weirref7_Parse_H) (args := [.slice bA bn bc]) (fn := Tryd.f14) (c := bodyOf Tryd.f14) Tryd.func14 rfl (Nat.le_of_ble_eq_true rfl)
    (Eq.mp (by kernel_rfl : weirref7_Parse_VC bA bn bc w R = wpc Tryd.prog callF Tryd.f14.ntmps weirref7_Parse_H 1 (bodyOf Tryd.f14) (argEnv 0 [.slice bA bn bc]) [] w (finish Tryd.prog callF Tryd.f14.results.toList R)) hvc_)

set_option maxRecDepth 100000 in
def weirlaw7_num_VC (e_ : Int) (w : World) (R : Ending → World → Prop) : Prop :=
  R (.returned (.int .i64 e_)) w
def weirlaw7_num_H : Hints := []
set_option maxRecDepth 100000 in
theorem weirlaw7_num_of (e_ : Int) (w : World) (R : Ending → World → Prop) (hvc_ : weirlaw7_num_VC e_ w R) :
    Calls Tryd.prog 17 #[.int .i64 e_] w R :=
  calls_of_wpc callOk mixedOk (H := weirlaw7_num_H) (args := [.int .i64 e_]) (fn := Tryd.f17) (c := bodyOf Tryd.f17) Tryd.func17 rfl (Nat.le_of_ble_eq_true rfl)
    (Eq.mp (by kernel_rfl : weirlaw7_num_VC e_ w R = wpc Tryd.prog callF Tryd.f17.ntmps weirlaw7_num_H 1 (bodyOf Tryd.f17) (argEnv 0 [.int .i64 e_]) [] w (finish Tryd.prog callF Tryd.f17.results.toList R)) hvc_)

set_option maxRecDepth 100000 in
def weirlaw7_plain_VC  (w : World) (R : Ending → World → Prop) : Prop :=
  NewVC w (.cells (Ip6V.z : Ip6V).cells.toArray 30) fun g1 w1 =>
  NewVC w1 (.cells #[.int .u8 9] 5) fun g2 w2 =>
  NewVC w2 (.cells (Ip6V.z : Ip6V).cells.toArray 30) fun g3 w3 =>
  Stores ⟨g3, 0, none⟩ 0 [.int .i64 0, .int .i64 0, .int .i64 64, .int .i64 6, .int .u8 32, .int .u8 1, .int .u8 0, .int .u8 0, .int .u8 0, .int .u8 0, .int .u8 0, .int .u8 0, .int .u8 0, .int .u8 0, .int .u8 0, .int .u8 0, .int .u8 0, .int .u8 0, .int .u8 0, .int .u8 1, .int .i64 6, .int .u8 32, .int .u8 1, .int .u8 0, .int .u8 0, .int .u8 0, .int .u8 0, .int .u8 0, .int .u8 0, .int .u8 0, .int .u8 0, .int .u8 0, .int .u8 0, .int .u8 0, .int .u8 0, .int .u8 0, .int .u8 2, .slice none 0 0, .bool false, .bool false, .int .i64 0, .int .i64 0, .int .i64 59, .slice (some ⟨g2, 0, none⟩) 1 1] w3 fun w4 =>
  NewVC w4 (.cells #[.int .u8 96, .int .u8 0, .int .u8 0, .int .u8 0, .int .u8 0, .int .u8 1, .int .u8 59, .int .u8 64, .int .u8 32, .int .u8 1, .int .u8 0, .int .u8 0, .int .u8 0, .int .u8 0, .int .u8 0, .int .u8 0, .int .u8 0, .int .u8 0, .int .u8 0, .int .u8 0, .int .u8 0, .int .u8 0, .int .u8 0, .int .u8 1, .int .u8 32, .int .u8 1, .int .u8 0, .int .u8 0, .int .u8 0, .int .u8 0, .int .u8 0, .int .u8 0, .int .u8 0, .int .u8 0, .int .u8 0, .int .u8 0, .int .u8 0, .int .u8 0, .int .u8 0, .int .u8 2, .int .u8 9] 5) fun g4 w5 =>
  Ip6V.ex fun h => CellsAt w5 ⟨g3, 0, none⟩ 0 h.cells ∧
  Stores ⟨g1, 0, none⟩ 0 h.cells w5 fun w6 =>
  Ip6V.ex fun res => CellsAt w6 ⟨g1, 0, none⟩ 0 res.cells ∧
  R (.returned (.tuple #[res.val, .slice (some ⟨g4, 0, none⟩) 41 41])) w6
def weirlaw7_plain_H : Hints := []
set_option maxRecDepth 100000 in
theorem weirlaw7_plain_of  (w : World) (R : Ending → World → Prop) (hvc_ : weirlaw7_plain_VC  w R) :
    Calls Tryd.prog 27 #[] w R :=
  calls_of_wpc callOk mixedOk (H := weirlaw7_plain_H) (args := []) (fn := Tryd.f27) (c := bodyOf Tryd.f27) Tryd.func27 rfl (Nat.le_of_ble_eq_true rfl)
    (Eq.mp (by kernel_rfl : weirlaw7_plain_VC  w R = wpc Tryd.prog callF Tryd.f27.ntmps weirlaw7_plain_H 1 (bodyOf Tryd.f27) (argEnv 0 []) [] w (finish Tryd.prog callF Tryd.f27.results.toList R)) hvc_)

set_option maxRecDepth 100000 in
def weirlaw7_both_L250 (R : Ending → World → Prop) (x3 : Int) (x31 : Int) (bA : Option Addr) (bn : Nat) (bc : Nat) (i : Int) (w5 : World) (K250 : ((Option Addr × Nat × Nat) × Int → World → Prop)) : Prop :=
  Br (decide (i < 8))
    (NewVC w5 (.cells #[.int .u8 60, .int .u8 0, .int .u8 1, .int .u8 4, .int .u8 0, .int .u8 0, .int .u8 0, .int .u8 0] 5) fun g3 w6 =>
  AppVC Tryd.prog #[22, 22] 22 (.slice bA bn bc) (.slice (some ⟨g3, 0, none⟩) 8 8) w6 fun lA ln lc w7 =>
  K250 ((lA, ln, lc), IntKind.i64.wrap (i + 1)) w7)
    (NewVC w5 (.cells #[.int .u8 59, .int .u8 0, .int .u8 1] 5) fun g4 w8 =>
  AppVC Tryd.prog #[22, 22] 22 (.slice bA bn bc) (.slice (some ⟨g4, 0, none⟩) 3 3) w8 fun lA1 ln1 lc1 w9 =>
  Calls Tryd.prog 24 #[.int .i64 60, .slice lA1 ln1 lc1] w9 (onRet (fun r_2 w10 => ∃ (x0A2 : Option Addr) (x0n2 x0c2 : Nat), ∃ x12 : Int, ∃ (x2A2 : Option Addr) (x2n2 x2c2 : Nat), ∃ x32 : Int, r_2 = .tuple #[.slice x0A2 x0n2 x0c2, .int .i64 x12, .slice x2A2 x2n2 x2c2, .int .i64 x32] ∧
  SliceVC lA1 ln1 lc1 1 none (some 56) (some 56) fun sA sn sc =>
  NewVC w10 (.cells #[.int .u8 59, .int .u8 0, .int .u8 1, .int .u8 4, .int .u8 0, .int .u8 0, .int .u8 0, .int .u8 0, .int .u8 9] 5) fun g5 w11 =>
  AppVC Tryd.prog #[22, 22] 22 (.slice sA sn sc) (.slice (some ⟨g5, 0, none⟩) 9 9) w11 fun lA2 ln2 lc2 w12 =>
  Calls Tryd.prog 24 #[.int .i64 60, .slice lA2 ln2 lc2] w12 (onRet (fun r_3 w13 => ∃ (x0A3 : Option Addr) (x0n3 x0c3 : Nat), ∃ x13 : Int, ∃ (x2A3 : Option Addr) (x2n3 x2c3 : Nat), ∃ x33 : Int, r_3 = .tuple #[.slice x0A3 x0n3 x0c3, .int .i64 x13, .slice x2A3 x2n3 x2c3, .int .i64 x33] ∧
  Calls Tryd.prog 67 #[.int .i64 60, .slice lA1 ln1 lc1] w13 (onRet (fun r_4 w14 => ∃ (x0A4 : Option Addr) (x0n4 x0c4 : Nat), ∃ x14 : Int, ∃ (x2A4 : Option Addr) (x2n4 x2c4 : Nat), ∃ x34 : Int, r_4 = .tuple #[.slice x0A4 x0n4 x0c4, .int .i64 x14, .slice x2A4 x2n4 x2c4, .int .i64 x34] ∧
  Calls Tryd.prog 17 #[.int .i64 x3] w14 (onRet (fun r_5 w15 => ∃ x : Int, r_5 = .int .i64 x ∧
  Br (decide (x = 1))
    (Calls Tryd.prog 17 #[.int .i64 x31] w15 (onRet (fun r_6 w16 => ∃ x2 : Int, r_6 = .int .i64 x2 ∧
    Br (decide (x2 = 1))
      (Calls Tryd.prog 17 #[.int .i64 x32] w16 (onRet (fun r_7 w17 => ∃ x4 : Int, r_7 = .int .i64 x4 ∧
      Br (decide (x4 = 74))
        (Br (decide (x34 = 74))
          (Calls Tryd.prog 17 #[.int .i64 x33] w17 (onRet (fun r_8 w18 => ∃ x5 : Int, r_8 = .int .i64 x5 ∧
          Br (decide (x5 = 0))
            (Br (decide (x13 = 59))
              (R (.returned (.bool (decide ((x2n3 : Int) = 1)))) w18)
              (R (.returned (.bool false)) w18))
            (R (.returned (.bool false)) w18))
            (fun ch8 w18 => R (.panicked ch8) w18)))
          (R (.returned (.bool false)) w17))
        (R (.returned (.bool false)) w17))
        (fun ch7 w17 => R (.panicked ch7) w17)))
      (R (.returned (.bool false)) w16))
      (fun ch6 w16 => R (.panicked ch6) w16)))
    (R (.returned (.bool false)) w15))
    (fun ch5 w15 => R (.panicked ch5) w15)))
    (fun ch4 w14 => R (.panicked ch4) w14)))
    (fun ch3 w13 => R (.panicked ch3) w13)))
    (fun ch2 w10 => R (.panicked ch2) w10)))
set_option maxRecDepth 100000 in
def weirlaw7_both_VC  (w : World) (R : Ending → World → Prop) : Prop :=
  MakeVC w 5 1 [.int .u8 0] 65536 65536 fun g1 w1 =>
  Calls Tryd.prog 24 #[.int .i64 (-1), .slice (some ⟨g1, 0, none⟩) 65536 65536] w1 (onRet (fun r_ w2 => ∃ (x0A : Option Addr) (x0n x0c : Nat), ∃ x1 : Int, ∃ (x2A : Option Addr) (x2n x2c : Nat), ∃ x3 : Int, r_ = .tuple #[.slice x0A x0n x0c, .int .i64 x1, .slice x2A x2n x2c, .int .i64 x3] ∧
  MakeVC w2 5 1 [.int .u8 0] 65536 65536 fun g2 w3 =>
  Calls Tryd.prog 24 #[.int .i64 256, .slice (some ⟨g2, 0, none⟩) 65536 65536] w3 (onRet (fun r_1 w4 => ∃ (x0A1 : Option Addr) (x0n1 x0c1 : Nat), ∃ x11 : Int, ∃ (x2A1 : Option Addr) (x2n1 x2c1 : Nat), ∃ x31 : Int, r_1 = .tuple #[.slice x0A1 x0n1 x0c1, .int .i64 x11, .slice x2A1 x2n1 x2c1, .int .i64 x31] ∧
  LoopVC (S := (Option Addr × Nat × Nat) × Int) (fun s_ w5 K250 => weirlaw7_both_L250 R x3 x31 s_.1.1 s_.1.2.1 s_.1.2.2 s_.2 w5 K250) ((none, 0, 0), 0) w4)
    (fun ch1 w4 => R (.panicked ch1) w4)))
    (fun ch w2 => R (.panicked ch) w2))
def weirlaw7_both_H : Hints := [(250, [(9, .slice), (10, .int .i64)])]
set_option maxRecDepth 100000 in
theorem weirlaw7_both_of  (w : World) (R : Ending → World → Prop) (hvc_ : weirlaw7_both_VC  w R) :
    Calls Tryd.prog 51 #[] w R :=
  calls_of_wpc callOk mixedOk (H := weirlaw7_both_H) (args := []) (fn := Tryd.f51) (c := bodyOf Tryd.f51) Tryd.func51 rfl (Nat.le_of_ble_eq_true rfl)
    (Eq.mp (by kernel_rfl : weirlaw7_both_VC  w R = wpc Tryd.prog callF Tryd.f51.ntmps weirlaw7_both_H 1 (bodyOf Tryd.f51) (argEnv 0 []) [] w (finish Tryd.prog callF Tryd.f51.results.toList R)) hvc_)

set_option maxRecDepth 100000 in
def weirlaw7_started_VC  (w : World) (R : Ending → World → Prop) : Prop :=
  Calls Tryd.prog 27 #[] w (onRet (fun r_ w1 => Ip6V.ex fun h => ∃ (x1A : Option Addr) (x1n x1c : Nat), r_ = .tuple #[h.val, .slice x1A x1n x1c] ∧
  NewVC w1 (.cells (Ip6V.z : Ip6V).cells.toArray 30) fun g1 w2 =>
  Stores ⟨g1, 0, none⟩ 0 h.cells w2 fun w3 =>
  Calls Tryd.prog 13 #[.slice x1A x1n x1c] w3 (onRet (fun r_1 w4 => Ip6V.ex fun h1 => ∃ x1 : Int, r_1 = .tuple #[h1.val, .int .i64 x1] ∧
  NewVC w4 (.cells (Ip6V.z : Ip6V).cells.toArray 30) fun g2 w5 =>
  Stores ⟨g2, 0, none⟩ 0 h1.cells w5 fun w6 =>
  Ip6V.ex fun h2 => CellsAt w6 ⟨g1, 0, none⟩ 0 h2.cells ∧
  Calls Tryd.prog 19 #[h2.val] w6 (onRet (fun r_2 w7 => ∃ (x0A : Option Addr) (x0n x0c : Nat), ∃ x11 : Int, r_2 = .tuple #[.slice x0A x0n x0c, .int .i64 x11] ∧
  Calls Tryd.prog 17 #[.int .i64 x1] w7 (onRet (fun r_3 w8 => ∃ x : Int, r_3 = .int .i64 x ∧
  Br (decide (x = 0))
    (Ip6V.ex fun h3 => CellsAt w8 ⟨g2, 0, none⟩ 0 h3.cells ∧
    Ip6V.ex fun h4 => CellsAt w8 ⟨g1, 0, none⟩ 0 h4.cells ∧
    Calls Tryd.prog 18 #[h3.val, h4.val] w8 (onRet (fun r_4 w9 => ∃ x2 : Bool, r_4 = .bool x2 ∧
    Br x2
      (Calls Tryd.prog 17 #[.int .i64 x11] w9 (onRet (fun r_5 w10 => ∃ x3 : Int, r_5 = .int .i64 x3 ∧
      Br (decide (x3 = 0))
        (Calls Tryd.prog 20 #[.slice x0A x0n x0c, .slice x1A x1n x1c] w10 (onRet (fun r_6 w11 => ∃ x4 : Bool, r_6 = .bool x4 ∧
        Br x4
          (Calls Tryd.prog 51 #[] w11 (onRet (fun r_7 w12 => ∃ x5 : Bool, r_7 = .bool x5 ∧
          R (.returned (.bool x5)) w12)
            (fun ch7 w12 => R (.panicked ch7) w12)))
          (R (.returned (.bool false)) w11))
          (fun ch6 w11 => R (.panicked ch6) w11)))
        (R (.returned (.bool false)) w10))
        (fun ch5 w10 => R (.panicked ch5) w10)))
      (R (.returned (.bool false)) w9))
      (fun ch4 w9 => R (.panicked ch4) w9)))
    (R (.returned (.bool false)) w8))
    (fun ch3 w8 => R (.panicked ch3) w8)))
    (fun ch2 w7 => R (.panicked ch2) w7)))
    (fun ch1 w4 => R (.panicked ch1) w4)))
    (fun ch w1 => R (.panicked ch) w1))
def weirlaw7_started_H : Hints := []
set_option maxRecDepth 100000 in
theorem weirlaw7_started_of  (w : World) (R : Ending → World → Prop) (hvc_ : weirlaw7_started_VC  w R) :
    Calls Tryd.prog 16 #[] w R :=
  calls_of_wpc callOk mixedOk (H := weirlaw7_started_H) (args := []) (fn := Tryd.f16) (c := bodyOf Tryd.f16) Tryd.func16 rfl (Nat.le_of_ble_eq_true rfl)
    (Eq.mp (by kernel_rfl : weirlaw7_started_VC  w R = wpc Tryd.prog callF Tryd.f16.ntmps weirlaw7_started_H 1 (bodyOf Tryd.f16) (argEnv 0 []) [] w (finish Tryd.prog callF Tryd.f16.results.toList R)) hvc_)

end N6
end Go.Proofs.YtkiogaglmjeplaaDoor
/- Chapter 7, reading: Parse, the program's. -/
namespace Go.Proofs.YtkiogaglmjeplaaDoor
namespace N6
open Go.Eng Go.RowKit
section
variable {w : World} {s : Sl} {l : List Int}
theorem psum_ws6 : psum ws6 / 8 = 8 := by decide
def F6 (l : List Int) : List Int := [l.getD 0 0 / 16, l.getD 0 0 % 16 * 16 + l.getD 1 0 / 16, (l.getD 1 0 % 16 * 256 + l.getD 2 0) * 256 + l.getD 3 0, l.getD 4 0 * 256 + l.getD 5 0, l.getD 6 0, l.getD 7 0]
theorem ws6_at (hB : Bts l) (_h : 8 ≤ l.length) : fieldsV (bitAt ((l.drop (0 : Int).toNat).take (psum ws6 / 8).toNat)) 0 ws6 = F6 l := by
  have hb : Bts ((l.drop 0).take 8) := (hB.drop 0).take 8
  have e : ∀ j, j < 8 → ((l.drop 0).take 8).getD j 0 = l.getD j 0 := fun j hj => by
    rw [List.drop_zero, List.getD_eq_getElem?_getD, List.getElem?_take_of_lt hj, ← List.getD_eq_getElem?_getD]
  rw [psum_ws6, show (8 : Int).toNat = 8 from rfl, show (0 : Int).toNat = 0 from rfl, ws6_fields hb]
  rw [e 0 (by decide), e 1 (by decide), e 2 (by decide), e 3 (by decide), e 4 (by decide), e 5 (by decide), e 6 (by decide), e 7 (by decide)]
  rfl
/-- The header's part of reading. -/
def WholeRead (w : World) (s : Sl) (l : List Int) (e : Ending) (w' : World) : Prop :=
  (∃ err : Int, err ≠ 0 ∧ e = .returned (.tuple #[.slice none 0 0, .slice none 0 0, .int .i64 err]) ∧ Ext w w' ∧ parseS l = .error err) ∨
  (40 + lenP l ≤ l.length ∧ parseS l = walkS (bpart l 40 (lenP l)) (l.getD 6 0) false ∧ ∃ A c, e = .returned (.tuple #[.slice A 6 c, (winSl s 40 (lenP l)).val, .int .i64 0]) ∧
    Sep [Fct.rest w None, Fct.own w.heap.size 3 1 (.slice A 6 c) 6 ((F6 l).map (.int .i64))] w')
theorem whole_spec (hB : BytesAt w s l) : Calls Tryd.prog 44 #[s.val] w (WholeRead w s l) := by
  refine ip6_whole_of s.A s.n s.k w _ ?_
  unfold ip6_whole_VC
  have hl := hB.len
  have hs := hB.small
  refine Br.dec (fun h1 => .inl ⟨2, by decide, rfl, Mod.refl _ _, by unfold parseS; rw [if_pos (by omega)]⟩) fun h1 => Br.dec (fun h2 => .inl ⟨70, by decide, rfl, Mod.refl _ _, by unfold parseS; rw [if_neg (by omega), if_pos (by omega)]⟩) fun h2 => ?_
  refine NewVC.sep (Sep.start0 w) fun g1 w1 H => ?_
  have hws : Cells w1 (some ⟨g1, 0, none⟩) (ws6.map (.int .i64)) := Cells.blk0 (H.blk 1 rfl)
  have hB1 := hB.ext (H.restOf 0 rfl)
  refine (fields_yes (d := 6) (p := 0) (ws := ws6) hB1.cells hl hB.bts hB.cap (by omega) hws rfl ws6_ok (Int.le_refl _) (by rw [psum_ws6]; omega)).mono ?_
  rintro _ w2 ⟨hE2, A', c', rfl, hrow⟩
  rw [ws6_at hB.bts (by omega)] at hrow
  have H := (H.pushOwn hE2 hrow (Nat.le_refl _)).lower 2 rfl (b' := w.heap.size) (H.restOf 0 rfl).size
  have H : Sep [Fct.rest w None, Fct.blk g1 _ _, Fct.own w.heap.size 3 1 (.slice A' 6 c') 6 ((F6 l).map (.int .i64))] w2 := H
  rw [psum_ws6]
  have b0 := getD_byte hB.bts 0
  have b4 := getD_byte hB.bts 4
  have b5 := getD_byte hB.bts 5
  have p1 : ∀ {err : Int}, err = 71 → l.getD 0 0 / 16 ≠ 6 → parseS l = .error err := fun he h => by subst he; unfold parseS; rw [if_neg (by omega), if_neg (by omega), if_pos h]
  refine ⟨_, _, _, _, _, rfl, ?_⟩
  refine IdxVC.int (k := .i64) (xs := F6 l) (H.cells 2 rfl) (by decide) (by decide) rfl fun a ha => ⟨_, ha, Br.dec (fun h3 => .inl ⟨71, by decide, rfl, H.restOf 0 rfl, p1 rfl h3⟩) fun h3 => ?_⟩
  have h3 : l.getD 0 0 / 16 = 6 := Classical.not_not.1 h3
  refine IdxVC.int (k := .i64) (xs := F6 l) (H.cells 2 rfl) (by decide) (by decide) rfl fun a1 ha1 => ⟨_, ha1, ?_⟩
  have e3 : (F6 l).getD (3 : Int).toNat 0 = ((lenP l : Nat) : Int) := by
    show l.getD 4 0 * 256 + l.getD 5 0 = _
    unfold lenP; omega
  rw [e3]
  have hB2 := hB.ext (H.restOf 0 rfl)
  have e40 : IntKind.i64.wrap ((0 : Int) + 8 + 32) = 40 := by decide
  rw [e40]
  by_cases h4 : 40 + lenP l ≤ l.length
  · refine (Nd.window_yes (p := 40) (k := (lenP l : Int)) hB2.cells (by rw [List.length_map]; exact hl) hB.cap (by omega) (by decide) (by omega) (by omega)).mono ?_
    rintro _ w3 ⟨hE3, A3, rfl, -, hA3⟩
    have hsl : (⟨A3, lenP l, lenP l⟩ : Sl) = winSl s 40 (lenP l) := winSl_of (p := 40) hA3
    refine ⟨_, _, _, _, rfl, Br.no (fun h => h rfl) (.inr ⟨h4, ?_, A', c', ?_, ?_⟩)⟩
    · unfold parseS; rw [if_neg (by omega), if_neg (by omega), if_neg (by omega), if_neg (by omega)]
    · rw [← hsl, Int.toNat_natCast]; rfl
    · exact (H.ext hE3).sub (.cons_cons _ (.cons _ (List.Sublist.refl _)))
  · refine (Nd.window_no (A := s.A) (n := s.n) (c := s.k) (p := 40) (k := (lenP l : Int)) (by omega) (by omega)).mono ?_
    rintro _ w3 ⟨hE3, rfl⟩
    rw [if_neg (by omega)]
    refine ⟨_, _, _, _, rfl, Br.yes (show ¬ ((10 : Int) = 0) by decide) (.inl ⟨70, by decide, rfl, (H.restOf 0 rfl).trans hE3, ?_⟩)⟩
    unfold parseS; rw [if_neg (by omega), if_neg (by omega), if_neg (by omega), if_pos (by omega)]
def a16Of (l : List Int) : A16V := ⟨l.getD 0 0, l.getD 1 0, l.getD 2 0, l.getD 3 0, l.getD 4 0, l.getD 5 0, l.getD 6 0, l.getD 7 0, l.getD 8 0, l.getD 9 0, l.getD 10 0, l.getD 11 0, l.getD 12 0, l.getD 13 0, l.getD 14 0, l.getD 15 0⟩
theorem a16_cells {l : List Int} (h : l.length = 16) : (a16Of l).cells = l.map (.int .u8) := by
  match l, h with
  | [a0, a1, a2, a3, a4, a5, a6, a7, a8, a9, a10, a11, a12, a13, a14, a15], _ => rfl
theorem arr16 (hB : BytesAt w s l) {p : Nat} (hp : p + 16 ≤ l.length) : ∃ a, s.A.map (·.add p) = some a ∧ CellsAt w a 0 (a16Of (bpart l p 16)).cells := by
  have hl := hB.len
  have hW := (hB.win (p := p) (n := 16) hp).cells
  have hlen : (bpart l p 16).length = 16 := bpart_len hp
  have hA : (winSl s p 16).A = s.A.map (·.add p) := rfl
  rw [hA] at hW
  obtain ⟨a, ha, _⟩ := hW.at (i := 0) (by rw [List.length_map]; omega)
  refine ⟨a, ha, ?_⟩
  rw [a16_cells hlen]
  refine CellsAt.of _ 0 fun j v hv => ?_
  obtain ⟨a', ha', hc⟩ := hW j v hv
  rw [ha] at ha'; cases ha'
  rw [Nat.zero_add]; exact hc
/-- What Parse hands back. -/
def ParseRead (w : World) (s : Sl) (l : List Int) (e : Ending) (w' : World) : Prop :=
  ∃ (h : Ip6V) (xs : List ExtR), Sep (Fct.rest w None :: readX w.heap.size h.exts xs) w' ∧ h.exts.n = xs.length ∧ match parseS l with
    | .ok t => e = .returned (.tuple #[h.val, .int .i64 0]) ∧ 40 + lenP l ≤ l.length ∧ All2 (ExtIs (winSl s 40 (lenP l)) (bpart l 40 (lenP l))) t.exts xs ∧ h.data = winSl (winSl s 40 (lenP l)) t.p (lenP l - t.p) ∧
        h.cls = (F6 l).getD 1 0 ∧ h.flow = (F6 l).getD 2 0 ∧ h.hop = l.getD 7 0 ∧ h.src = ipOf 6 (bpart l 8 16) ∧ h.dst = ipOf 6 (bpart l 24 16) ∧ h.frag = t.frag ∧ h.next = t.next
    | .error er => e = .returned (.tuple #[h.val, .int .i64 er]) ∧ h = Ip6V.z ∧ xs = [] ∧ er ≠ 0
set_option maxHeartbeats 4000000 in
theorem parse_spec (hB : BytesAt w s l) (hK : Kn w) : Calls Tryd.prog 13 #[s.val] w (ParseRead w s l) := by
  refine ip6_Parse_of s.A s.n s.k w _ ?_
  unfold ip6_Parse_VC
  have hl := hB.len
  have hs := hB.small
  have bad : ∀ {err : Int} {w' : World} {Γ : List Fct} {g1 : Nat}, parseS l = .error err → err ≠ 0 → Sep (Fct.rest w None :: Fct.blk g1 30 (Ip6V.z : Ip6V).cells :: Γ) w' → Stores ⟨g1, 0, none⟩ 0 (Ip6V.z : Ip6V).cells w' fun w3 => Ip6V.ex fun res => CellsAt w3 ⟨g1, 0, none⟩ 0 res.cells ∧ ParseRead w s l (.returned (.tuple #[res.val, .int .i64 err])) w3 := by
    intro err w' Γ g1 hp he H
    refine Stores.sep H 1 rfl (Ip6V.one Ip6V.z) (Nat.le_refl _) (splice_all rfl) fun w8 H => Ip6V.of Ip6V.z ⟨H.at 1 rfl, Ip6V.z, [], (H.take 1).nil _ _ _, rfl, ?_⟩
    rw [hp]; exact ⟨rfl, rfl, rfl, he⟩
  refine NewVC.sep (Sep.start0 w) fun g1 w1 H => ?_
  refine (whole_spec (hB.ext (H.restOf 0 rfl))).mono ?_
  rintro _ w2 (⟨err, he, rfl, hE2, hp⟩ | ⟨h40, hp, A, c, rfl, H2⟩)
  · exact ⟨_, _, _, _, _, _, _, rfl, Br.yes he (bad hp he (H.ext hE2))⟩
  have H2 := H2.lower 1 rfl (b' := w.heap.size) (H.restOf 0 rfl).size
  have H := H.mades (Δ := [_]) H2
  refine ⟨_, _, _, _, _, _, _, rfl, Br.no (fun h => h rfl) ?_⟩
  refine IdxVC.int (k := .i64) (xs := F6 l) (H.cells 2 rfl) (by decide) (by decide) rfl fun a ha => ⟨_, ha, ?_⟩
  have hW := (hB.win (p := 40) (n := lenP l) h40)
  have hwl : (bpart l 40 (lenP l)).length = lenP l := bpart_len h40
  have hz2 := (H.restOf 0 rfl).size
  refine (walk_spec (next := l.getD 6 0) (inner := false) (hW.ext (H.restOf 0 rfl)) (hK.ext (H.restOf 0 rfl))).mono ?_
  rintro e w4 ⟨c4, xs, H4, hn, hm⟩
  have H4 := (AllLe.append (AllLe.refl [Fct.rest w2 None]) (readX_less hz2)).sep H4
  have H := H.mades H4
  cases hw : walkS (bpart l 40 (lenP l)) (l.getD 6 0) false with
  | error er =>
    rw [hw] at hm hp
    obtain ⟨rfl, rfl, rfl, he⟩ := hm
    refine onRet_is (ChnV.of ChnV.z ⟨_, rfl, NewVC.sep H fun g2 w5 H => ?_⟩)
    have H := H.front
    refine Stores.sep H 0 rfl (ChnV.one _) (Nat.le_refl _) (splice_all rfl) fun w6 H => Br.yes he (bad hp he H.tail)
  | ok t =>
    rw [hw] at hm hp
    obtain ⟨rfl, hA, hcf, hcn, hcd⟩ := hm
    rw [hwl] at hcd
    refine onRet_is (ChnV.of c4 ⟨_, rfl, NewVC.sep H fun g2 w5 H => ?_⟩)
    have H := H.front
    refine Stores.sep H 0 rfl (ChnV.one _) (Nat.le_refl _) (splice_all rfl) fun w6 H => Br.no (fun h => h rfl) ?_
    refine DrawVC.sep H (fun w' => Cells w' A ((F6 l).map (.int .i64)) ∧ Blk w' g2 101 c4.cells) fun w8 H => ⟨⟨H.cells 3 rfl, H.blk 0 rfl⟩, ?_⟩
    have hS : Cells w8 A ((F6 l).map (.int .i64)) ∧ Blk w8 g2 101 c4.cells := ⟨H.cells 3 rfl, H.blk 0 rfl⟩
    refine IdxVC.draw (k := .i64) (xs := F6 l) (w := w8) (S := fun w' => Cells w' A ((F6 l).map (.int .i64)) ∧ Blk w' g2 101 c4.cells) hS (fun w' h => h.1) (by decide) (by decide) rfl fun a1 ha1 => ⟨_, ha1, ?_⟩
    refine IdxVC.draw (k := .i64) (xs := F6 l) (w := w8) (S := fun w' => Cells w' A ((F6 l).map (.int .i64)) ∧ Blk w' g2 101 c4.cells) hS (fun w' h => h.1) (by decide) (by decide) rfl fun a2 ha2 => ⟨_, ha2, ?_⟩
    refine IdxVC.draw (k := .i64) (xs := F6 l) (w := w8) (S := fun w' => Cells w' A ((F6 l).map (.int .i64)) ∧ Blk w' g2 101 c4.cells) hS (fun w' h => h.1) (by decide) (by decide) rfl fun a3 ha3 => ⟨_, ha3, ?_⟩
    refine ⟨_, _, _, fun w' hb => hb.2.cell 0, FragV.of c4.frag ⟨fun w' hb => ⟨hb.2.cell 1, hb.2.cell 2, hb.2.cell 3, hb.2.cell 4, trivial⟩, _, fun w' hb => hb.2.cell 5, _, _, _, fun w' hb => hb.2.cell 6, NewVC.sep H fun g3 w9 H => ?_⟩⟩
    have H := H.front
    refine ⟨⟨H.cells 4 rfl, H.blk 1 rfl⟩, ?_⟩
    obtain ⟨h0, hh0⟩ : ∃ h0 : Ip6V, h0 = ⟨(F6 l).getD 1 0, (F6 l).getD 2 0, (F6 l).getD 5 0, IPV.z, IPV.z, c4.exts, c4.frag, c4.next, c4.data⟩ := ⟨_, rfl⟩
    obtain ⟨h1, hh1⟩ : ∃ h1 : Ip6V, h1 = { h0 with src := ipOf 6 (bpart l 8 16) } := ⟨_, rfl⟩
    obtain ⟨h2, hh2⟩ : ∃ h2 : Ip6V, h2 = { h1 with dst := ipOf 6 (bpart l 24 16) } := ⟨_, rfl⟩
    refine Stores.sep H 0 rfl (cs' := h0.cells) (by rw [show ([_, _, _, _, _, _, _, _, _, _, _, _, _, _, _, _, _, _, _, _, _, _, _, _, _, _, _, _, _, _, _, _, _, _, _, _, _, _, _, _, _, _, _, _] : List Value) = h0.cells by rw [hh0]; rfl]; exact Ip6V.one h0) (show 0 + 44 ≤ 44 by decide) (by rw [hh0]; exact splice_all rfl) fun w10 H => ?_
    have hB10 := hB.ext (H.restOf 2 rfl)
    have hcap := hB.cap
    obtain ⟨p8, hp8, hc8⟩ := arr16 hB10 (p := 8) (by omega)
    obtain ⟨p24, hp24, _⟩ := arr16 hB10 (p := 24) (by omega)
    refine ⟨by decide, by decide, by omega, by decide, p8, ?_, A16V.of _ ⟨hc8, ?_⟩⟩
    · rw [if_neg (by show ¬ (s.k = 8); omega)]; exact hp8
    refine Stores.sep H 0 rfl (o := 3) (cs' := h1.cells) (IPV.one (ipOf 6 (bpart l 8 16))) (show 3 + 17 ≤ 44 by decide) (by rw [hh1, hh0]; rfl) fun w11 H => ?_
    obtain ⟨p24', hp24', hc24⟩ := arr16 (hB.ext (H.restOf 2 rfl)) (p := 24) (by omega)
    refine ⟨by decide, by decide, by omega, by decide, p24', ?_, A16V.of _ ⟨hc24, ?_⟩⟩
    · rw [if_neg (by show ¬ (s.k = 24); omega)]; exact hp24'
    refine Stores.sep H 0 rfl (o := 20) (cs' := h2.cells) (IPV.one (ipOf 6 (bpart l 24 16))) (show 20 + 17 ≤ 44 by decide) (by rw [hh2, hh1, hh0]; rfl) fun w12 H => ?_
    refine Ip6V.of h2 ⟨H.at 0 rfl, Stores.sep H 3 rfl (Ip6V.one h2) (Nat.le_refl _) (splice_all rfl) fun w13 H => Ip6V.of h2 ⟨H.at 3 rfl, h2, xs, ?_, ?_, ?_⟩⟩
    · have e : h2.exts = c4.exts := by rw [hh2, hh1, hh0]
      rw [e]
      exact H.sub (.cons _ (.cons _ (.cons_cons _ (.cons _ (.cons _ (List.Sublist.refl _))))))
    · rw [hh2, hh1, hh0]; exact hn
    · rw [hp, hh2, hh1, hh0]
      exact ⟨rfl, h40, hA, hcd, rfl, rfl, rfl, rfl, rfl, hcf, hcn⟩
end
end N6
end Go.Proofs.YtkiogaglmjeplaaDoor
