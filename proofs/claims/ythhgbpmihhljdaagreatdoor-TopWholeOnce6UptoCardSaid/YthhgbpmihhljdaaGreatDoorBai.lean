/- WRITTEN BY a program of this session (vc.py): for each Go function the condition that is enough for its contract, and the theorem that it is. -/
import Derived.Test.YthhgbpmihhljdaaGreatDoorProg
import Derived.Test.YthhgbpmihhljdaaGreatDoorBae
import Derived.Test.YthhgbpmihhljdaaGreatDoorBah
import Derived.Test.YthhgbpmihhljdaaGreatDoorBag
namespace Go.Proofs.YthhgbpmihhljdaaGreatDoor
open Go.Eng
namespace N6
end N6
end Go.Proofs.YthhgbpmihhljdaaGreatDoor
/- WRITTEN BY a program of this session (vc.py): for each Go function the condition that is enough for its contract, and the theorem that it is. -/
namespace Go.Proofs.YthhgbpmihhljdaaGreatDoor
open Go.Eng
namespace N6

set_option maxRecDepth 100000 in
def split_heads6_head_VC (h : Int) (_p1 : Bool) (w : World) (R : Ending → World → Prop) : Prop :=
  R (.returned (.int .i64 h)) w
def split_heads6_head_H : Hints := []
set_option maxRecDepth 100000 in
theorem split_heads6_head_of (h : Int) (p1 : Bool) (w : World) (R : Ending → World → Prop) (hvc_ : split_heads6_head_VC h p1 w R) :
    Calls Tryz.prog 145 #[.int .i64 h, .bool p1] w R :=
  calls_of_wpc callOk mixedOk (H := split_heads6_head_H) (args := [.int .i64 h, .bool p1]) (fn := Tryz.f145) (c := bodyOf Tryz.f145) Tryz.func145 rfl (Nat.le_of_ble_eq_true rfl)
    (Eq.mp (by kernel_rfl : split_heads6_head_VC h p1 w R = wpc Tryz.prog callF Tryz.f145.ntmps split_heads6_head_H 1 (bodyOf Tryz.f145) (argEnv 0 [.int .i64 h, .bool p1]) [] w (finish Tryz.prog callF Tryz.f145.results.toList R)) hvc_)

set_option maxRecDepth 100000 in
def slices_Clone_VC (sA : Option Addr) (sn : Nat) (sc : Nat) (w : World) (R : Ending → World → Prop) : Prop :=
  Br sA.isNone
    (R (.returned (.slice none 0 0)) w)
    (NewVC w (.cells #[] 5) fun g1 w1 =>
  AppVC Tryz.prog #[28, 28] 28 (.slice (some ⟨g1, 0, none⟩) 0 0) (.slice sA sn sc) w1 fun lA ln lc w2 =>
  R (.returned (.slice lA ln lc)) w2)
def slices_Clone_H : Hints := []
set_option maxRecDepth 100000 in
theorem slices_Clone_of (sA : Option Addr) (sn : Nat) (sc : Nat) (w : World) (R : Ending → World → Prop) (hvc_ : slices_Clone_VC sA sn sc w R) :
    Calls Tryz.prog 22 #[.slice sA sn sc] w R :=
  calls_of_wpc callOk mixedOk (H := slices_Clone_H) (args := [.slice sA sn sc]) (fn := Tryz.f22) (c := bodyOf Tryz.f22) Tryz.func22 rfl (Nat.le_of_ble_eq_true rfl)
    (Eq.mp (by kernel_rfl : slices_Clone_VC sA sn sc w R = wpc Tryz.prog callF Tryz.f22.ntmps slices_Clone_H 1 (bodyOf Tryz.f22) (argEnv 0 [.slice sA sn sc]) [] w (finish Tryz.prog callF Tryz.f22.results.toList R)) hvc_)

set_option maxRecDepth 100000 in
def split_options_J3737 (outA : Option Addr) (outn : Nat) (outc : Nat) (t10_ : Int) (K58 : ((Option Addr × Nat × Nat) × Int → World → Prop)) (g1 : Nat) (t21_ : Bool) (w4 : World) : Prop :=
  Br t21_
    (DrawVC w4 fun S1 w5 =>
    ∃ x1 : Int, (∀ w' : World, S1 w' → w'.cell? ⟨g1, 0, none⟩ = some (.int .i64 x1)) ∧
    ∃ (xA : Option Addr) (xn xc : Nat), (∀ w' : World, S1 w' → w'.cell? ⟨g1, 1, none⟩ = some (.slice xA xn xc)) ∧
    Calls Tryz.prog 22 #[.slice xA xn xc] w5 (onRet (fun r_ w6 => ∃ (xA1 : Option Addr) (xn1 xc1 : Nat), r_ = .slice xA1 xn1 xc1 ∧
    S1 w6 ∧
    NewVC w6 (.cells (⟨x1, ⟨xA1, xn1, xc1⟩⟩ : OptV).cells.toArray 127) fun g2 w7 =>
    S1 w7 ∧
    AppVC Tryz.prog #[54, 54] 54 (.slice outA outn outc) (.slice (some ⟨g2, 0, none⟩) 1 1) w7 fun lA1 ln1 lc1 w8 =>
    S1 w8 ∧
    K58 ((lA1, ln1, lc1), IntKind.i64.wrap (t10_ + 1)) w8)
      (fun _ _ => False)))
    (K58 ((outA, outn, outc), IntKind.i64.wrap (t10_ + 1)) w4)
set_option maxRecDepth 100000 in
def split_options_L58 (R : Ending → World → Prop) (lA : Option Addr) (ln : Nat) (copied : Bool) (outA : Option Addr) (outn : Nat) (outc : Nat) (t10_ : Int) (w1 : World) (K58 : ((Option Addr × Nat × Nat) × Int → World → Prop)) : Prop :=
  Br (decide (t10_ < (ln : Int)))
    (IdxVC lA ln 2 t10_ fun a =>
  OptV.ex fun h => CellsAt w1 a 0 h.cells ∧
  NewVC w1 (.cells (OptV.z : OptV).cells.toArray 127) fun g1 w2 =>
  Stores ⟨g1, 0, none⟩ 0 h.cells w2 fun w3 =>
  JoinVC (S := Bool) (fun J3737 =>
      Br (!copied)
        (J3737 true w3)
        (∃ x : Int, w3.cell? ⟨g1, 0, none⟩ = some (.int .i64 x) ∧
        J3737 (decide (bitv .and .i64 x 128 ≠ 0)) w3))
    (fun s_ w4 => split_options_J3737 outA outn outc t10_ K58 g1 s_ w4))
    (R (.returned (.slice outA outn outc)) w1)
set_option maxRecDepth 100000 in
def split_options_VC (lA : Option Addr) (ln : Nat) (_lc : Nat) (copied : Bool) (w : World) (R : Ending → World → Prop) : Prop :=
  LoopVC (S := (Option Addr × Nat × Nat) × Int) (fun s_ w1 K58 => split_options_L58 R lA ln copied s_.1.1 s_.1.2.1 s_.1.2.2 s_.2 w1 K58) ((none, 0, 0), 0) w
def split_options_H : Hints := [(58, [(5, .slice), (10, .int .i64)]), (3737, [(21, .bool)])]
set_option maxRecDepth 100000 in
theorem split_options_of (lA : Option Addr) (ln : Nat) (lc : Nat) (copied : Bool) (w : World) (R : Ending → World → Prop) (hvc_ : split_options_VC lA ln lc copied w R) :
    Calls Tryz.prog 49 #[.slice lA ln lc, .bool copied] w R :=
  calls_of_wpc callOk mixedOk (H := split_options_H) (args := [.slice lA ln lc, .bool copied]) (fn := Tryz.f49) (c := bodyOf Tryz.f49) Tryz.func49 rfl (Nat.le_of_ble_eq_true rfl)
    (Eq.mp (by kernel_rfl : split_options_VC lA ln lc copied w R = wpc Tryz.prog callF Tryz.f49.ntmps split_options_H 1 (bodyOf Tryz.f49) (argEnv 0 [.slice lA ln lc, .bool copied]) [] w (finish Tryz.prog callF Tryz.f49.results.toList R)) hvc_)

set_option maxRecDepth 100000 in
def split_exts_L58 (R : Ending → World → Prop) (lA : Option Addr) (ln : Nat) (outA : Option Addr) (outn : Nat) (outc : Nat) (t8_ : Int) (w1 : World) (K58 : ((Option Addr × Nat × Nat) × Int → World → Prop)) : Prop :=
  Br (decide (t8_ < (ln : Int)))
    (IdxVC lA ln 3 t8_ fun a =>
  ExtV.ex fun h => CellsAt w1 a 0 h.cells ∧
  NewVC w1 (.cells (ExtV.z : ExtV).cells.toArray 56) fun g1 w2 =>
  Stores ⟨g1, 0, none⟩ 0 h.cells w2 fun w3 =>
  DrawVC w3 fun S1 w4 =>
  ∃ x : Int, (∀ w' : World, S1 w' → w'.cell? ⟨g1, 0, none⟩ = some (.int .i64 x)) ∧
  ∃ (xA : Option Addr) (xn xc : Nat), (∀ w' : World, S1 w' → w'.cell? ⟨g1, 1, none⟩ = some (.slice xA xn xc)) ∧
  ∃ (xA1 : Option Addr) (xn1 xc1 : Nat), (∀ w' : World, S1 w' → w'.cell? ⟨g1, 2, none⟩ = some (.slice xA1 xn1 xc1)) ∧
  Calls Tryz.prog 49 #[.slice xA xn xc, .bool false] w4 (onRet (fun r_ w5 => ∃ (xA2 : Option Addr) (xn2 xc2 : Nat), r_ = .slice xA2 xn2 xc2 ∧
  S1 w5 ∧
  Calls Tryz.prog 22 #[.slice xA1 xn1 xc1] w5 (onRet (fun r_1 w6 => ∃ (xA3 : Option Addr) (xn3 xc3 : Nat), r_1 = .slice xA3 xn3 xc3 ∧
  S1 w6 ∧
  NewVC w6 (.cells (⟨x, ⟨xA2, xn2, xc2⟩, ⟨xA3, xn3, xc3⟩⟩ : ExtV).cells.toArray 56) fun g2 w7 =>
  S1 w7 ∧
  AppVC Tryz.prog #[25, 25] 25 (.slice outA outn outc) (.slice (some ⟨g2, 0, none⟩) 1 1) w7 fun lA1 ln1 lc1 w8 =>
  S1 w8 ∧
  K58 ((lA1, ln1, lc1), IntKind.i64.wrap (t8_ + 1)) w8)
    (fun _ _ => False)))
    (fun _ _ => False)))
    (R (.returned (.slice outA outn outc)) w1)
set_option maxRecDepth 100000 in
def split_exts_VC (lA : Option Addr) (ln : Nat) (_lc : Nat) (w : World) (R : Ending → World → Prop) : Prop :=
  LoopVC (S := (Option Addr × Nat × Nat) × Int) (fun s_ w1 K58 => split_exts_L58 R lA ln s_.1.1 s_.1.2.1 s_.1.2.2 s_.2 w1 K58) ((none, 0, 0), 0) w
def split_exts_H : Hints := [(58, [(3, .slice), (8, .int .i64)])]
set_option maxRecDepth 100000 in
theorem split_exts_of (lA : Option Addr) (ln : Nat) (lc : Nat) (w : World) (R : Ending → World → Prop) (hvc_ : split_exts_VC lA ln lc w R) :
    Calls Tryz.prog 21 #[.slice lA ln lc] w R :=
  calls_of_wpc callOk mixedOk (H := split_exts_H) (args := [.slice lA ln lc]) (fn := Tryz.f21) (c := bodyOf Tryz.f21) Tryz.func21 rfl (Nat.le_of_ble_eq_true rfl)
    (Eq.mp (by kernel_rfl : split_exts_VC lA ln lc w R = wpc Tryz.prog callF Tryz.f21.ntmps split_exts_H 1 (bodyOf Tryz.f21) (argEnv 0 [.slice lA ln lc]) [] w (finish Tryz.prog callF Tryz.f21.results.toList R)) hvc_)

set_option maxRecDepth 100000 in
def split_kept_L26 (R : Ending → World → Prop) (lA : Option Addr) (ln : Nat) (i : Int) (w1 : World) (K26 : (Int → World → Prop)) : Prop :=
  Br (decide ((0 : Int) ≤ i))
    (IdxVC lA ln 3 i fun a =>
  ∃ x : Int, w1.cell? a = some (.int .i64 x) ∧
  Br (decide (x = 43))
    (R (.returned (.int .i64 (IntKind.i64.wrap (i + 1)))) w1)
    (K26 (IntKind.i64.wrap (i - 1)) w1))
    (Br (decide ((0 : Int) < (ln : Int)))
    (IdxVC lA ln 3 0 fun a1 =>
    ∃ x1 : Int, w1.cell? a1 = some (.int .i64 x1) ∧
    Br (decide (x1 = 0))
    (R (.returned (.int .i64 1)) w1)
    (R (.returned (.int .i64 0)) w1))
    (R (.returned (.int .i64 0)) w1))
set_option maxRecDepth 100000 in
def split_kept_VC (lA : Option Addr) (ln : Nat) (_lc : Nat) (w : World) (R : Ending → World → Prop) : Prop :=
  LoopVC (S := Int) (fun s_ w1 K26 => split_kept_L26 R lA ln s_ w1 K26) (IntKind.i64.wrap ((ln : Int) - 1)) w
def split_kept_H : Hints := [(26, [(3, .int .i64)])]
set_option maxRecDepth 100000 in
theorem split_kept_of (lA : Option Addr) (ln : Nat) (lc : Nat) (w : World) (R : Ending → World → Prop) (hvc_ : split_kept_VC lA ln lc w R) :
    Calls Tryz.prog 23 #[.slice lA ln lc] w R :=
  calls_of_wpc callOk mixedOk (H := split_kept_H) (args := [.slice lA ln lc]) (fn := Tryz.f23) (c := bodyOf Tryz.f23) Tryz.func23 rfl (Nat.le_of_ble_eq_true rfl)
    (Eq.mp (by kernel_rfl : split_kept_VC lA ln lc w R = wpc Tryz.prog callF Tryz.f23.ntmps split_kept_H 1 (bodyOf Tryz.f23) (argEnv 0 [.slice lA ln lc]) [] w (finish Tryz.prog callF Tryz.f23.results.toList R)) hvc_)

set_option maxRecDepth 100000 in
def cut6_L30 (R : Ending → World → Prop) (bA : Option Addr) (bn : Nat) (bc : Nat) (mtu : Int) (h : Int) (outA : Option Addr) (outn : Nat) (outc : Nat) (at_ : Int) (w1 : World) (K30 : ((Option Addr × Nat × Nat) × Int → World → Prop)) : Prop :=
  Calls Tryz.prog 145 #[.int .i64 h, .bool (decide (at_ = 0))] w1 (onRet (fun r_ w2 => ∃ x : Int, r_ = .int .i64 x ∧
  Br (decide (IntKind.i64.wrap ((bn : Int) - at_) ≤ IntKind.i64.wrap (mtu - x)))
    (SliceVC bA bn bc 1 (some at_) (some (bn : Int)) (some (bn : Int)) fun sA sn sc =>
    Calls Tryz.prog 22 #[.slice sA sn sc] w2 (onRet (fun r_1 w3 => ∃ (xA : Option Addr) (xn xc : Nat), r_1 = .slice xA xn xc ∧
    NewVC w3 (.cells (⟨at_, ⟨xA, xn, xc⟩, true⟩ : PieV).cells.toArray 68) fun g1 w4 =>
    AppVC Tryz.prog #[65, 65] 65 (.slice outA outn outc) (.slice (some ⟨g1, 0, none⟩) 1 1) w4 fun lA ln lc w5 =>
    R (.returned (.slice lA ln lc)) w5)
      (fun ch1 w3 => R (.panicked ch1) w3)))
    (SliceVC bA bn bc 1 (some at_) (some (IntKind.i64.wrap (at_ + IntKind.i64.wrap (IntKind.i64.wrap (Int.tdiv (IntKind.i64.wrap (mtu - x)) 8) * 8)))) (some (IntKind.i64.wrap (at_ + IntKind.i64.wrap (IntKind.i64.wrap (Int.tdiv (IntKind.i64.wrap (mtu - x)) 8) * 8)))) fun sA1 sn1 sc1 =>
  Calls Tryz.prog 22 #[.slice sA1 sn1 sc1] w2 (onRet (fun r_2 w6 => ∃ (xA1 : Option Addr) (xn1 xc1 : Nat), r_2 = .slice xA1 xn1 xc1 ∧
  NewVC w6 (.cells (⟨at_, ⟨xA1, xn1, xc1⟩, false⟩ : PieV).cells.toArray 68) fun g2 w7 =>
  AppVC Tryz.prog #[65, 65] 65 (.slice outA outn outc) (.slice (some ⟨g2, 0, none⟩) 1 1) w7 fun lA1 ln1 lc1 w8 =>
  K30 ((lA1, ln1, lc1), IntKind.i64.wrap (at_ + IntKind.i64.wrap (IntKind.i64.wrap (Int.tdiv (IntKind.i64.wrap (mtu - x)) 8) * 8))) w8)
    (fun ch2 w6 => R (.panicked ch2) w6))))
    (fun ch w2 => R (.panicked ch) w2))
set_option maxRecDepth 100000 in
def cut6_VC (bA : Option Addr) (bn : Nat) (bc : Nat) (mtu : Int) (h : Int) (w : World) (R : Ending → World → Prop) : Prop :=
  LoopVC (S := (Option Addr × Nat × Nat) × Int) (fun s_ w1 K30 => cut6_L30 R bA bn bc mtu h s_.1.1 s_.1.2.1 s_.1.2.2 s_.2 w1 K30) ((none, 0, 0), 0) w
def cut6_H : Hints := [(30, [(7, .slice), (8, .int .i64)])]
set_option maxRecDepth 100000 in
theorem cut6_of (bA : Option Addr) (bn : Nat) (bc : Nat) (mtu : Int) (h : Int) (w : World) (R : Ending → World → Prop) (hvc_ : cut6_VC bA bn bc mtu h w R) :
    Calls Tryz.prog 25 #[.slice bA bn bc, .int .i64 mtu, .iface 64 (.int .i64 h)] w R :=
  calls_of_wpc callOk mixedOk (H := cut6_H) (args := [.slice bA bn bc, .int .i64 mtu, .iface 64 (.int .i64 h)]) (fn := Tryz.f25) (c := bodyOf Tryz.f25) Tryz.func25 rfl (Nat.le_of_ble_eq_true rfl)
    (Eq.mp (by kernel_rfl : cut6_VC bA bn bc mtu h w R = wpc Tryz.prog callF Tryz.f25.ntmps cut6_H 1 (bodyOf Tryz.f25) (argEnv 0 [.slice bA bn bc, .int .i64 mtu, .iface 64 (.int .i64 h)]) [] w (finish Tryz.prog callF Tryz.f25.results.toList R)) hvc_)

set_option maxRecDepth 100000 in
def ip6_Check_VC (h : Ip6V) (w : World) (R : Ending → World → Prop) : Prop :=
  NewVC w (.cells h.cells.toArray 30) fun g1 w1 =>
  Ip6V.ex fun h1 => CellsAt w1 ⟨g1, 0, none⟩ 0 h1.cells ∧
  Calls Tryz.prog 48 #[h1.val] w1 (onRet (fun r_ w2 => ∃ (x0A : Option Addr) (x0n x0c : Nat), ∃ x1 : Int, r_ = .tuple #[.slice x0A x0n x0c, .int .i64 x1] ∧
  R (.returned (.int .i64 x1)) w2)
    (fun ch w2 => R (.panicked ch) w2))
def ip6_Check_H : Hints := []
set_option maxRecDepth 100000 in
theorem ip6_Check_of (h : Ip6V) (w : World) (R : Ending → World → Prop) (hvc_ : ip6_Check_VC h w R) :
    Calls Tryz.prog 19 #[h.val] w R :=
  calls_of_wpc callOk mixedOk (H := ip6_Check_H) (args := [h.val]) (fn := Tryz.f19) (c := bodyOf Tryz.f19) Tryz.func19 rfl (Nat.le_of_ble_eq_true rfl)
    (Eq.mp (by kernel_rfl : ip6_Check_VC h w R = wpc Tryz.prog callF Tryz.f19.ntmps ip6_Check_H 1 (bodyOf Tryz.f19) (argEnv 0 [h.val]) [] w (finish Tryz.prog callF Tryz.f19.results.toList R)) hvc_)

set_option maxRecDepth 100000 in
def ip6_Size_VC (h : Ip6V) (w : World) (R : Ending → World → Prop) : Prop :=
  NewVC w (.cells h.cells.toArray 30) fun g1 w1 =>
  Ip6V.ex fun h1 => CellsAt w1 ⟨g1, 0, none⟩ 0 h1.cells ∧
  Calls Tryz.prog 48 #[h1.val] w1 (onRet (fun r_ w2 => ∃ (x0A : Option Addr) (x0n x0c : Nat), ∃ x1 : Int, r_ = .tuple #[.slice x0A x0n x0c, .int .i64 x1] ∧
  R (.returned (.int .i64 (x0n : Int))) w2)
    (fun ch w2 => R (.panicked ch) w2))
def ip6_Size_H : Hints := []
set_option maxRecDepth 100000 in
theorem ip6_Size_of (h : Ip6V) (w : World) (R : Ending → World → Prop) (hvc_ : ip6_Size_VC h w R) :
    Calls Tryz.prog 20 #[h.val] w R :=
  calls_of_wpc callOk mixedOk (H := ip6_Size_H) (args := [h.val]) (fn := Tryz.f20) (c := bodyOf Tryz.f20) Tryz.func20 rfl (Nat.le_of_ble_eq_true rfl)
    (Eq.mp (by kernel_rfl : ip6_Size_VC h w R = wpc Tryz.prog callF Tryz.f20.ntmps ip6_Size_H 1 (bodyOf Tryz.f20) (argEnv 0 [h.val]) [] w (finish Tryz.prog callF Tryz.f20.results.toList R)) hvc_)

set_option maxRecDepth 100000 in
def ip6_PutChain_VC (lA : Option Addr) (ln : Nat) (lc : Nat) (next : Int) (w : World) (R : Ending → World → Prop) : Prop :=
  Br (decide (next < 0))
    (R (.returned (.tuple #[.slice none 0 0, .int .i64 1])) w)
    (Br (decide ((255 : Int) < next))
    (R (.returned (.tuple #[.slice none 0 0, .int .i64 1])) w)
    (Calls Tryz.prog 50 #[.slice lA ln lc, .int .i64 next, .bool true] w (onRet (fun r_ w1 => ∃ (x0A : Option Addr) (x0n x0c : Nat), ∃ x1 : Int, r_ = .tuple #[.slice x0A x0n x0c, .int .i64 x1] ∧
  Br (decide (x1 ≠ 0))
    (R (.returned (.tuple #[.slice none 0 0, .int .i64 x1])) w1)
    (Calls Tryz.prog 51 #[.int .i64 next] w1 (onRet (fun r_1 w2 => ∃ x : Int, r_1 = .int .i64 x ∧
    Br (decide (x ≠ 0))
      (R (.returned (.tuple #[.slice none 0 0, .int .i64 72])) w2)
      (R (.returned (.tuple #[.slice x0A x0n x0c, .int .i64 0])) w2))
      (fun ch1 w2 => R (.panicked ch1) w2))))
    (fun ch w1 => R (.panicked ch) w1))))
def ip6_PutChain_H : Hints := []
set_option maxRecDepth 100000 in
theorem ip6_PutChain_of (lA : Option Addr) (ln : Nat) (lc : Nat) (next : Int) (w : World) (R : Ending → World → Prop) (hvc_ : ip6_PutChain_VC lA ln lc next w R) :
    Calls Tryz.prog 24 #[.slice lA ln lc, .int .i64 next] w R :=
  calls_of_wpc callOk mixedOk (H := ip6_PutChain_H) (args := [.slice lA ln lc, .int .i64 next]) (fn := Tryz.f24) (c := bodyOf Tryz.f24) Tryz.func24 rfl (Nat.le_of_ble_eq_true rfl)
    (Eq.mp (by kernel_rfl : ip6_PutChain_VC lA ln lc next w R = wpc Tryz.prog callF Tryz.f24.ntmps ip6_PutChain_H 1 (bodyOf Tryz.f24) (argEnv 0 [.slice lA ln lc, .int .i64 next]) [] w (finish Tryz.prog callF Tryz.f24.results.toList R)) hvc_)

set_option maxRecDepth 100000 in
def split_Split6_L524282 (R : Ending → World → Prop) (id : Int) (g1 : Nat) (x3 : Int) (first : Int) (xA9 : Option Addr) (xn9 : Nat) (outA : Option Addr) (outn : Nat) (outc : Nat) (t99_ : Int) (w15 : World) (K524282 : ((Option Addr × Nat × Nat) × Int → World → Prop)) : Prop :=
  Br (decide (t99_ < (xn9 : Int)))
    (IdxVC xA9 xn9 3 t99_ fun a1 =>
  PieV.ex fun h4 => CellsAt w15 a1 0 h4.cells ∧
  NewVC w15 (.cells (PieV.z : PieV).cells.toArray 68) fun g3 w16 =>
  Stores ⟨g3, 0, none⟩ 0 h4.cells w16 fun w17 =>
  Ip6V.ex fun h5 => CellsAt w17 ⟨g1, 0, none⟩ 0 h5.cells ∧
  NewVC w17 (.cells (Ip6V.z : Ip6V).cells.toArray 30) fun g4 w18 =>
  Stores ⟨g4, 0, none⟩ 0 h5.cells w18 fun w19 =>
  DrawVC w19 fun S2 w20 =>
  ∃ (xA10 : Option Addr) (xn10 xc10 : Nat), (∀ w' : World, S2 w' → w'.cell? ⟨g1, 37, none⟩ = some (.slice xA10 xn10 xc10)) ∧
  SliceVC xA10 xn10 xc10 3 none (some x3) none fun sA1 sn1 sc1 =>
  ∃ (xA11 : Option Addr) (xn11 xc11 : Nat), (∀ w' : World, S2 w' → w'.cell? ⟨g3, 1, none⟩ = some (.slice xA11 xn11 xc11)) ∧
  Calls Tryz.prog 21 #[.slice sA1 sn1 sc1] w20 (onRet (fun r_7 w21 => ∃ (xA12 : Option Addr) (xn12 xc12 : Nat), r_7 = .slice xA12 xn12 xc12 ∧
  S2 w21 ∧
  SetVC w21 ⟨g4, 37, none⟩ (.slice xA12 xn12 xc12) fun w22 =>
  S2 w22 ∧
  SetVC w22 ⟨g4, 43, none⟩ (.slice xA11 xn11 xc11) fun w23 =>
  S2 w23 ∧
  SetVC w23 ⟨g4, 42, none⟩ (.int .i64 first) fun w24 =>
  ∃ x7 : Bool, w24.cell? ⟨g3, 2, none⟩ = some (.bool x7) ∧
  ∃ x8 : Int, w24.cell? ⟨g3, 0, none⟩ = some (.int .i64 x8) ∧
  Stores ⟨g4, 38, none⟩ 0 (⟨true, !x7, id, x8⟩ : FragV).cells w24 fun w25 =>
  Ip6V.ex fun h6 => CellsAt w25 ⟨g4, 0, none⟩ 0 h6.cells ∧
  NewVC w25 (.cells h6.cells.toArray 30) fun g5 w26 =>
  AppVC Tryz.prog #[32, 32] 32 (.slice outA outn outc) (.slice (some ⟨g5, 0, none⟩) 1 1) w26 fun lA1 ln1 lc1 w27 =>
  K524282 ((lA1, ln1, lc1), IntKind.i64.wrap (t99_ + 1)) w27)
    (fun _ _ => False)))
    (R (.returned (.tuple #[.slice outA outn outc, .int .i64 0])) w15)
set_option maxRecDepth 100000 in
def split_Split6_J1023 (R : Ending → World → Prop) (mtu : Int) (id : Int) (g1 : Nat) (x1 : Int) (x3 : Int) (first : Int) (w10 : World) : Prop :=
  DrawVC w10 fun S1 w11 =>
  ∃ (xA7 : Option Addr) (xn7 xc7 : Nat), (∀ w' : World, S1 w' → w'.cell? ⟨g1, 37, none⟩ = some (.slice xA7 xn7 xc7)) ∧
  SliceVC xA7 xn7 xc7 3 (some x3) none none fun sA sn sc =>
  ∃ x6 : Int, (∀ w' : World, S1 w' → w'.cell? ⟨g1, 42, none⟩ = some (.int .i64 x6)) ∧
  Calls Tryz.prog 24 #[.slice sA sn sc, .int .i64 x6] w11 (onRet (fun r_5 w12 => ∃ (x0A : Option Addr) (x0n x0c : Nat), ∃ x11 : Int, r_5 = .tuple #[.slice x0A x0n x0c, .int .i64 x11] ∧
  S1 w12 ∧
  ∃ (xA8 : Option Addr) (xn8 xc8 : Nat), w12.cell? ⟨g1, 43, none⟩ = some (.slice xA8 xn8 xc8) ∧
  AppVC Tryz.prog #[28, 28] 28 (.slice x0A x0n x0c) (.slice xA8 xn8 xc8) w12 fun lA ln lc w13 =>
  Br (decide (mtu < IntKind.i64.wrap (IntKind.i64.wrap (IntKind.i64.wrap (x1 - (ln : Int)) + 8) + 8)))
    (R (.returned (.tuple #[.slice none 0 0, .int .i64 133])) w13)
    (Calls Tryz.prog 25 #[.slice lA ln lc, .int .i64 mtu, .iface 64 (.int .i64 (IntKind.i64.wrap (IntKind.i64.wrap (x1 - (ln : Int)) + 8)))] w13 (onRet (fun r_6 w14 => ∃ (xA9 : Option Addr) (xn9 xc9 : Nat), r_6 = .slice xA9 xn9 xc9 ∧
  LoopVC (S := (Option Addr × Nat × Nat) × Int) (fun s_ w15 K524282 => split_Split6_L524282 R id g1 x3 first xA9 xn9 s_.1.1 s_.1.2.1 s_.1.2.2 s_.2 w15 K524282) ((none, 0, 0), 0) w14)
    (fun ch6 w14 => R (.panicked ch6) w14))))
    (fun _ _ => False))
set_option maxRecDepth 100000 in
def split_Split6_VC (h : Ip6V) (mtu : Int) (id : Int) (w : World) (R : Ending → World → Prop) : Prop :=
  NewVC w (.cells h.cells.toArray 30) fun g1 w1 =>
  Ip6V.ex fun h1 => CellsAt w1 ⟨g1, 0, none⟩ 0 h1.cells ∧
  Calls Tryz.prog 19 #[h1.val] w1 (onRet (fun r_ w2 => ∃ x : Int, r_ = .int .i64 x ∧
  Br (decide (x ≠ 0))
    (R (.returned (.tuple #[.slice none 0 0, .int .i64 x])) w2)
    (Br (decide (mtu < 1280))
    (R (.returned (.tuple #[.slice none 0 0, .int .i64 132])) w2)
    (Br (decide ((65535 : Int) < mtu))
    (R (.returned (.tuple #[.slice none 0 0, .int .i64 132])) w2)
    (Br (decide (id < 0))
    (R (.returned (.tuple #[.slice none 0 0, .int .i64 1])) w2)
    (Br (decide ((4294967296 : Int) ≤ id))
    (R (.returned (.tuple #[.slice none 0 0, .int .i64 1])) w2)
    (Ip6V.ex fun h2 => CellsAt w2 ⟨g1, 0, none⟩ 0 h2.cells ∧
  Calls Tryz.prog 20 #[h2.val] w2 (onRet (fun r_1 w3 => ∃ x1 : Int, r_1 = .int .i64 x1 ∧
  Br (decide (x1 ≤ mtu))
    (∃ (xA : Option Addr) (xn xc : Nat), w3.cell? ⟨g1, 37, none⟩ = some (.slice xA xn xc) ∧
    Calls Tryz.prog 21 #[.slice xA xn xc] w3 (onRet (fun r_2 w4 => ∃ (xA1 : Option Addr) (xn1 xc1 : Nat), r_2 = .slice xA1 xn1 xc1 ∧
    SetVC w4 ⟨g1, 37, none⟩ (.slice xA1 xn1 xc1) fun w5 =>
    ∃ (xA2 : Option Addr) (xn2 xc2 : Nat), w5.cell? ⟨g1, 43, none⟩ = some (.slice xA2 xn2 xc2) ∧
    Calls Tryz.prog 22 #[.slice xA2 xn2 xc2] w5 (onRet (fun r_3 w6 => ∃ (xA3 : Option Addr) (xn3 xc3 : Nat), r_3 = .slice xA3 xn3 xc3 ∧
    SetVC w6 ⟨g1, 43, none⟩ (.slice xA3 xn3 xc3) fun w7 =>
    Ip6V.ex fun h3 => CellsAt w7 ⟨g1, 0, none⟩ 0 h3.cells ∧
    NewVC w7 (.cells h3.cells.toArray 30) fun g2 w8 =>
    R (.returned (.tuple #[.slice (some ⟨g2, 0, none⟩) 1 1, .int .i64 0])) w8)
      (fun ch3 w6 => R (.panicked ch3) w6)))
      (fun ch2 w4 => R (.panicked ch2) w4)))
    (∃ x2 : Bool, w3.cell? ⟨g1, 38, none⟩ = some (.bool x2) ∧
  Br x2
    (R (.returned (.tuple #[.slice none 0 0, .int .i64 131])) w3)
    (∃ (xA4 : Option Addr) (xn4 xc4 : Nat), w3.cell? ⟨g1, 37, none⟩ = some (.slice xA4 xn4 xc4) ∧
  Calls Tryz.prog 23 #[.slice xA4 xn4 xc4] w3 (onRet (fun r_4 w9 => ∃ x3 : Int, r_4 = .int .i64 x3 ∧
  ∃ x4 : Int, w9.cell? ⟨g1, 42, none⟩ = some (.int .i64 x4) ∧
  JoinVC (S := Int) (fun J1023 =>
      ∃ (xA5 : Option Addr) (xn5 xc5 : Nat), w9.cell? ⟨g1, 37, none⟩ = some (.slice xA5 xn5 xc5) ∧
      Br (decide (x3 < (xn5 : Int)))
        (∃ (xA6 : Option Addr) (xn6 xc6 : Nat), w9.cell? ⟨g1, 37, none⟩ = some (.slice xA6 xn6 xc6) ∧
        IdxVC xA6 xn6 3 x3 fun a =>
        ∃ x5 : Int, w9.cell? a = some (.int .i64 x5) ∧
        J1023 x5 w9)
        (J1023 x4 w9))
    (fun s_ w10 => split_Split6_J1023 R mtu id g1 x1 x3 s_ w10))
    (fun ch4 w9 => R (.panicked ch4) w9)))))
    (fun ch1 w3 => R (.panicked ch1) w3))))))))
    (fun ch w2 => R (.panicked ch) w2))
def split_Split6_H : Hints := [(1023, [(11, .int .i64)]), (524282, [(15, .slice), (99, .int .i64)])]
set_option maxRecDepth 100000 in
theorem split_Split6_of (h : Ip6V) (mtu : Int) (id : Int) (w : World) (R : Ending → World → Prop) (hvc_ : split_Split6_VC h mtu id w R) :
    Calls Tryz.prog 6 #[h.val, .int .i64 mtu, .int .i64 id] w R :=
  calls_of_wpc callOk mixedOk (H := split_Split6_H) (args := [h.val, .int .i64 mtu, .int .i64 id]) (fn := Tryz.f6) (c := bodyOf Tryz.f6) Tryz.func6 rfl (Nat.le_of_ble_eq_true rfl)
    (Eq.mp (by kernel_rfl : split_Split6_VC h mtu id w R = wpc Tryz.prog callF Tryz.f6.ntmps split_Split6_H 1 (bodyOf Tryz.f6) (argEnv 0 [h.val, .int .i64 mtu, .int .i64 id]) [] w (finish Tryz.prog callF Tryz.f6.results.toList R)) hvc_)
end N6
end Go.Proofs.YthhgbpmihhljdaaGreatDoor
/- WRITTEN BY a program of this session (vc.py): for each Go function the condition that is enough for its contract, and the theorem that it is. -/
namespace Go.Proofs.YthhgbpmihhljdaaGreatDoor
open Go.Eng
def bodyOf (fn : Func) : Code := match fn.body with | some c => c | none => .skip
def callF (f : Nat) : Bool := Nat.ble 3 f && Nat.ble f 145 && !(Nat.beq f 79) && !(Nat.beq f 80) && !(Nat.beq f 86) && !(Nat.beq f 94) && !(Nat.beq f 95) && !(Nat.beq f 96) && !(Nat.beq f 97) && !(Nat.beq f 98) && !(Nat.beq f 99) && !(Nat.beq f 100) && !(Nat.beq f 101) && !(Nat.beq f 102) && !(Nat.beq f 103) && !(Nat.beq f 112) && !(Nat.beq f 113) && !(Nat.beq f 114) && !(Nat.beq f 115) && !(Nat.beq f 116) && !(Nat.beq f 125) && !(Nat.beq f 129) && !(Nat.beq f 130) && !(Nat.beq f 131) && !(Nat.beq f 132) && !(Nat.beq f 133) && !(Nat.beq f 134) && !(Nat.beq f 135) && !(Nat.beq f 136) && !(Nat.beq f 137) && !(Nat.beq f 138) && !(Nat.beq f 139) && !(Nat.beq f 140) && !(Nat.beq f 141) && !(Nat.beq f 142) && !(Nat.beq f 143) && !(Nat.beq f 144)
theorem callAll : ((List.range 146).all fun f => !(callF f) || callableB Tryz.prog f) = true := by kernel_rfl
theorem callOk : ∀ f, callF f = true → callableB Tryz.prog f = true := by
  intro f hf
  have h := List.all_eq_true.1 callAll f (by simp [callF] at hf; simp; omega)
  simpa [hf] using h
theorem mixedOk : Tryz.prog.follows .mixedOrders = true := by kernel_rfl

set_option maxRecDepth 100000 in
def view_look_VC (bA : Option Addr) (bn : Nat) (_bc : Nat) (i : Int) (w : World) (R : Ending → World → Prop) : Prop :=
  Br (decide (i < 0))
    (R (.panicked [{ v := .iface 202 (.agg #[]), recovered := false }]) w)
    (Br (decide ((bn : Int) ≤ i))
    (R (.panicked [{ v := .iface 202 (.agg #[]), recovered := false }]) w)
    (IdxVC bA bn 1 i fun a =>
  ∃ x : Int, w.cell? a = some (.int .u8 x) ∧
  R (.returned (.int .u8 x)) w))
def view_look_H : Hints := []
set_option maxRecDepth 100000 in
theorem view_look_of (bA : Option Addr) (bn : Nat) (bc : Nat) (i : Int) (w : World) (R : Ending → World → Prop) (hvc_ : view_look_VC bA bn bc i w R) :
    Calls Tryz.prog 119 #[.slice bA bn bc, .int .i64 i] w R :=
  calls_of_wpc callOk mixedOk (H := view_look_H) (args := [.slice bA bn bc, .int .i64 i]) (fn := Tryz.f119) (c := bodyOf Tryz.f119) Tryz.func119 rfl (Nat.le_of_ble_eq_true rfl)
    (Eq.mp (by kernel_rfl : view_look_VC bA bn bc i w R = wpc Tryz.prog callF Tryz.f119.ntmps view_look_H 1 (bodyOf Tryz.f119) (argEnv 0 [.slice bA bn bc, .int .i64 i]) [] w (finish Tryz.prog callF Tryz.f119.results.toList R)) hvc_)

set_option maxRecDepth 100000 in
def view_part_VC (bA : Option Addr) (bn : Nat) (bc : Nat) (at_ : Int) (n : Int) (w : World) (R : Ending → World → Prop) : Prop :=
  Br (decide (at_ < 0))
    (R (.panicked [{ v := .iface 202 (.agg #[]), recovered := false }]) w)
    (Br (decide ((bn : Int) < at_))
      (R (.panicked [{ v := .iface 202 (.agg #[]), recovered := false }]) w)
      (Br (decide (IntKind.i64.wrap ((bn : Int) - at_) < n))
    (R (.panicked [{ v := .iface 202 (.agg #[]), recovered := false }]) w)
    (SliceVC bA bn bc 1 (some at_) (some (IntKind.i64.wrap (at_ + n))) (some (IntKind.i64.wrap (at_ + n))) fun sA sn sc =>
  R (.returned (.slice sA sn sc)) w)))
def view_part_H : Hints := []
set_option maxRecDepth 100000 in
theorem view_part_of (bA : Option Addr) (bn : Nat) (bc : Nat) (at_ : Int) (n : Int) (w : World) (R : Ending → World → Prop) (hvc_ : view_part_VC bA bn bc at_ n w R) :
    Calls Tryz.prog 118 #[.slice bA bn bc, .int .i64 at_, .int .i64 n] w R :=
  calls_of_wpc callOk mixedOk (H := view_part_H) (args := [.slice bA bn bc, .int .i64 at_, .int .i64 n]) (fn := Tryz.f118) (c := bodyOf Tryz.f118) Tryz.func118 rfl (Nat.le_of_ble_eq_true rfl)
    (Eq.mp (by kernel_rfl : view_part_VC bA bn bc at_ n w R = wpc Tryz.prog callF Tryz.f118.ntmps view_part_H 1 (bodyOf Tryz.f118) (argEnv 0 [.slice bA bn bc, .int .i64 at_, .int .i64 n]) [] w (finish Tryz.prog callF Tryz.f118.results.toList R)) hvc_)

set_option maxRecDepth 100000 in
def view_Fields_L1042842 (R : Ending → World → Prop) (g1 : Nat) (g2 : Nat) (g3 : Nat) (xA : Option Addr) (xn : Nat) (xc : Nat) (t30_ : Int) (K1018 : (Int × Int → World → Prop)) (x3 : Int) (bit1 : Int) (v_ : Int) (t35_ : Int) (w12 : World) (K1042842 : (Int × Int × Int → World → Prop)) : Prop :=
  Br (decide (t35_ < x3))
    (Calls Tryz.prog 119 #[.slice xA xn xc, .int .i64 (IntKind.i64.wrap (Int.tdiv bit1 8))] w12 (onRet (fun r_2 w13 => ∃ x4 : Int, r_2 = .int .u8 x4 ∧
  ShVC (IntKind.u64.wrap (7 - IntKind.u64.wrap (Int.tmod bit1 8))) (
  ([{ target := .fn (.func 117) #[.pointer (some ⟨g1, 0, none⟩), .pointer (some ⟨g2, 0, none⟩), .pointer (some ⟨g3, 0, none⟩)], args := #[] }] : List Deferred) = [{ target := .fn (.func 117) #[.pointer (some ⟨g1, 0, none⟩), .pointer (some ⟨g2, 0, none⟩), .pointer (some ⟨g3, 0, none⟩)], args := #[] }] ∧ K1042842 (IntKind.i64.wrap (bit1 + 1), bitv .or .i64 (IntKind.i64.wrap (v_ * 2)) (IntKind.i64.wrap (bitv .and .u8 (Int.fdiv x4 (2 ^ (min ((IntKind.u64.wrap (7 - IntKind.u64.wrap (Int.tmod bit1 8))).toNat) 8))) 1)), IntKind.i64.wrap (t35_ + 1)) w13))
    (fun ch2 w13 => leaveWp Tryz.prog callF (fun w14 => ∃ (resA1 : Option Addr) (resn1 resc1 : Nat), w14.cell? ⟨g1, 0, none⟩ = some (.slice resA1 resn1 resc1) ∧
    ∃ res2 : Int, w14.cell? ⟨g2, 0, none⟩ = some (.int .i64 res2) ∧
    ∃ res3 : Int, w14.cell? ⟨g3, 0, none⟩ = some (.int .i64 res3) ∧
    R (.returned (.tuple #[.slice resA1 resn1 resc1, .int .i64 res2, .int .i64 res3])) w14)
    R [{ target := .fn (.func 117) #[.pointer (some ⟨g1, 0, none⟩), .pointer (some ⟨g2, 0, none⟩), .pointer (some ⟨g3, 0, none⟩)], args := #[] }] (.panicking ch2) w13)))
    (∃ (xA1 : Option Addr) (xn1 xc1 : Nat), w12.cell? ⟨g1, 0, none⟩ = some (.slice xA1 xn1 xc1) ∧
  NewVC w12 (.cells #[.int .i64 v_] 3) fun g4 w15 =>
  AppVC Tryz.prog #[31, 31] 31 (.slice xA1 xn1 xc1) (.slice (some ⟨g4, 0, none⟩) 1 1) w15 fun lA ln lc w16 =>
  SetVC w16 ⟨g1, 0, none⟩ (.slice lA ln lc) fun w17 =>
  ([{ target := .fn (.func 117) #[.pointer (some ⟨g1, 0, none⟩), .pointer (some ⟨g2, 0, none⟩), .pointer (some ⟨g3, 0, none⟩)], args := #[] }] : List Deferred) = [{ target := .fn (.func 117) #[.pointer (some ⟨g1, 0, none⟩), .pointer (some ⟨g2, 0, none⟩), .pointer (some ⟨g3, 0, none⟩)], args := #[] }] ∧ K1018 (bit1, IntKind.i64.wrap (t30_ + 1)) w17)
set_option maxRecDepth 100000 in
def view_Fields_L1018 (R : Ending → World → Prop) (at_ : Int) (widthsA : Option Addr) (widthsn : Nat) (g1 : Nat) (g2 : Nat) (g3 : Nat) (x0 : Int) (xA : Option Addr) (xn : Nat) (xc : Nat) (bit : Int) (t30_ : Int) (w11 : World) (K1018 : (Int × Int → World → Prop)) : Prop :=
  Br (decide (t30_ < (widthsn : Int)))
    (IdxVC widthsA widthsn 1 t30_ fun a =>
  ∃ x3 : Int, w11.cell? a = some (.int .i64 x3) ∧
  LoopVC (S := Int × Int × Int) (fun s_ w12 K1042842 => view_Fields_L1042842 R g1 g2 g3 xA xn xc t30_ K1018 x3 s_.1 s_.2.1 s_.2.2 w12 K1042842) (bit, 0, 0) w11)
    (∃ (xA2 : Option Addr) (xn2 xc2 : Nat), w11.cell? ⟨g1, 0, none⟩ = some (.slice xA2 xn2 xc2) ∧
  SetVC w11 ⟨g1, 0, none⟩ (.slice xA2 xn2 xc2) fun w18 =>
  SetVC w18 ⟨g2, 0, none⟩ (.int .i64 (IntKind.i64.wrap (at_ + x0))) fun w19 =>
  SetVC w19 ⟨g3, 0, none⟩ (.int .i64 0) fun w20 =>
  leaveWp Tryz.prog callF (fun w21 => ∃ (resA2 : Option Addr) (resn2 resc2 : Nat), w21.cell? ⟨g1, 0, none⟩ = some (.slice resA2 resn2 resc2) ∧
    ∃ res4 : Int, w21.cell? ⟨g2, 0, none⟩ = some (.int .i64 res4) ∧
    ∃ res5 : Int, w21.cell? ⟨g3, 0, none⟩ = some (.int .i64 res5) ∧
    R (.returned (.tuple #[.slice resA2 resn2 resc2, .int .i64 res4, .int .i64 res5])) w21)
    R [{ target := .fn (.func 117) #[.pointer (some ⟨g1, 0, none⟩), .pointer (some ⟨g2, 0, none⟩), .pointer (some ⟨g3, 0, none⟩)], args := #[] }] .returning w20)
set_option maxRecDepth 100000 in
def view_Fields_VC (bA : Option Addr) (bn : Nat) (bc : Nat) (at_ : Int) (widthsA : Option Addr) (widthsn : Nat) (widthsc : Nat) (w : World) (R : Ending → World → Prop) : Prop :=
  NewVC w (.cells #[.slice none 0 0] 31) fun g1 w1 =>
  NewVC w1 (.cells #[.int .i64 0] 3) fun g2 w2 =>
  NewVC w2 (.cells #[.int .i64 0] 36) fun g3 w3 =>
  Calls Tryz.prog 85 #[.slice widthsA widthsn widthsc] w3 (onRet (fun r_ w4 => ∃ x0 : Int, ∃ x1 : Int, r_ = .tuple #[.int .i64 x0, .int .i64 x1] ∧
  SetVC w4 ⟨g3, 0, none⟩ (.int .i64 x1) fun w5 =>
  ∃ x : Int, w5.cell? ⟨g3, 0, none⟩ = some (.int .i64 x) ∧
  Br (decide (x ≠ 0))
    (DrawVC w5 fun S1 w6 =>
    ∃ x2 : Int, (∀ w' : World, S1 w' → w'.cell? ⟨g3, 0, none⟩ = some (.int .i64 x2)) ∧
    SetVC w6 ⟨g1, 0, none⟩ (.slice none 0 0) fun w7 =>
    S1 w7 ∧
    SetVC w7 ⟨g2, 0, none⟩ (.int .i64 0) fun w8 =>
    S1 w8 ∧
    SetVC w8 ⟨g3, 0, none⟩ (.int .i64 x2) fun w9 =>
    ∃ (resA : Option Addr) (resn resc : Nat), w9.cell? ⟨g1, 0, none⟩ = some (.slice resA resn resc) ∧
  ∃ res : Int, w9.cell? ⟨g2, 0, none⟩ = some (.int .i64 res) ∧
  ∃ res1 : Int, w9.cell? ⟨g3, 0, none⟩ = some (.int .i64 res1) ∧
  R (.returned (.tuple #[.slice resA resn resc, .int .i64 res, .int .i64 res1])) w9)
    (Calls Tryz.prog 118 #[.slice bA bn bc, .int .i64 at_, .int .i64 x0] w5 (onRet (fun r_1 w10 => ∃ (xA : Option Addr) (xn xc : Nat), r_1 = .slice xA xn xc ∧
  LoopVC (S := Int × Int) (fun s_ w11 K1018 => view_Fields_L1018 R at_ widthsA widthsn g1 g2 g3 x0 xA xn xc s_.1 s_.2 w11 K1018) (0, 0) w10)
    (fun ch1 w10 => leaveWp Tryz.prog callF (fun w22 => ∃ (resA3 : Option Addr) (resn3 resc3 : Nat), w22.cell? ⟨g1, 0, none⟩ = some (.slice resA3 resn3 resc3) ∧
    ∃ res6 : Int, w22.cell? ⟨g2, 0, none⟩ = some (.int .i64 res6) ∧
    ∃ res7 : Int, w22.cell? ⟨g3, 0, none⟩ = some (.int .i64 res7) ∧
    R (.returned (.tuple #[.slice resA3 resn3 resc3, .int .i64 res6, .int .i64 res7])) w22)
    R [{ target := .fn (.func 117) #[.pointer (some ⟨g1, 0, none⟩), .pointer (some ⟨g2, 0, none⟩), .pointer (some ⟨g3, 0, none⟩)], args := #[] }] (.panicking ch1) w10))))
    (fun ch w4 => R (.panicked ch) w4))
def view_Fields_H : Hints := [(1018, [(11, .int .i64), (30, .int .i64)]), (1042842, [(11, .int .i64), (14, .int .i64), (35, .int .i64)])]
set_option maxRecDepth 100000 in
theorem view_Fields_of (bA : Option Addr) (bn : Nat) (bc : Nat) (at_ : Int) (widthsA : Option Addr) (widthsn : Nat) (widthsc : Nat) (w : World) (R : Ending → World → Prop) (hvc_ : view_Fields_VC bA bn bc at_ widthsA widthsn widthsc w R) :
    Calls Tryz.prog 108 #[.slice bA bn bc, .int .i64 at_, .slice widthsA widthsn widthsc] w R :=
  calls_of_wpc callOk mixedOk (H := view_Fields_H) (args := [.slice bA bn bc, .int .i64 at_, .slice widthsA widthsn widthsc]) (fn := Tryz.f108) (c := bodyOf Tryz.f108) Tryz.func108 rfl (Nat.le_of_ble_eq_true rfl)
    (Eq.mp (by kernel_rfl : view_Fields_VC bA bn bc at_ widthsA widthsn widthsc w R = wpc Tryz.prog callF Tryz.f108.ntmps view_Fields_H 1 (bodyOf Tryz.f108) (argEnv 0 [.slice bA bn bc, .int .i64 at_, .slice widthsA widthsn widthsc]) [] w (finish Tryz.prog callF Tryz.f108.results.toList R)) hvc_)

set_option maxRecDepth 100000 in
def view_bits_L122 (R : Ending → World → Prop) (widthsA : Option Addr) (widthsn : Nat) (all : Int) (t12_ : Int) (w1 : World) (K122 : (Int × Int → World → Prop)) : Prop :=
  Br (decide (t12_ < (widthsn : Int)))
    (IdxVC widthsA widthsn 1 t12_ fun a =>
  ∃ x : Int, w1.cell? a = some (.int .i64 x) ∧
  Br (decide (x < 1))
    (R (.returned (.tuple #[.int .i64 0, .int .i64 11])) w1)
    (Br (decide ((32 : Int) < x))
    (R (.returned (.tuple #[.int .i64 0, .int .i64 11])) w1)
    (K122 (IntKind.i64.wrap (all + x), IntKind.i64.wrap (t12_ + 1)) w1)))
    (Br (decide (Int.tmod all 8 ≠ 0))
    (R (.returned (.tuple #[.int .i64 0, .int .i64 11])) w1)
    (R (.returned (.tuple #[.int .i64 (IntKind.i64.wrap (Int.tdiv all 8)), .int .i64 0])) w1))
set_option maxRecDepth 100000 in
def view_bits_VC (widthsA : Option Addr) (widthsn : Nat) (_widthsc : Nat) (w : World) (R : Ending → World → Prop) : Prop :=
  Br (decide ((64 : Int) < (widthsn : Int)))
    (R (.returned (.tuple #[.int .i64 0, .int .i64 11])) w)
    (LoopVC (S := Int × Int) (fun s_ w1 K122 => view_bits_L122 R widthsA widthsn s_.1 s_.2 w1 K122) (0, 0) w)
def view_bits_H : Hints := [(122, [(4, .int .i64), (12, .int .i64)])]
set_option maxRecDepth 100000 in
theorem view_bits_of (widthsA : Option Addr) (widthsn : Nat) (widthsc : Nat) (w : World) (R : Ending → World → Prop) (hvc_ : view_bits_VC widthsA widthsn widthsc w R) :
    Calls Tryz.prog 85 #[.slice widthsA widthsn widthsc] w R :=
  calls_of_wpc callOk mixedOk (H := view_bits_H) (args := [.slice widthsA widthsn widthsc]) (fn := Tryz.f85) (c := bodyOf Tryz.f85) Tryz.func85 rfl (Nat.le_of_ble_eq_true rfl)
    (Eq.mp (by kernel_rfl : view_bits_VC widthsA widthsn widthsc w R = wpc Tryz.prog callF Tryz.f85.ntmps view_bits_H 1 (bodyOf Tryz.f85) (argEnv 0 [.slice widthsA widthsn widthsc]) [] w (finish Tryz.prog callF Tryz.f85.results.toList R)) hvc_)

set_option maxRecDepth 100000 in
def view_Pack_L1042846 (x0 : Int) (g1 : Nat) (t31_ : Int) (K1018 : (Int × Int → World → Prop)) (x2 : Int) (bit1 : Int) (k : Int) (w4 : World) (K1042846 : (Int × Int → World → Prop)) : Prop :=
  Br (decide ((0 : Int) ≤ k))
    (IdxVC (some ⟨g1, 0, none⟩) x0.toNat 1 (IntKind.i64.wrap (Int.tdiv bit1 8)) fun a2 =>
  ∃ x3 : Int, w4.cell? a2 = some (.int .u8 x3) ∧
  ShVC (IntKind.u64.wrap k) (
  ShVC (IntKind.u64.wrap (7 - IntKind.u64.wrap (Int.tmod bit1 8))) (
  IdxVC (some ⟨g1, 0, none⟩) x0.toNat 1 (IntKind.i64.wrap (Int.tdiv bit1 8)) fun a3 =>
  SetVC w4 a3 (.int .u8 (bitv .or .u8 x3 (IntKind.u8.wrap (IntKind.u8.wrap (bitv .and .i64 (Int.fdiv x2 (2 ^ (min ((IntKind.u64.wrap k).toNat) 64))) 1) * 2 ^ (min ((IntKind.u64.wrap (7 - IntKind.u64.wrap (Int.tmod bit1 8))).toNat) 8))))) fun w5 =>
  K1042846 (IntKind.i64.wrap (bit1 + 1), IntKind.i64.wrap (k - 1)) w5)))
    (K1018 (bit1, IntKind.i64.wrap (t31_ + 1)) w4)
set_option maxRecDepth 100000 in
def view_Pack_L1018 (R : Ending → World → Prop) (widthsA : Option Addr) (widthsn : Nat) (valuesA : Option Addr) (valuesn : Nat) (x0 : Int) (g1 : Nat) (bit : Int) (t31_ : Int) (w3 : World) (K1018 : (Int × Int → World → Prop)) : Prop :=
  Br (decide (t31_ < (widthsn : Int)))
    (IdxVC widthsA widthsn 1 t31_ fun a =>
  ∃ x : Int, w3.cell? a = some (.int .i64 x) ∧
  IdxVC valuesA valuesn 1 t31_ fun a1 =>
  ∃ x2 : Int, w3.cell? a1 = some (.int .i64 x2) ∧
  Br (decide (x2 < 0))
    (R (.returned (.tuple #[.slice none 0 0, .int .i64 12])) w3)
    (ShVC (IntKind.u64.wrap x) (
    Br (decide (Int.fdiv x2 (2 ^ (min ((IntKind.u64.wrap x).toNat) 64)) ≠ 0))
    (R (.returned (.tuple #[.slice none 0 0, .int .i64 12])) w3)
    (LoopVC (S := Int × Int) (fun s_ w4 K1042846 => view_Pack_L1042846 x0 g1 t31_ K1018 x2 s_.1 s_.2 w4 K1042846) (bit, IntKind.i64.wrap (x - 1)) w3))))
    (R (.returned (.tuple #[.slice (some ⟨g1, 0, none⟩) x0.toNat x0.toNat, .int .i64 0])) w3)
set_option maxRecDepth 100000 in
def view_Pack_VC (widthsA : Option Addr) (widthsn : Nat) (widthsc : Nat) (valuesA : Option Addr) (valuesn : Nat) (_valuesc : Nat) (w : World) (R : Ending → World → Prop) : Prop :=
  Calls Tryz.prog 85 #[.slice widthsA widthsn widthsc] w (onRet (fun r_ w1 => ∃ x0 : Int, ∃ x1 : Int, r_ = .tuple #[.int .i64 x0, .int .i64 x1] ∧
  Br (decide (x1 ≠ 0))
    (R (.returned (.tuple #[.slice none 0 0, .int .i64 x1])) w1)
    (Br (decide ((valuesn : Int) ≠ (widthsn : Int)))
    (R (.returned (.tuple #[.slice none 0 0, .int .i64 1])) w1)
    (MakeVC w1 5 1 [.int .u8 0] x0 x0 fun g1 w2 =>
  LoopVC (S := Int × Int) (fun s_ w3 K1018 => view_Pack_L1018 R widthsA widthsn valuesA valuesn x0 g1 s_.1 s_.2 w3 K1018) (0, 0) w2)))
    (fun ch w1 => R (.panicked ch) w1))
def view_Pack_H : Hints := [(1018, [(9, .int .i64), (31, .int .i64)]), (1042846, [(9, .int .i64), (13, .int .i64)])]
set_option maxRecDepth 100000 in
theorem view_Pack_of (widthsA : Option Addr) (widthsn : Nat) (widthsc : Nat) (valuesA : Option Addr) (valuesn : Nat) (valuesc : Nat) (w : World) (R : Ending → World → Prop) (hvc_ : view_Pack_VC widthsA widthsn widthsc valuesA valuesn valuesc w R) :
    Calls Tryz.prog 72 #[.slice widthsA widthsn widthsc, .slice valuesA valuesn valuesc] w R :=
  calls_of_wpc callOk mixedOk (H := view_Pack_H) (args := [.slice widthsA widthsn widthsc, .slice valuesA valuesn valuesc]) (fn := Tryz.f72) (c := bodyOf Tryz.f72) Tryz.func72 rfl (Nat.le_of_ble_eq_true rfl)
    (Eq.mp (by kernel_rfl : view_Pack_VC widthsA widthsn widthsc valuesA valuesn valuesc w R = wpc Tryz.prog callF Tryz.f72.ntmps view_Pack_H 1 (bodyOf Tryz.f72) (argEnv 0 [.slice widthsA widthsn widthsc, .slice valuesA valuesn valuesc]) [] w (finish Tryz.prog callF Tryz.f72.results.toList R)) hvc_)

set_option maxRecDepth 100000 in
def view_sized_VC (n : Int) (w : World) (R : Ending → World → Prop) : Prop :=
  Br (decide ((1 : Int) ≤ n))
    (R (.returned (.bool (decide (n ≤ 8)))) w)
    (R (.returned (.bool false)) w)
def view_sized_H : Hints := []
set_option maxRecDepth 100000 in
theorem view_sized_of (n : Int) (w : World) (R : Ending → World → Prop) (hvc_ : view_sized_VC n w R) :
    Calls Tryz.prog 126 #[.int .i64 n] w R :=
  calls_of_wpc callOk mixedOk (H := view_sized_H) (args := [.int .i64 n]) (fn := Tryz.f126) (c := bodyOf Tryz.f126) Tryz.func126 rfl (Nat.le_of_ble_eq_true rfl)
    (Eq.mp (by kernel_rfl : view_sized_VC n w R = wpc Tryz.prog callF Tryz.f126.ntmps view_sized_H 1 (bodyOf Tryz.f126) (argEnv 0 [.int .i64 n]) [] w (finish Tryz.prog callF Tryz.f126.results.toList R)) hvc_)

set_option maxRecDepth 100000 in
def view_At_VC (bA : Option Addr) (bn : Nat) (bc : Nat) (w : World) (R : Ending → World → Prop) : Prop :=
  NewVC w (.cells #[.slice bA bn bc, .int .i64 0] 180) fun g1 w1 =>
  R (.returned (.pointer (some ⟨g1, 0, none⟩))) w1
def view_At_H : Hints := []
set_option maxRecDepth 100000 in
theorem view_At_of (bA : Option Addr) (bn : Nat) (bc : Nat) (w : World) (R : Ending → World → Prop) (hvc_ : view_At_VC bA bn bc w R) :
    Calls Tryz.prog 88 #[.slice bA bn bc] w R :=
  calls_of_wpc callOk mixedOk (H := view_At_H) (args := [.slice bA bn bc]) (fn := Tryz.f88) (c := bodyOf Tryz.f88) Tryz.func88 rfl (Nat.le_of_ble_eq_true rfl)
    (Eq.mp (by kernel_rfl : view_At_VC bA bn bc w R = wpc Tryz.prog callF Tryz.f88.ntmps view_At_H 1 (bodyOf Tryz.f88) (argEnv 0 [.slice bA bn bc]) [] w (finish Tryz.prog callF Tryz.f88.results.toList R)) hvc_)
end Go.Proofs.YthhgbpmihhljdaaGreatDoor
