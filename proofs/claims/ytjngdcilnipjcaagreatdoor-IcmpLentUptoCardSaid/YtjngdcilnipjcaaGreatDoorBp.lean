/- WRITTEN BY a program of this session (vc.py): for each Go function the condition that is enough for its contract, and the theorem that it is. -/
import Derived.Test.YtjngdcilnipjcaaGreatDoorProg
import Derived.Test.YtjngdcilnipjcaaGreatDoorBq
import Derived.Test.YtjngdcilnipjcaaGreatDoorBk
import Derived.Test.YtjngdcilnipjcaaGreatDoorBe
import Derived.Test.YtjngdcilnipjcaaGreatDoorBj
import Derived.Test.YtjngdcilnipjcaaGreatDoorBn
import Derived.Test.YtjngdcilnipjcaaGreatDoorBm
import Derived.Test.YtjngdcilnipjcaaGreatDoorBl
namespace Go.Proofs.YtjngdcilnipjcaaGreatDoor
set_option maxRecDepth 100000
open Go.Eng
namespace N6
def icmp_isTrouble_VC (t : TrbV) (v_ : Int) (w : World) (R : EWP) : Prop := NewVC w (.cells t.cells.toArray 29) fun g1 w1 => ∃ x, w1.cell? (ad_ g1 0) = some (I6 x) ∧ Br (decide (x < 1)) (R (.returned (.bool false)) w1) (∃ x1, w1.cell? (ad_ g1 0) = some (I6 x1) ∧ Br (decide ((7 : Int) < x1))
 (R (.returned (.bool false)) w1) (∃ x2, w1.cell? (ad_ g1 1) = some (I6 x2) ∧ Br (decide (x2 < 0)) (R (.returned (.bool false)) w1) (Br (decide (v_ = 4)) (DrawVC w1 fun S1 w2 => ∃ x3, (∀ w' : World, S1 w' → w'.cell? ⟨g1, 1, none⟩ = some (I6 x3)) ∧
 ∃ xA xn xc, (∀ w' : World, S1 w' → w'.cell? ⟨0, 0, none⟩ = some (.slice xA xn xc)) ∧ ∃ x4, (∀ w' : World, S1 w' → w'.cell? ⟨g1, 0, none⟩ = some (I6 x4)) ∧ IdxVC xA xn 7 x4 fun a => ∃ x5, (∀ w' : World, S1 w' → w'.cell? (a.add 4) = some (I6 x5)) ∧ R (.returned (.bool (decide (x3 ≤ x5)))) w2)
 (DrawVC w1 fun S2 w3 => ∃ x6, (∀ w' : World, S2 w' → w'.cell? ⟨g1, 1, none⟩ = some (I6 x6)) ∧ ∃ xA1 xn1 xc1, (∀ w' : World, S2 w' → w'.cell? ⟨0, 0, none⟩ = some (.slice xA1 xn1 xc1)) ∧ ∃ x7, (∀ w' : World, S2 w' → w'.cell? ⟨g1, 0, none⟩ = some (I6 x7)) ∧ IdxVC xA1 xn1 7 x7 fun a1 =>
 ∃ x8, (∀ w' : World, S2 w' → w'.cell? (a1.add 5) = some (I6 x8)) ∧ R (.returned (.bool (decide (x6 ≤ x8)))) w3))))
def icmp_isTrouble_H : Hints := []
theorem icmp_isTrouble_of (t : TrbV) (v_ : Int) (w : World) (R : EWP) (h_ : icmp_isTrouble_VC t v_ w R) : Calls Tryz.prog 44 #[t.val, I6 v_] w R := calls_of_wpc callOk mixedOk (H := icmp_isTrouble_H) (c := bodyOf Tryz.f44) Tryz.func44 rfl (nb_ rfl)
 (Eq.mp (by kernel_rfl) h_)
def icmp_mayBeTold_VC (src : IPV) (w : World) (R : EWP) : Prop := NewVC w (.cells src.cells.toArray 24) fun g1 w1 => IPV.ex fun h => CA_ w1 g1 h.cells ∧ Calls Tryz.prog 46 #[h.val] w1 (onRet (fun r_ w2 => ∃ x, r_ = I6 x ∧ Br (decide (x = 7)) (R (.returned (.bool true)) w2)
 (R (.returned (.bool (decide (x = 4)))) w2)) (pn_ R))
def icmp_mayBeTold_H : Hints := []
theorem icmp_mayBeTold_of (src : IPV) (w : World) (R : EWP) (h_ : icmp_mayBeTold_VC src w R) : Calls Tryz.prog 47 #[src.val] w R := calls_of_wpc callOk mixedOk (H := icmp_mayBeTold_H) (c := bodyOf Tryz.f47) Tryz.func47 rfl (nb_ rfl)
 (Eq.mp (by kernel_rfl) h_)
def icmp_cut_VC (bA : Option Addr) (bn bc : Nat) (n : Int) (w : World) (R : EWP) : Prop := SliceVC bA bn bc 1 none (some (if (bn : Int) < n then (bn : Int) else n)) (some (if (bn : Int) < n then (bn : Int) else n)) fun sA sn sc => R (.returned (.slice sA sn sc)) w
def icmp_cut_H : Hints := []
theorem icmp_cut_of (bA : Option Addr) (bn bc : Nat) (n : Int) (w : World) (R : EWP) (h_ : icmp_cut_VC bA bn bc n w R) : Calls Tryz.prog 48 #[.slice bA bn bc, I6 n] w R :=
 calls_of_wpc callOk mixedOk (H := icmp_cut_H) (c := bodyOf Tryz.f48) Tryz.func48 rfl (nb_ rfl) (Eq.mp (by kernel_rfl) h_)
def icmp_Complain4_J62 (R : EWP) (g2 g3 : Nat) (J31 : (Unit → World → Prop)) (t34_ : Bool) (w9 : World) : Prop := Br t34_ (∃ xA1 xn1 xc1, w9.cell? (ad_ g2 42) = some (.slice xA1 xn1 xc1) ∧ IdxVC xA1 xn1 1 0 fun a => ∃ x3, w9.cell? a = some (U8 x3) ∧ Br (decide (x3 = 3)) (Br (decide (x3 = 3))
 (St_ g3 (IcmV.z : IcmV).cells w9 fun w10 => IcmV.ex fun res3 => CA_ w10 g3 res3.cells ∧ R (.returned (.tuple #[res3.val, .bool false])) w10) (J31 () w9)) (Br (decide (x3 = 4)) (Br (decide (x3 = 4)) (St_ g3 (IcmV.z : IcmV).cells w9 fun w11 => IcmV.ex fun res4 => CA_ w11 g3 res4.cells ∧
 R (.returned (.tuple #[res4.val, .bool false])) w11) (J31 () w9)) (Br (decide (x3 = 5)) (Br (decide (x3 = 5)) (St_ g3 (IcmV.z : IcmV).cells w9 fun w12 => IcmV.ex fun res5 => CA_ w12 g3 res5.cells ∧ R (.returned (.tuple #[res5.val, .bool false])) w12) (J31 () w9)) (Br (decide (x3 = 11))
 (Br (decide (x3 = 11)) (St_ g3 (IcmV.z : IcmV).cells w9 fun w13 => IcmV.ex fun res6 => CA_ w13 g3 res6.cells ∧ R (.returned (.tuple #[res6.val, .bool false])) w13) (J31 () w9)) (Br (decide (x3 = 12)) (St_ g3 (IcmV.z : IcmV).cells w9 fun w14 => IcmV.ex fun res7 => CA_ w14 g3 res7.cells ∧
 R (.returned (.tuple #[res7.val, .bool false])) w14) (J31 () w9)))))) (J31 () w9)
def icmp_Complain4_J63 (R : EWP) (g1 g2 g3 : Nat) (x0A : Option Addr) (x0n x0c : Nat)  (w22 : World) : Prop := IPV.ex fun h3 => CellsAt w22 ⟨g2, 7, none⟩ 0 h3.cells ∧ Calls Tryz.prog 47 #[h3.val] w22 (onRet (fun r_3 w23 => ∃ x5, r_3 = .bool x5 ∧ Br (!x5) (St_ g3 (IcmV.z : IcmV).cells w23 fun w24 =>
 IcmV.ex fun res13 => CA_ w24 g3 res13.cells ∧ R (.returned (.tuple #[res13.val, .bool false])) w24) (∃ xA2 xn2 xc2, w23.cell? ⟨0, 0, none⟩ = some (.slice xA2 xn2 xc2) ∧ ∃ x6, w23.cell? (ad_ g1 0) = some (I6 x6) ∧ IdxVC xA2 xn2 7 x6 fun a1 =>
 ∃ x0 x12 x21 x31 x41 x51 x61, CellsAt w23 a1 0 [I6 x0, I6 x12, I6 x21, I6 x31, I6 x41, I6 x51, I6 x61] ∧ NewVC w23 (.cells #[I6 0, I6 0, I6 0, I6 0, I6 0, I6 0, I6 0] 88) fun g4 w25 => St_ g4 [I6 x0, I6 x12, I6 x21, I6 x31, I6 x41, I6 x51, I6 x61] w25 fun w26 => DrawVC w26 fun S1 w27 =>
 ∃ x7, (∀ w' : World, S1 w' → w'.cell? ⟨g4, 0, none⟩ = some (I6 x7)) ∧ ∃ x8, (∀ w' : World, S1 w' → w'.cell? ⟨g4, 1, none⟩ = some (I6 x8)) ∧ ∃ x9, (∀ w' : World, S1 w' → w'.cell? ⟨g1, 1, none⟩ = some (I6 x9)) ∧ ∃ x10, (∀ w' : World, S1 w' → w'.cell? ⟨g4, 6, none⟩ = some (I6 x10)) ∧ ShVC x10 (
 Calls Tryz.prog 48 #[.slice x0A x0n x0c, I6 548] w27 (onRet (fun r_4 w28 => ∃ xA3 xn3 xc3, r_4 = .slice xA3 xn3 xc3 ∧ S1 w28 ∧ St_ g3 [I6 4, I6 x7, I6 x8, I6 (IntKind.i64.wrap (x9 * 2 ^ (min x10.toNat 64))), .slice xA3 xn3 xc3] w28 fun w29 => S1 w29 ∧ IcmV.ex fun res14 => CA_ w29 g3 res14.cells ∧
 R (.returned (.tuple #[res14.val, .bool true])) w29) (fun _ _ => False))))) (pn_ R))
def icmp_Complain4_J31 (R : EWP) (g1 g2 g3 : Nat) (x0A : Option Addr) (x0n x0c : Nat)  (w15 : World) : Prop := JoinVC (S := Unit) (fun J63 => IPV.ex fun h2 => CellsAt w15 ⟨g2, 24, none⟩ 0 h2.cells ∧ Calls Tryz.prog 46 #[h2.val] w15 (onRet (fun r_2 w16 => ∃ x4, r_2 = I6 x4 ∧ Br (decide (x4 = 7))
 (Br (decide (x4 = 7)) (J63 () w16) (St_ g3 (IcmV.z : IcmV).cells w16 fun w17 => IcmV.ex fun res8 => CA_ w17 g3 res8.cells ∧ R (.returned (.tuple #[res8.val, .bool false])) w17)) (Br (decide (x4 = 4)) (Br (decide (x4 = 4)) (J63 () w16) (St_ g3 (IcmV.z : IcmV).cells w16 fun w18 =>
 IcmV.ex fun res9 => CA_ w18 g3 res9.cells ∧ R (.returned (.tuple #[res9.val, .bool false])) w18)) (Br (decide (x4 = 2)) (Br (decide (x4 = 2)) (J63 () w16) (St_ g3 (IcmV.z : IcmV).cells w16 fun w19 => IcmV.ex fun res10 => CA_ w19 g3 res10.cells ∧
 R (.returned (.tuple #[res10.val, .bool false])) w19)) (Br (decide (x4 = 1)) (Br (decide (x4 = 1)) (J63 () w16) (St_ g3 (IcmV.z : IcmV).cells w16 fun w20 => IcmV.ex fun res11 => CA_ w20 g3 res11.cells ∧ R (.returned (.tuple #[res11.val, .bool false])) w20)) (Br (decide (x4 = 6)) (J63 () w16)
 (St_ g3 (IcmV.z : IcmV).cells w16 fun w21 => IcmV.ex fun res12 => CA_ w21 g3 res12.cells ∧ R (.returned (.tuple #[res12.val, .bool false])) w21)))))) (pn_ R))) (fun _ w22 => icmp_Complain4_J63 R g1 g2 g3 x0A x0n x0c w22)
def icmp_Complain4_VC (t : TrbV) (orig : Ip4V) (w : World) (R : EWP) : Prop := NewVC w (.cells t.cells.toArray 29) fun g1 w1 => NewVC w1 (.cells orig.cells.toArray 32) fun g2 w2 => NewVC w2 (.cells (IcmV.z : IcmV).cells.toArray 27) fun g3 w3 => TrbV.ex fun h => CA_ w3 g1 h.cells ∧
 Calls Tryz.prog 44 #[h.val, I6 4] w3 (onRet (fun r_ w4 => ∃ x, r_ = .bool x ∧ Br (!x) (St_ g3 (IcmV.z : IcmV).cells w4 fun w5 => IcmV.ex fun res => CA_ w5 g3 res.cells ∧ R (.returned (.tuple #[res.val, .bool false])) w5) (∃ x1, w4.cell? (ad_ g2 4) = some (I6 x1) ∧ Br (decide ((0 : Int) < x1))
 (St_ g3 (IcmV.z : IcmV).cells w4 fun w6 => IcmV.ex fun res1 => CA_ w6 g3 res1.cells ∧ R (.returned (.tuple #[res1.val, .bool false])) w6) (Ip4V.ex fun h1 => CA_ w4 g2 h1.cells ∧ Calls Tryz.prog 45 #[h1.val] w4 (onRet (fun r_1 w7 => ∃ x0A x0n x0c x11, r_1 = .tuple #[.slice x0A x0n x0c, I6 x11] ∧
 Br (decide (x11 ≠ 0)) (St_ g3 (IcmV.z : IcmV).cells w7 fun w8 => IcmV.ex fun res2 => CA_ w8 g3 res2.cells ∧ R (.returned (.tuple #[res2.val, .bool false])) w8) (JoinVC (S := Unit) (fun J31 => JoinVC (S := Bool) (fun J62 => ∃ x2, w7.cell? (ad_ g2 6) = some (I6 x2) ∧ Br (decide (x2 = 1))
 (∃ xA xn xc, w7.cell? (ad_ g2 42) = some (.slice xA xn xc) ∧ J62 (decide ((0 : Int) < (xn : Int))) w7) (J62 false w7)) (fun s_ w9 => icmp_Complain4_J62 R g2 g3 J31 s_ w9)) (fun _ w15 => icmp_Complain4_J31 R g1 g2 g3 x0A x0n x0c w15))) (pn_ R))))) (pn_ R))
def icmp_Complain4_H : Hints := [(62, [(34, .bool)]), (31, []), (63, [])]
theorem icmp_Complain4_of (t : TrbV) (orig : Ip4V) (w : World) (R : EWP) (h_ : icmp_Complain4_VC t orig w R) : Calls Tryz.prog 14 #[t.val, orig.val] w R :=
 calls_of_wpc callOk mixedOk (H := icmp_Complain4_H) (c := bodyOf Tryz.f14) Tryz.func14 rfl (nb_ rfl) (Eq.mp (by kernel_rfl) h_)
def icmp_Complain6_J63 (R : EWP) (g1 g3 : Nat) (x0A : Option Addr) (x0n x0c : Nat)  (w19 : World) : Prop := ∃ xA3 xn3 xc3, w19.cell? ⟨0, 0, none⟩ = some (.slice xA3 xn3 xc3) ∧ ∃ x10, w19.cell? (ad_ g1 0) = some (I6 x10) ∧ IdxVC xA3 xn3 7 x10 fun a2 =>
 ∃ x0 x12 x21 x31 x41 x51 x61, CellsAt w19 a2 0 [I6 x0, I6 x12, I6 x21, I6 x31, I6 x41, I6 x51, I6 x61] ∧ NewVC w19 (.cells #[I6 0, I6 0, I6 0, I6 0, I6 0, I6 0, I6 0] 88) fun g4 w20 => St_ g4 [I6 x0, I6 x12, I6 x21, I6 x31, I6 x41, I6 x51, I6 x61] w20 fun w21 => DrawVC w21 fun S1 w22 =>
 ∃ x13, (∀ w' : World, S1 w' → w'.cell? ⟨g4, 2, none⟩ = some (I6 x13)) ∧ ∃ x14, (∀ w' : World, S1 w' → w'.cell? ⟨g4, 3, none⟩ = some (I6 x14)) ∧ ∃ x15, (∀ w' : World, S1 w' → w'.cell? ⟨g1, 1, none⟩ = some (I6 x15)) ∧
 Calls Tryz.prog 48 #[.slice x0A x0n x0c, I6 1232] w22 (onRet (fun r_5 w23 => ∃ xA4 xn4 xc4, r_5 = .slice xA4 xn4 xc4 ∧ S1 w23 ∧ St_ g3 [I6 6, I6 x13, I6 x14, I6 x15, .slice xA4 xn4 xc4] w23 fun w24 => S1 w24 ∧ IcmV.ex fun res8 => CA_ w24 g3 res8.cells ∧
 R (.returned (.tuple #[res8.val, .bool true])) w24) (fun _ _ => False))
def icmp_Complain6_J31 (R : EWP) (g1 g2 g3 : Nat) (x0A : Option Addr) (x0n x0c : Nat)  (w12 : World) : Prop := JoinVC (S := Unit) (fun J63 => IPV.ex fun h2 => CellsAt w12 ⟨g2, 20, none⟩ 0 h2.cells ∧ Calls Tryz.prog 46 #[h2.val] w12 (onRet (fun r_2 w13 => ∃ x6, r_2 = I6 x6 ∧ Br (decide (x6 = 3))
 (∃ x7, w13.cell? (ad_ g1 0) = some (I6 x7) ∧ Br (decide (x7 ≠ 4)) (St_ g3 (IcmV.z : IcmV).cells w13 fun w14 => IcmV.ex fun res5 => CA_ w14 g3 res5.cells ∧ R (.returned (.tuple #[res5.val, .bool false])) w14) (IPV.ex fun h3 => CellsAt w13 ⟨g2, 3, none⟩ 0 h3.cells ∧
 Calls Tryz.prog 47 #[h3.val] w13 (onRet (fun r_3 w15 => ∃ x8, r_3 = .bool x8 ∧ Br (!x8) (St_ g3 (IcmV.z : IcmV).cells w15 fun w16 => IcmV.ex fun res6 => CA_ w16 g3 res6.cells ∧ R (.returned (.tuple #[res6.val, .bool false])) w16) (J63 () w15)) (pn_ R))))
 (IPV.ex fun h4 => CellsAt w13 ⟨g2, 3, none⟩ 0 h4.cells ∧ Calls Tryz.prog 47 #[h4.val] w13 (onRet (fun r_4 w17 => ∃ x9, r_4 = .bool x9 ∧ Br (!x9) (St_ g3 (IcmV.z : IcmV).cells w17 fun w18 => IcmV.ex fun res7 => CA_ w18 g3 res7.cells ∧ R (.returned (.tuple #[res7.val, .bool false])) w18)
 (J63 () w17)) (pn_ R)))) (pn_ R))) (fun _ w19 => icmp_Complain6_J63 R g1 g3 x0A x0n x0c w19)
def icmp_Complain6_J3 (R : EWP) (g1 g2 g3 : Nat)  (w7 : World) : Prop := Ip6V.ex fun h1 => CA_ w7 g2 h1.cells ∧ Calls Tryz.prog 49 #[h1.val] w7 (onRet (fun r_1 w8 => ∃ x0A x0n x0c x11, r_1 = .tuple #[.slice x0A x0n x0c, I6 x11] ∧ Br (decide (x11 ≠ 0)) (St_ g3 (IcmV.z : IcmV).cells w8 fun w9 =>
 IcmV.ex fun res2 => CA_ w9 g3 res2.cells ∧ R (.returned (.tuple #[res2.val, .bool false])) w9) (JoinVC (S := Unit) (fun J31 => ∃ x3, w8.cell? (ad_ g2 42) = some (I6 x3) ∧ Br (decide (x3 = 58)) (∃ xA xn xc, w8.cell? (ad_ g2 43) = some (.slice xA xn xc) ∧ Br (decide ((0 : Int) < (xn : Int)))
 (∃ xA1 xn1 xc1, w8.cell? (ad_ g2 43) = some (.slice xA1 xn1 xc1) ∧ IdxVC xA1 xn1 1 0 fun a => ∃ x4, w8.cell? a = some (U8 x4) ∧ Br (decide (x4 < 128)) (St_ g3 (IcmV.z : IcmV).cells w8 fun w10 => IcmV.ex fun res3 => CA_ w10 g3 res3.cells ∧ R (.returned (.tuple #[res3.val, .bool false])) w10)
 (∃ xA2 xn2 xc2, w8.cell? (ad_ g2 43) = some (.slice xA2 xn2 xc2) ∧ IdxVC xA2 xn2 1 0 fun a1 => ∃ x5, w8.cell? a1 = some (U8 x5) ∧ Br (decide (x5 = 137)) (St_ g3 (IcmV.z : IcmV).cells w8 fun w11 => IcmV.ex fun res4 => CA_ w11 g3 res4.cells ∧ R (.returned (.tuple #[res4.val, .bool false])) w11)
 (J31 () w8))) (J31 () w8)) (J31 () w8)) (fun _ w12 => icmp_Complain6_J31 R g1 g2 g3 x0A x0n x0c w12))) (pn_ R))
def icmp_Complain6_VC (t : TrbV) (orig : Ip6V) (w : World) (R : EWP) : Prop := NewVC w (.cells t.cells.toArray 29) fun g1 w1 => NewVC w1 (.cells orig.cells.toArray 37) fun g2 w2 => NewVC w2 (.cells (IcmV.z : IcmV).cells.toArray 27) fun g3 w3 => JoinVC (S := Unit) (fun J3 =>
 TrbV.ex fun h => CA_ w3 g1 h.cells ∧ Calls Tryz.prog 44 #[h.val, I6 6] w3 (onRet (fun r_ w4 => ∃ x, r_ = .bool x ∧ Br (!x) (St_ g3 (IcmV.z : IcmV).cells w4 fun w5 => IcmV.ex fun res => CA_ w5 g3 res.cells ∧ R (.returned (.tuple #[res.val, .bool false])) w5)
 (∃ x1, w4.cell? (ad_ g2 38) = some (.bool x1) ∧ Br x1 (∃ x2, w4.cell? (ad_ g2 41) = some (I6 x2) ∧ Br (decide ((0 : Int) < x2)) (St_ g3 (IcmV.z : IcmV).cells w4 fun w6 => IcmV.ex fun res1 => CA_ w6 g3 res1.cells ∧ R (.returned (.tuple #[res1.val, .bool false])) w6) (J3 () w4)) (J3 () w4)))
 (pn_ R))) (fun _ w7 => icmp_Complain6_J3 R g1 g2 g3 w7)
def icmp_Complain6_H : Hints := [(3, []), (31, []), (63, [])]
theorem icmp_Complain6_of (t : TrbV) (orig : Ip6V) (w : World) (R : EWP) (h_ : icmp_Complain6_VC t orig w R) : Calls Tryz.prog 15 #[t.val, orig.val] w R :=
 calls_of_wpc callOk mixedOk (H := icmp_Complain6_H) (c := bodyOf Tryz.f15) Tryz.func15 rfl (nb_ rfl) (Eq.mp (by kernel_rfl) h_)
def weirref8_trouble_J26 (R : EWP) (v_ : Int) (g1 : Nat) (x : Int) (t7_ : Bool) (w2 : World) : Prop := Br t7_ (∃ x1, w2.cell? (ad_ g1 1) = some (I6 x1) ∧ R (.returned (.bool (decide (x1 = 0)))) w2) (Br (decide (x = 4)) (∃ x2, w2.cell? (ad_ g1 1) = some (I6 x2) ∧ Br (decide ((0 : Int) ≤ x2))
 (∃ x3, w2.cell? (ad_ g1 1) = some (I6 x3) ∧ R (.returned (.bool (decide (x3 ≤ 65535)))) w2) (R (.returned (.bool false)) w2)) (Br (decide (x = 7)) (∃ x4, w2.cell? (ad_ g1 1) = some (I6 x4) ∧ Br (decide ((0 : Int) ≤ x4)) (∃ x5, w2.cell? (ad_ g1 1) = some (I6 x5) ∧ Br (decide (x5 ≤ 255))
 (R (.returned (.bool true)) w2) (Br (decide (v_ = 6)) (∃ x6, w2.cell? (ad_ g1 1) = some (I6 x6) ∧ R (.returned (.bool (decide (x6 ≤ 65535)))) w2) (R (.returned (.bool false)) w2))) (R (.returned (.bool false)) w2)) (R (.returned (.bool false)) w2)))
def weirref8_trouble_VC (t : TrbV) (v_ : Int) (w : World) (R : EWP) : Prop := NewVC w (.cells t.cells.toArray 29) fun g1 w1 => ∃ x, w1.cell? (ad_ g1 0) = some (I6 x) ∧ JoinVC (S := Bool) (fun J26 => Br (decide (x = 1)) (J26 (decide (x = 1)) w1) (Br (decide (x = 2)) (J26 (decide (x = 2)) w1)
 (Br (decide (x = 3)) (J26 (decide (x = 3)) w1) (Br (decide (x = 5)) (J26 (decide (x = 5)) w1) (J26 (decide (x = 6)) w1))))) (fun s_ w2 => weirref8_trouble_J26 R v_ g1 x s_ w2)
def weirref8_trouble_H : Hints := [(26, [(7, .bool)])]
theorem weirref8_trouble_of (t : TrbV) (v_ : Int) (w : World) (R : EWP) (h_ : weirref8_trouble_VC t v_ w R) : Calls Tryz.prog 32 #[t.val, I6 v_] w R := calls_of_wpc callOk mixedOk (H := weirref8_trouble_H) (c := bodyOf Tryz.f32) Tryz.func32 rfl (nb_ rfl)
 (Eq.mp (by kernel_rfl) h_)
def weirref8_told_VC (t : TrbV) (v_ : Int) (w : World) (R : EWP) : Prop := NewVC w (.cells t.cells.toArray 29) fun g1 w1 => NewVC w1 (.cells (IcmV.z : IcmV).cells.toArray 27) fun g2 w2 =>
 NewVC w2 (.cells #[I6 0, I6 0, I6 0, I6 0, I6 0, I6 0, I6 0, I6 0, I6 0, I6 0, I6 0, I6 0, I6 0, I6 0, I6 0, I6 0] 111) fun g3 w3 => St_ g3 [I6 0, I6 0, I6 3, I6 0, I6 3, I6 1, I6 3, I6 13, I6 3, I6 4, I6 11, I6 0, I6 11, I6 1, I6 12, I6 0] w3 fun w4 =>
 NewVC w4 (.cells #[I6 0, I6 0, I6 0, I6 0, I6 0, I6 0, I6 0, I6 0, I6 0, I6 0, I6 0, I6 0, I6 0, I6 0, I6 0, I6 0] 111) fun g4 w5 => St_ g4 [I6 0, I6 0, I6 1, I6 0, I6 1, I6 3, I6 1, I6 1, I6 2, I6 0, I6 3, I6 0, I6 3, I6 1, I6 4, I6 0] w5 fun w6 => ∃ x, w6.cell? (ad_ g1 0) = some (I6 x) ∧
 IdxVC (sa_ g3) 8 2 x fun a => ∃ x0 x1, CellsAt w6 a 0 [I6 x0, I6 x1] ∧ NewVC w6 (.cells (Hd4V.z : Hd4V).cells.toArray 110) fun g5 w7 => St_ g5 [I6 x0, I6 x1] w7 fun w8 => ∃ x2, w8.cell? (ad_ g1 1) = some (I6 x2) ∧ Br (decide (v_ = 6)) (∃ x3, w8.cell? (ad_ g1 0) = some (I6 x3) ∧
 IdxVC (sa_ g4) 8 2 x3 fun a1 => ∃ x01 x11, CellsAt w8 a1 0 [I6 x01, I6 x11] ∧ St_ g5 [I6 x01, I6 x11] w8 fun w9 => IdxVC (sa_ g5) 2 1 0 fun a2 => ∃ x4, w9.cell? a2 = some (I6 x4) ∧ IdxVC (sa_ g5) 2 1 1 fun a3 => ∃ x5, w9.cell? a3 = some (I6 x5) ∧
 St_ g2 [I6 v_, I6 x4, I6 x5, I6 x2, .slice none 0 0] w9 fun w10 => IcmV.ex fun res => CA_ w10 g2 res.cells ∧ R (.returned res.val) w10) (∃ x6, w8.cell? (ad_ g1 0) = some (I6 x6) ∧ Br (decide (x6 = 7)) (∃ x7, w8.cell? (ad_ g1 1) = some (I6 x7) ∧ IdxVC (sa_ g5) 2 1 0 fun a4 =>
 ∃ x8, w8.cell? a4 = some (I6 x8) ∧ IdxVC (sa_ g5) 2 1 1 fun a5 => ∃ x9, w8.cell? a5 = some (I6 x9) ∧ St_ g2 [I6 v_, I6 x8, I6 x9, I6 (IntKind.i64.wrap (x7 * 16777216)), .slice none 0 0] w8 fun w11 => IcmV.ex fun res1 => CA_ w11 g2 res1.cells ∧ R (.returned res1.val) w11)
 (IdxVC (sa_ g5) 2 1 0 fun a6 => ∃ x10, w8.cell? a6 = some (I6 x10) ∧ IdxVC (sa_ g5) 2 1 1 fun a7 => ∃ x12, w8.cell? a7 = some (I6 x12) ∧ St_ g2 [I6 v_, I6 x10, I6 x12, I6 x2, .slice none 0 0] w8 fun w12 => IcmV.ex fun res2 => CA_ w12 g2 res2.cells ∧ R (.returned res2.val) w12))
def weirref8_told_H : Hints := []
theorem weirref8_told_of (t : TrbV) (v_ : Int) (w : World) (R : EWP) (h_ : weirref8_told_VC t v_ w R) : Calls Tryz.prog 35 #[t.val, I6 v_] w R := calls_of_wpc callOk mixedOk (H := weirref8_told_H) (c := bodyOf Tryz.f35) Tryz.func35 rfl (nb_ rfl)
 (Eq.mp (by kernel_rfl) h_)
def weirref8_some_VC (bA : Option Addr) (bn bc : Nat) (n : Int) (w : World) (R : EWP) : Prop := Br (decide (n < (bn : Int))) (SliceVC bA bn bc 1 none (some n) none fun sA sn sc => R (.returned (.slice sA sn sc)) w) (R (.returned (.slice bA bn bc)) w)
def weirref8_some_H : Hints := []
theorem weirref8_some_of (bA : Option Addr) (bn bc : Nat) (n : Int) (w : World) (R : EWP) (h_ : weirref8_some_VC bA bn bc n w R) : Calls Tryz.prog 36 #[.slice bA bn bc, I6 n] w R :=
 calls_of_wpc callOk mixedOk (H := weirref8_some_H) (c := bodyOf Tryz.f36) Tryz.func36 rfl (nb_ rfl) (Eq.mp (by kernel_rfl) h_)
def weirref8_asks_VC (ip : IPV) (w : World) (R : EWP) : Prop := NewVC w (.cells ip.cells.toArray 24) fun g1 w1 => IPV.ex fun h => CA_ w1 g1 h.cells ∧ Calls Tryz.prog 34 #[h.val] w1 (onRet (fun r_ w2 => ∃ x, r_ = I6 x ∧ Br (decide (x = 7)) (R (.returned (.bool true)) w2)
 (R (.returned (.bool (decide (x = 4)))) w2)) (pn_ R))
def weirref8_asks_H : Hints := []
theorem weirref8_asks_of (ip : IPV) (w : World) (R : EWP) (h_ : weirref8_asks_VC ip w R) : Calls Tryz.prog 33 #[ip.val] w R := calls_of_wpc callOk mixedOk (H := weirref8_asks_H) (c := bodyOf Tryz.f33) Tryz.func33 rfl (nb_ rfl) (Eq.mp (by kernel_rfl) h_)
def weirref8_Complain4_J254 (R : EWP) (g2 g3 g4 : Nat) (J127 : (Unit → World → Prop)) (t54_ : Bool) (w15 : World) : Prop := Br t54_ (∃ xA1 xn1 xc1, w15.cell? (ad_ g2 42) = some (.slice xA1 xn1 xc1) ∧ IdxVC xA1 xn1 1 0 fun a => ∃ x6, w15.cell? a = some (U8 x6) ∧ Br (decide (IntKind.i64.wrap x6 = 3))
 (IcmV.ex fun h11 => CA_ w15 g4 h11.cells ∧ St_ g3 h11.cells w15 fun w16 => IcmV.ex fun res6 => CA_ w16 g3 res6.cells ∧ R (.returned (.tuple #[res6.val, .bool false])) w16) (Br (decide (IntKind.i64.wrap x6 = 4)) (IcmV.ex fun h12 => CA_ w15 g4 h12.cells ∧ St_ g3 h12.cells w15 fun w17 =>
 IcmV.ex fun res7 => CA_ w17 g3 res7.cells ∧ R (.returned (.tuple #[res7.val, .bool false])) w17) (Br (decide (IntKind.i64.wrap x6 = 5)) (IcmV.ex fun h13 => CA_ w15 g4 h13.cells ∧ St_ g3 h13.cells w15 fun w18 => IcmV.ex fun res8 => CA_ w18 g3 res8.cells ∧
 R (.returned (.tuple #[res8.val, .bool false])) w18) (Br (decide (IntKind.i64.wrap x6 = 11)) (IcmV.ex fun h14 => CA_ w15 g4 h14.cells ∧ St_ g3 h14.cells w15 fun w19 => IcmV.ex fun res9 => CA_ w19 g3 res9.cells ∧ R (.returned (.tuple #[res9.val, .bool false])) w19)
 (Br (decide (IntKind.i64.wrap x6 = 12)) (IcmV.ex fun h15 => CA_ w15 g4 h15.cells ∧ St_ g3 h15.cells w15 fun w20 => IcmV.ex fun res10 => CA_ w20 g3 res10.cells ∧ R (.returned (.tuple #[res10.val, .bool false])) w20) (J127 () w15)))))) (J127 () w15)
def weirref8_Complain4_J127 (R : EWP) (g1 g3 : Nat) (x0A : Option Addr) (x0n x0c : Nat)  (w21 : World) : Prop := TrbV.ex fun h16 => CA_ w21 g1 h16.cells ∧ Calls Tryz.prog 35 #[h16.val, I6 4] w21 (onRet (fun r_4 w22 => IcmV.ex fun h17 => r_4 = h17.val ∧
 NewVC w22 (.cells (IcmV.z : IcmV).cells.toArray 27) fun g5 w23 => St_ g5 h17.cells w23 fun w24 => Calls Tryz.prog 36 #[.slice x0A x0n x0c, I6 548] w24 (onRet (fun r_5 w25 => ∃ xA2 xn2 xc2, r_5 = .slice xA2 xn2 xc2 ∧ SetVC w25 ⟨g5, 4, none⟩ (.slice xA2 xn2 xc2) fun w26 =>
 IcmV.ex fun h18 => CA_ w26 g5 h18.cells ∧ St_ g3 h18.cells w26 fun w27 => IcmV.ex fun res11 => CA_ w27 g3 res11.cells ∧ R (.returned (.tuple #[res11.val, .bool true])) w27) (pn_ R))) (pn_ R))
def weirref8_Complain4_VC (t : TrbV) (h : Ip4V) (w : World) (R : EWP) : Prop := NewVC w (.cells t.cells.toArray 29) fun g1 w1 => NewVC w1 (.cells h.cells.toArray 32) fun g2 w2 => NewVC w2 (.cells (IcmV.z : IcmV).cells.toArray 27) fun g3 w3 =>
 NewVC w3 (.cells (IcmV.z : IcmV).cells.toArray 27) fun g4 w4 => Ip4V.ex fun h1 => CA_ w4 g2 h1.cells ∧ Calls Tryz.prog 31 #[h1.val] w4 (onRet (fun r_ w5 => ∃ x0A x0n x0c x1, r_ = .tuple #[.slice x0A x0n x0c, I6 x1] ∧ Br (decide (x1 ≠ 0)) (IcmV.ex fun h2 => CA_ w5 g4 h2.cells ∧
 St_ g3 h2.cells w5 fun w6 => IcmV.ex fun res => CA_ w6 g3 res.cells ∧ R (.returned (.tuple #[res.val, .bool false])) w6) (TrbV.ex fun h3 => CA_ w5 g1 h3.cells ∧ Calls Tryz.prog 32 #[h3.val, I6 4] w5 (onRet (fun r_1 w7 => ∃ x, r_1 = .bool x ∧ Br (!x) (IcmV.ex fun h4 => CA_ w7 g4 h4.cells ∧
 St_ g3 h4.cells w7 fun w8 => IcmV.ex fun res1 => CA_ w8 g3 res1.cells ∧ R (.returned (.tuple #[res1.val, .bool false])) w8) (∃ x2, w7.cell? (ad_ g2 4) = some (I6 x2) ∧ Br (decide ((0 : Int) < x2)) (IcmV.ex fun h5 => CA_ w7 g4 h5.cells ∧ St_ g3 h5.cells w7 fun w9 =>
 IcmV.ex fun res2 => CA_ w9 g3 res2.cells ∧ R (.returned (.tuple #[res2.val, .bool false])) w9) (IPV.ex fun h6 => CellsAt w7 ⟨g2, 7, none⟩ 0 h6.cells ∧ Calls Tryz.prog 33 #[h6.val] w7 (onRet (fun r_2 w10 => ∃ x3, r_2 = .bool x3 ∧ Br (!x3) (IcmV.ex fun h7 => CA_ w10 g4 h7.cells ∧
 St_ g3 h7.cells w10 fun w11 => IcmV.ex fun res3 => CA_ w11 g3 res3.cells ∧ R (.returned (.tuple #[res3.val, .bool false])) w11) (IPV.ex fun h8 => CellsAt w10 ⟨g2, 24, none⟩ 0 h8.cells ∧ Calls Tryz.prog 34 #[h8.val] w10 (onRet (fun r_3 w12 => ∃ x4, r_3 = I6 x4 ∧ Br (decide (x4 = 3))
 (IcmV.ex fun h9 => CA_ w12 g4 h9.cells ∧ St_ g3 h9.cells w12 fun w13 => IcmV.ex fun res4 => CA_ w13 g3 res4.cells ∧ R (.returned (.tuple #[res4.val, .bool false])) w13) (Br (decide (x4 = 5)) (IcmV.ex fun h10 => CA_ w12 g4 h10.cells ∧ St_ g3 h10.cells w12 fun w14 =>
 IcmV.ex fun res5 => CA_ w14 g3 res5.cells ∧ R (.returned (.tuple #[res5.val, .bool false])) w14) (JoinVC (S := Unit) (fun J127 => JoinVC (S := Bool) (fun J254 => ∃ x5, w12.cell? (ad_ g2 6) = some (I6 x5) ∧ Br (decide (x5 = 1)) (∃ xA xn xc, w12.cell? (ad_ g2 42) = some (.slice xA xn xc) ∧
 J254 (decide ((0 : Int) < (xn : Int))) w12) (J254 false w12)) (fun s_ w15 => weirref8_Complain4_J254 R g2 g3 g4 J127 s_ w15)) (fun _ w21 => weirref8_Complain4_J127 R g1 g3 x0A x0n x0c w21)))) (pn_ R)))) (pn_ R))))) (pn_ R)))) (pn_ R))
def weirref8_Complain4_H : Hints := [(254, [(54, .bool)]), (127, [])]
theorem weirref8_Complain4_of (t : TrbV) (h : Ip4V) (w : World) (R : EWP) (h_ : weirref8_Complain4_VC t h w R) : Calls Tryz.prog 10 #[t.val, h.val] w R :=
 calls_of_wpc callOk mixedOk (H := weirref8_Complain4_H) (c := bodyOf Tryz.f10) Tryz.func10 rfl (nb_ rfl) (Eq.mp (by kernel_rfl) h_)
def weirref8_Complain6_J63 (R : EWP) (g1 g3 : Nat) (x0A : Option Addr) (x0n x0c : Nat)  (w17 : World) : Prop := TrbV.ex fun h12 => CA_ w17 g1 h12.cells ∧ Calls Tryz.prog 35 #[h12.val, I6 6] w17 (onRet (fun r_4 w18 => IcmV.ex fun h13 => r_4 = h13.val ∧
 NewVC w18 (.cells (IcmV.z : IcmV).cells.toArray 27) fun g5 w19 => St_ g5 h13.cells w19 fun w20 => Calls Tryz.prog 36 #[.slice x0A x0n x0c, I6 1232] w20 (onRet (fun r_5 w21 => ∃ xA3 xn3 xc3, r_5 = .slice xA3 xn3 xc3 ∧ SetVC w21 ⟨g5, 4, none⟩ (.slice xA3 xn3 xc3) fun w22 =>
 IcmV.ex fun h14 => CA_ w22 g5 h14.cells ∧ St_ g3 h14.cells w22 fun w23 => IcmV.ex fun res7 => CA_ w23 g3 res7.cells ∧ R (.returned (.tuple #[res7.val, .bool true])) w23) (pn_ R))) (pn_ R))
def weirref8_Complain6_J31 (R : EWP) (g1 g2 g3 g4 : Nat) (x0A : Option Addr) (x0n x0c : Nat)  (w14 : World) : Prop := JoinVC (S := Unit) (fun J63 => ∃ x6, w14.cell? (ad_ g2 42) = some (I6 x6) ∧ Br (decide (x6 = 58)) (∃ xA xn xc, w14.cell? (ad_ g2 43) = some (.slice xA xn xc) ∧
 Br (decide ((0 : Int) < (xn : Int))) (∃ xA1 xn1 xc1, w14.cell? (ad_ g2 43) = some (.slice xA1 xn1 xc1) ∧ IdxVC xA1 xn1 1 0 fun a => ∃ x7, w14.cell? a = some (U8 x7) ∧ Br (decide (x7 < 128)) (IcmV.ex fun h10 => CA_ w14 g4 h10.cells ∧ St_ g3 h10.cells w14 fun w15 =>
 IcmV.ex fun res5 => CA_ w15 g3 res5.cells ∧ R (.returned (.tuple #[res5.val, .bool false])) w15) (∃ xA2 xn2 xc2, w14.cell? (ad_ g2 43) = some (.slice xA2 xn2 xc2) ∧ IdxVC xA2 xn2 1 0 fun a1 => ∃ x8, w14.cell? a1 = some (U8 x8) ∧ Br (decide (x8 = 137)) (IcmV.ex fun h11 => CA_ w14 g4 h11.cells ∧
 St_ g3 h11.cells w14 fun w16 => IcmV.ex fun res6 => CA_ w16 g3 res6.cells ∧ R (.returned (.tuple #[res6.val, .bool false])) w16) (J63 () w14))) (J63 () w14)) (J63 () w14)) (fun _ w17 => weirref8_Complain6_J63 R g1 g3 x0A x0n x0c w17)
def weirref8_Complain6_VC (t : TrbV) (h : Ip6V) (w : World) (R : EWP) : Prop := NewVC w (.cells t.cells.toArray 29) fun g1 w1 => NewVC w1 (.cells h.cells.toArray 37) fun g2 w2 => NewVC w2 (.cells (IcmV.z : IcmV).cells.toArray 27) fun g3 w3 =>
 NewVC w3 (.cells (IcmV.z : IcmV).cells.toArray 27) fun g4 w4 => Ip6V.ex fun h1 => CA_ w4 g2 h1.cells ∧ Calls Tryz.prog 37 #[h1.val] w4 (onRet (fun r_ w5 => ∃ x0A x0n x0c x1, r_ = .tuple #[.slice x0A x0n x0c, I6 x1] ∧ Br (decide (x1 ≠ 0)) (IcmV.ex fun h2 => CA_ w5 g4 h2.cells ∧
 St_ g3 h2.cells w5 fun w6 => IcmV.ex fun res => CA_ w6 g3 res.cells ∧ R (.returned (.tuple #[res.val, .bool false])) w6) (TrbV.ex fun h3 => CA_ w5 g1 h3.cells ∧ Calls Tryz.prog 32 #[h3.val, I6 6] w5 (onRet (fun r_1 w7 => ∃ x, r_1 = .bool x ∧ Br (!x) (IcmV.ex fun h4 => CA_ w7 g4 h4.cells ∧
 St_ g3 h4.cells w7 fun w8 => IcmV.ex fun res1 => CA_ w8 g3 res1.cells ∧ R (.returned (.tuple #[res1.val, .bool false])) w8) (∃ x2, w7.cell? (ad_ g2 41) = some (I6 x2) ∧ Br (decide ((0 : Int) < x2)) (IcmV.ex fun h5 => CA_ w7 g4 h5.cells ∧ St_ g3 h5.cells w7 fun w9 =>
 IcmV.ex fun res2 => CA_ w9 g3 res2.cells ∧ R (.returned (.tuple #[res2.val, .bool false])) w9) (IPV.ex fun h6 => CellsAt w7 ⟨g2, 3, none⟩ 0 h6.cells ∧ Calls Tryz.prog 33 #[h6.val] w7 (onRet (fun r_2 w10 => ∃ x3, r_2 = .bool x3 ∧ Br (!x3) (IcmV.ex fun h7 => CA_ w10 g4 h7.cells ∧
 St_ g3 h7.cells w10 fun w11 => IcmV.ex fun res3 => CA_ w11 g3 res3.cells ∧ R (.returned (.tuple #[res3.val, .bool false])) w11) (JoinVC (S := Unit) (fun J31 => IPV.ex fun h8 => CellsAt w10 ⟨g2, 20, none⟩ 0 h8.cells ∧ Calls Tryz.prog 34 #[h8.val] w10 (onRet (fun r_3 w12 => ∃ x4, r_3 = I6 x4 ∧
 Br (decide (x4 = 3)) (∃ x5, w12.cell? (ad_ g1 0) = some (I6 x5) ∧ Br (decide (x5 ≠ 4)) (IcmV.ex fun h9 => CA_ w12 g4 h9.cells ∧ St_ g3 h9.cells w12 fun w13 => IcmV.ex fun res4 => CA_ w13 g3 res4.cells ∧ R (.returned (.tuple #[res4.val, .bool false])) w13) (J31 () w12)) (J31 () w12)) (pn_ R)))
 (fun _ w14 => weirref8_Complain6_J31 R g1 g2 g3 g4 x0A x0n x0c w14))) (pn_ R))))) (pn_ R)))) (pn_ R))
def weirref8_Complain6_H : Hints := [(31, []), (63, [])]
theorem weirref8_Complain6_of (t : TrbV) (h : Ip6V) (w : World) (R : EWP) (h_ : weirref8_Complain6_VC t h w R) : Calls Tryz.prog 11 #[t.val, h.val] w R :=
 calls_of_wpc callOk mixedOk (H := weirref8_Complain6_H) (c := bodyOf Tryz.f11) Tryz.func11 rfl (nb_ rfl) (Eq.mp (by kernel_rfl) h_)
def weirlaw8_gone4_VC  (w : World) (R : EWP) : Prop := NewVC w (.cells (Ip4V.z : Ip4V).cells.toArray 32) fun g1 w1 =>
 St_ g1 [I6 0, I6 0, .bool false, .bool false, I6 0, I6 1, I6 17, I6 4, U8 10, U8 0, U8 0, U8 1, U8 0, U8 0, U8 0, U8 0, U8 0, U8 0, U8 0, U8 0, U8 0, U8 0, U8 0, U8 0, I6 4, U8 10, U8 0, U8 0, U8 2, U8 0, U8 0, U8 0, U8 0, U8 0, U8 0, U8 0, U8 0, U8 0, U8 0, U8 0, U8 0, .slice none 0 0, .slice none 0 0] w1 fun w2 =>
 Ip4V.ex fun res => CA_ w2 g1 res.cells ∧ R (.returned res.val) w2
def weirlaw8_gone4_H : Hints := []
theorem weirlaw8_gone4_of  (w : World) (R : EWP) (h_ : weirlaw8_gone4_VC  w R) : Calls Tryz.prog 17 #[] w R := calls_of_wpc callOk mixedOk (H := weirlaw8_gone4_H) (c := bodyOf Tryz.f17) Tryz.func17 rfl (nb_ rfl) (Eq.mp (by kernel_rfl) h_)
def weirlaw8_gone6_VC  (w : World) (R : EWP) : Prop := NewVC w (.cells (Ip6V.z : Ip6V).cells.toArray 37) fun g1 w1 =>
 St_ g1 [I6 0, I6 0, I6 1, I6 6, U8 32, U8 1, U8 0, U8 0, U8 0, U8 0, U8 0, U8 0, U8 0, U8 0, U8 0, U8 0, U8 0, U8 0, U8 0, U8 1, I6 6, U8 32, U8 1, U8 0, U8 0, U8 0, U8 0, U8 0, U8 0, U8 0, U8 0, U8 0, U8 0, U8 0, U8 0, U8 0, U8 2, .slice none 0 0, .bool false, .bool false, I6 0, I6 0, I6 17, .slice none 0 0] w1 fun w2 =>
 Ip6V.ex fun res => CA_ w2 g1 res.cells ∧ R (.returned res.val) w2
def weirlaw8_gone6_H : Hints := []
theorem weirlaw8_gone6_of  (w : World) (R : EWP) (h_ : weirlaw8_gone6_VC  w R) : Calls Tryz.prog 25 #[] w R := calls_of_wpc callOk mixedOk (H := weirlaw8_gone6_H) (c := bodyOf Tryz.f25) Tryz.func25 rfl (nb_ rfl) (Eq.mp (by kernel_rfl) h_)
def weirlaw8_told_VC  (w : World) (R : EWP) : Prop := Calls Tryz.prog 17 #[] w (onRet (fun r_ w1 => Ip4V.ex fun h => r_ = h.val ∧ Calls Tryz.prog 14 #[.agg #[I6 5, I6 0], h.val] w1 (onRet (fun r_1 w2 => IcmV.ex fun h1 => ∃ x1, r_1 = .tuple #[h1.val, .bool x1] ∧
 NewVC w2 (.cells (IcmV.z : IcmV).cells.toArray 27) fun g1 w3 => St_ g1 h1.cells w3 fun w4 => Calls Tryz.prog 25 #[] w4 (onRet (fun r_2 w5 => Ip6V.ex fun h2 => r_2 = h2.val ∧
 Calls Tryz.prog 15 #[.agg #[I6 5, I6 0], h2.val] w5 (onRet (fun r_3 w6 => IcmV.ex fun h3 => ∃ x11, r_3 = .tuple #[h3.val, .bool x11] ∧ NewVC w6 (.cells (IcmV.z : IcmV).cells.toArray 27) fun g2 w7 => St_ g2 h3.cells w7 fun w8 => Br x1 (Br x11 (∃ x, w8.cell? (ad_ g1 1) = some (I6 x) ∧
 Br (decide (x = 11)) (∃ x2, w8.cell? (ad_ g2 1) = some (I6 x2) ∧ Br (decide (x2 = 3)) (∃ xA xn xc, w8.cell? (ad_ g1 4) = some (.slice xA xn xc) ∧ Br (decide ((xn : Int) = 20)) (∃ xA1 xn1 xc1, w8.cell? (ad_ g2 4) = some (.slice xA1 xn1 xc1) ∧ R (.returned (.bool (decide ((xn1 : Int) = 40)))) w8)
 (R (.returned (.bool false)) w8)) (R (.returned (.bool false)) w8)) (R (.returned (.bool false)) w8)) (R (.returned (.bool false)) w8)) (R (.returned (.bool false)) w8)) (pn_ R))) (pn_ R))) (pn_ R))) (pn_ R))
def weirlaw8_told_H : Hints := []
theorem weirlaw8_told_of  (w : World) (R : EWP) (h_ : weirlaw8_told_VC  w R) : Calls Tryz.prog 5 #[] w R := calls_of_wpc callOk mixedOk (H := weirlaw8_told_H) (c := bodyOf Tryz.f5) Tryz.func5 rfl (nb_ rfl) (Eq.mp (by kernel_rfl) h_)
end N6
end Go.Proofs.YtjngdcilnipjcaaGreatDoor
/- What the complaints stand on. -/
namespace Go.Proofs.YtjngdcilnipjcaaGreatDoor
end Go.Proofs.YtjngdcilnipjcaaGreatDoor
/- Chapter 8: what is told: the table of troubles, who may be told, the program's Complain4 and Complain6. -/
namespace Go.Eng
open Go Go.RowKit
theorem IdxVC.recE {w : World} {A : Option Addr} {size n : Nat} {rs : List (List Value)} {i : Nat} {cs : List Value} {F : Addr → Prop} (S : World → Prop) (hw : S w) (hS : ∀ w', S w' → Recs w' A size rs) (hl : rs.length = n) (hi : rs[i]? = some cs)
  (hF : ∀ a, (∀ w', S w' → CellsAt w' a 0 cs) → F a) : IdxVC A n size (i : Int) F := by
 have hlt := (List.getElem?_eq_some_iff.1 hi).1
 obtain ⟨a, ha, _⟩ := hS w hw i cs hi
 refine ⟨a, ha, by omega, by omega, hF _ fun w' hw' => ?_⟩
 obtain ⟨b, hb, hc⟩ := hS w' hw' i cs hi
 rw [ha] at hb; cases hb
 rw [Int.toNat_natCast]; exact hc
def trbT : List (List Int) := [[0, 0, 0, 0, 0, 0, 0], [3, 0, 1, 0, 0, 0, 0], [3, 1, 1, 3, 0, 0, 0], [3, 13, 1, 1, 0, 0, 0], [3, 4, 2, 0, 65535, 65535, 0], [11, 0, 3, 0, 0, 0, 0], [11, 1, 3, 1, 0, 0, 0], [12, 0, 4, 0, 255, 65535, 24]]
def trbL (k : Int) : List Int := trbT.getD k.toNat []
def isTrbS (t : TrbV) (v : Int) : Bool := decide (1 ≤ t.kind ∧ t.kind ≤ 7 ∧ 0 ≤ t.extra ∧ t.extra ≤ (trbL t.kind).getD (if v = 4 then 4 else 5) 0)
end Go.Eng
namespace Go.Proofs.YtjngdcilnipjcaaGreatDoor
namespace N6
open Go.Eng Go.RowKit
theorem ip6_src {g : Nat} {w' : World} {h : Ip6V} (hb : Blk w' g 37 h.cells) : CellsAt w' ⟨g, 3, none⟩ 0 h.src.cells := ⟨hb.cell 3, hb.cell 4, hb.cell 5, hb.cell 6, hb.cell 7, hb.cell 8, hb.cell 9, hb.cell 10, hb.cell 11, hb.cell 12, hb.cell 13, hb.cell 14, hb.cell 15, hb.cell 16, hb.cell 17, hb.cell 18, hb.cell 19, trivial⟩
theorem ip6_dst {g : Nat} {w' : World} {h : Ip6V} (hb : Blk w' g 37 h.cells) : CellsAt w' ⟨g, 20, none⟩ 0 h.dst.cells := ⟨hb.cell 20, hb.cell 21, hb.cell 22, hb.cell 23, hb.cell 24, hb.cell 25, hb.cell 26, hb.cell 27, hb.cell 28, hb.cell 29, hb.cell 30, hb.cell 31, hb.cell 32, hb.cell 33, hb.cell 34, hb.cell 35, hb.cell 36, trivial⟩
structure Tb (w : World) : Prop where
 ex : ∃ (A : Option Addr) (c : Nat), w.cell? ⟨0, 0, none⟩ = some (.slice A 8 c) ∧ Recs w A 7 (trbT.map fun l => l.map fun z => Value.int .i64 z)
theorem Tb.ext {w w' : World} (h : Tb w) (hE : Ext w w') : Tb w' := by
 obtain ⟨A, c, h1, h2⟩ := h.ex
 exact ⟨A, c, hE.cell h1, h2.ext hE⟩
theorem trb_line : ∀ k : Nat, 1 ≤ k → k ≤ 7 → ∃ x0 x1 x2 x3 x4 x5 x6 : Int, trbT[k]? = some [x0, x1, x2, x3, x4, x5, x6] := by
 intro k h1 h2
 match k, h1, h2 with
 | 1, _, _ => exact ⟨_, _, _, _, _, _, _, rfl⟩
 | 2, _, _ => exact ⟨_, _, _, _, _, _, _, rfl⟩
 | 3, _, _ => exact ⟨_, _, _, _, _, _, _, rfl⟩
 | 4, _, _ => exact ⟨_, _, _, _, _, _, _, rfl⟩
 | 5, _, _ => exact ⟨_, _, _, _, _, _, _, rfl⟩
 | 6, _, _ => exact ⟨_, _, _, _, _, _, _, rfl⟩
 | 7, _, _ => exact ⟨_, _, _, _, _, _, _, rfl⟩
section
variable {w : World}
theorem Tb.idx {A : Option Addr} {S : World → Prop} {k : Int} {l : List Int} (hw : S w) (hS : ∀ w', S w' → Recs w' A 7 (trbT.map fun l => l.map fun z => Value.int .i64 z)) (h1 : 1 ≤ k) (h2 : k ≤ 7) (hl : trbT[k.toNat]? = some l) {F : Addr → Prop}
  (hF : ∀ a, (∀ w', S w' → CellsAt w' a 0 (l.map fun z => Value.int .i64 z)) → F a) : IdxVC A 8 7 k F := by
 have e : k = ((k.toNat : Nat) : Int) := (Int.toNat_of_nonneg (by omega)).symm
 rw [e]
 exact IdxVC.recE S hw hS rfl (by rw [List.getElem?_map, hl]; rfl) hF
theorem isTrouble_spec {t : TrbV} {v : Int} (hT : Tb w) : Calls Tryz.prog 44 #[t.val, .int .i64 v] w fun e w' => Ext w w' ∧ e = .returned (.bool (isTrbS t v)) := by
 refine icmp_isTrouble_of t v w _ ?_
 unfold icmp_isTrouble_VC
 refine NewVC.sep (Sep.start0 w) fun g1 w1 H => ⟨_, H.cell 1 rfl 0 rfl, ?_⟩
 have hE := H.restOf 0 rfl
 refine Br.dec (fun h => ⟨hE, by unfold isTrbS; rw [decide_eq_false (by omega)]⟩) fun h1 => ⟨_, H.cell 1 rfl 0 rfl, Br.dec (fun h => ⟨hE, by unfold isTrbS; rw [decide_eq_false (by omega)]⟩) fun h2 => ⟨_, H.cell 1 rfl 1 rfl, Br.dec (fun h => ⟨hE, by unfold isTrbS; rw [decide_eq_false (by omega)]⟩) fun h3 => ?_⟩⟩
 obtain ⟨x0, x1, x2, x3, x4, x5, x6, hl⟩ := trb_line t.kind.toNat (by omega) (by omega)
 have hL : trbL t.kind = [x0, x1, x2, x3, x4, x5, x6] := by unfold trbL; rw [List.getD_eq_getElem?_getD, hl]; rfl
 obtain ⟨A, c, hA, hR⟩ := (hT.ext hE).ex
 have key : ∀ w', Ext w1 w' → (w'.cell? ⟨g1, 0, none⟩ = some (.int .i64 t.kind) ∧ w'.cell? ⟨g1, 1, none⟩ = some (.int .i64 t.extra)) ∧ w'.cell? ⟨0, 0, none⟩ = some (.slice A 8 c) ∧ Recs w' A 7 (trbT.map fun l => l.map fun z => Value.int .i64 z) := fun w' hE' => ⟨⟨hE'.cell (H.cell 1 rfl 0 rfl), hE'.cell (H.cell 1 rfl 1 rfl)⟩, hE'.cell hA, hR.ext hE'⟩
 refine Br.dec (fun h4 => ?_) fun h4 => ?_
 ·refine DrawVC.of (fun w' => (w'.cell? ⟨g1, 0, none⟩ = some (.int .i64 t.kind) ∧ w'.cell? ⟨g1, 1, none⟩ = some (.int .i64 t.extra)) ∧ w'.cell? ⟨0, 0, none⟩ = some (.slice A 8 c) ∧ Recs w' A 7 (trbT.map fun l => l.map fun z => Value.int .i64 z)) fun w2 hE2 _ => ⟨key w2 hE2, ?_⟩
  refine ⟨_, fun w' h => h.1.2, _, _, _, fun w' h => h.2.1, _, fun w' h => h.1.1, ?_⟩
  refine Tb.idx (w := w2) (S := fun w' => (w'.cell? ⟨g1, 0, none⟩ = some (.int .i64 t.kind) ∧ w'.cell? ⟨g1, 1, none⟩ = some (.int .i64 t.extra)) ∧ w'.cell? ⟨0, 0, none⟩ = some (.slice A 8 c) ∧ Recs w' A 7 (trbT.map fun l => l.map fun z => Value.int .i64 z)) (key w2 hE2) (fun w' h => h.2.2) (by omega) (by omega) hl fun a ha => ⟨x4, fun w' h => (ha w' h).2.2.2.2.1, hE.trans hE2, ?_⟩
  unfold isTrbS
  rw [if_pos h4, hL]
  congr 3
  exact propext ⟨fun h => ⟨by omega, by omega, by omega, h⟩, fun h => h.2.2.2⟩
 ·refine DrawVC.of (fun w' => (w'.cell? ⟨g1, 0, none⟩ = some (.int .i64 t.kind) ∧ w'.cell? ⟨g1, 1, none⟩ = some (.int .i64 t.extra)) ∧ w'.cell? ⟨0, 0, none⟩ = some (.slice A 8 c) ∧ Recs w' A 7 (trbT.map fun l => l.map fun z => Value.int .i64 z)) fun w2 hE2 _ => ⟨key w2 hE2, ?_⟩
  refine ⟨_, fun w' h => h.1.2, _, _, _, fun w' h => h.2.1, _, fun w' h => h.1.1, ?_⟩
  refine Tb.idx (w := w2) (S := fun w' => (w'.cell? ⟨g1, 0, none⟩ = some (.int .i64 t.kind) ∧ w'.cell? ⟨g1, 1, none⟩ = some (.int .i64 t.extra)) ∧ w'.cell? ⟨0, 0, none⟩ = some (.slice A 8 c) ∧ Recs w' A 7 (trbT.map fun l => l.map fun z => Value.int .i64 z)) (key w2 hE2) (fun w' h => h.2.2) (by omega) (by omega) hl fun a ha => ⟨x5, fun w' h => (ha w' h).2.2.2.2.2.1, hE.trans hE2, ?_⟩
  unfold isTrbS
  rw [if_neg h4, hL]
  congr 3
  exact propext ⟨fun h => ⟨by omega, by omega, by omega, h⟩, fun h => h.2.2.2⟩
theorem mayBeTold_spec {p : IPV} (hT : Nd.Tab w) : Calls Tryz.prog 47 #[p.val] w fun e w' => Ext w w' ∧ e = .returned (.bool (decide (classP p = 7 ∨ classP p = 4))) := by
 refine icmp_mayBeTold_of p w _ ?_
 unfold icmp_mayBeTold_VC
 refine NewVC.sep (Sep.start0 w) fun g1 w1 H => IPV.of p ⟨H.at 1 rfl, ?_⟩
 have hE := H.restOf 0 rfl
 refine (Nd.Class_spec p (hT.ext hE)).mono ?_
 rintro _ w2 ⟨hE2, rfl⟩
 refine ⟨_, rfl, Br.dec (fun h => ⟨hE.trans hE2, by rw [decide_eq_true (.inl h)]⟩) fun h => ⟨hE.trans hE2, ?_⟩⟩
 congr 2
 exact decide_eq_decide.2 ⟨.inr, fun h' => h'.resolve_left h⟩
theorem Win.low {b b' : Nat} {e : TypeId} {v : Value} {n : Nat} {xs : List Value} (h : Win w b e v n xs) (hb : b' ≤ b) : Win w b' e v n xs := by
 refine ⟨h.1, ?_⟩
 rcases h.2 with h2 | ⟨g, c, cs, rfl, h1, h2, h3, h4, h5, h6⟩
 ·exact .inl h2
 ·exact .inr ⟨g, c, cs, rfl, Nat.le_trans hb h1, h2, h3, h4, h5, h6⟩
def Comp (v : Int) (w : World) (r : Option (Int × Int × Int × List Int)) (e : Ending) (w' : World) : Prop :=
 match r with
 | none => e = .returned (.tuple #[(IcmV.z : IcmV).val, .bool false]) ∧ Ext w w'
 | some (t, c, rs, d) => ∃ A : Option Addr, e = .returned (.tuple #[(⟨v, t, c, rs, ⟨A, d.length, d.length⟩⟩ : IcmV).val, .bool true]) ∧ Sep [Fct.rest w None, winB w.heap.size (.slice A d.length d.length) d.length d] w'
def quiet4 (d : Ip4D) : Bool := decide (d.proto = 1 ∧ 0 < d.data.length ∧ (d.data.getD 0 0 = 3 ∨ d.data.getD 0 0 = 4 ∨ d.data.getD 0 0 = 5 ∨ d.data.getD 0 0 = 11 ∨ d.data.getD 0 0 = 12))
def quiet6 (d : Ip6D) : Bool := decide (d.next = 58 ∧ 0 < d.data.length ∧ (d.data.getD 0 0 < 128 ∨ d.data.getD 0 0 = 137))
def asksP (p : IPV) : Bool := decide (classP p = 7 ∨ classP p = 4)
def far4 (p : IPV) : Bool := decide (classP p = 7 ∨ classP p = 4 ∨ classP p = 2 ∨ classP p = 1 ∨ classP p = 6)
def comp4S (t : TrbV) (d : Ip4D) : Option (Int × Int × Int × List Int) :=
 if isTrbS t 4 = true ∧ ¬ 0 < d.off ∧ (ser4S d).2 = 0 ∧ quiet4 d = false ∧ far4 d.dst = true ∧ asksP d.src = true then
  some ((trbL t.kind).getD 0 0, (trbL t.kind).getD 1 0, t.extra * 2 ^ ((trbL t.kind).getD 6 0).toNat, (ser4S d).1.take 548)
 else none
def comp6S (t : TrbV) (d : Ip6D) : Option (Int × Int × Int × List Int) :=
 if isTrbS t 6 = true ∧ ¬ (d.frag.has = true ∧ 0 < d.frag.off) ∧ (ser6S d).2 = 0 ∧ quiet6 d = false ∧ ¬ (classP d.dst = 3 ∧ t.kind ≠ 4) ∧ asksP d.src = true then
  some ((trbL t.kind).getD 2 0, (trbL t.kind).getD 3 0, t.extra, (ser6S d).1.take 1232)
 else none
end
end N6
end Go.Proofs.YtjngdcilnipjcaaGreatDoor
/- Chapter 8: the program's Complain6 and Complain4. -/
namespace Go.Proofs.YtjngdcilnipjcaaGreatDoor
namespace N6
open Go.Eng Go.RowKit
section
variable {w : World}
theorem cut_spec {A : Option Addr} {n c N : Nat} (h : n ≤ c) : Calls Tryz.prog 48 #[.slice A n c, .int .i64 (N : Int)] w fun e w' => w' = w ∧ e = .returned (.slice A (min N n) (min N n)) := by
 refine icmp_cut_of A n c N w _ ?_
 unfold icmp_cut_VC
 have e : (if (n : Int) < (N : Int) then (n : Int) else (N : Int)) = ((min N n : Nat) : Int) := by split <;> omega
 rw [e]
 refine ⟨by omega, Int.le_refl _, by omega, rfl, ?_⟩
 rw [Int.toNat_natCast]
theorem no_msg {v : Int} {Γ : List Fct} {g3 : Nat} {w0 : World} {r : Option (Int × Int × Int × List Int)} (hr : r = none) (H : Sep (Fct.rest w0 None :: Fct.blk g3 27 (IcmV.z : IcmV).cells :: Γ) w) :
  Stores ⟨g3, 0, none⟩ 0 (IcmV.z : IcmV).cells w fun w5 => IcmV.ex fun res => CellsAt w5 ⟨g3, 0, none⟩ 0 res.cells ∧ Comp v w0 r (.returned (.tuple #[res.val, .bool false])) w5 :=
 Stores.sep H 1 rfl (IcmV.one _) (Nat.le_refl _) (splice_all rfl) fun w5 H => IcmV.of IcmV.z ⟨H.at 1 rfl, by rw [hr]; exact ⟨rfl, H.restOf 0 rfl⟩⟩
def frm (w0 : World) (g1 g2 g3 : Nat) (t : TrbV) (ty : TypeId) (cs : List Value) : List Fct := [Fct.rest w0 None, Fct.blk g3 27 (IcmV.z : IcmV).cells, Fct.blk g1 29 t.cells, Fct.blk g2 ty cs]
theorem winSub {Γ : List Fct} {b : Nat} {A : Option Addr} {c N : Nat} {l : List Int} {f : Fct} (H : Sep (f :: winB b (.slice A l.length c) l.length l :: Γ) w) : Sep [f, winB b (.slice A (l.take N).length (l.take N).length) (l.take N).length (l.take N)] w := by
 have hw := (H.win 1 rfl)
 have hc : l.length ≤ c := by
  rcases hw.2 with ⟨h, h0⟩ | ⟨g, c', cs, h, _, h3, _⟩
  ·injection h with _ _ h; omega
  ·injection h with _ _ h; omega
 have hm : (l.take N).length = min N l.length := List.length_take
 have H := H.winCut (i := 1) rfl (m := min N l.length) (c2 := min N l.length) (Nat.min_le_right _ _) (Nat.le_refl _) (Nat.le_trans (Nat.min_le_right _ _) hc)
 have e : (l.map (Value.int .u8)).take (min N l.length) = (l.take N).map (.int .u8) := by
  rw [← List.map_take]
  congr 1
  rcases Nat.le_total N l.length with h | h
  ·rw [Nat.min_eq_left h]
  ·rw [Nat.min_eq_right h, List.take_of_length_le (Nat.le_refl _), List.take_of_length_le h]
 rw [e] at H
 rw [hm]
 exact H.sub (.cons_cons _ (.cons_cons _ (List.nil_sublist _)))
end
section
variable {w0 w : World} {g1 g2 g3 : Nat} {t : TrbV} {h : Ip6V} {es : List ExtR} {data : List Int}
set_option maxHeartbeats 2000000 in
theorem comp6_last {A : Option Addr} {c : Nat} (hT : Tb w0) (hE0 : Ext w0 w) (htr : isTrbS t 6 = true) (hr : comp6S t (h.d es data) = some ((trbL t.kind).getD 2 0, (trbL t.kind).getD 3 0, t.extra, (ser6S (h.d es data)).1.take 1232))
  (H : Sep (Fct.rest w0 None :: winB w0.heap.size (.slice A (ser6S (h.d es data)).1.length c) (ser6S (h.d es data)).1.length (ser6S (h.d es data)).1 :: [Fct.blk g3 27 (IcmV.z : IcmV).cells, Fct.blk g1 29 t.cells, Fct.blk g2 37 h.cells]) w) :
  icmp_Complain6_J63 (Comp 6 w0 (comp6S t (h.d es data))) g1 g3 A (ser6S (h.d es data)).1.length c w := by
 unfold icmp_Complain6_J63
 have htr' := of_decide_eq_true htr
 obtain ⟨x0, x1, x2, x3, x4, x5, x6, hl⟩ := trb_line t.kind.toNat (by omega) (by omega)
 have hL : trbL t.kind = [x0, x1, x2, x3, x4, x5, x6] := by unfold trbL; rw [List.getD_eq_getElem?_getD, hl]; rfl
 rw [hL] at hr
 have hr : comp6S t (h.d es data) = some (x2, x3, t.extra, (ser6S (h.d es data)).1.take 1232) := hr
 obtain ⟨B, k, hB, hR⟩ := (hT.ext hE0).ex
 refine ⟨_, _, _, hB, _, H.cell 3 rfl 0 rfl, ?_⟩
 refine Tb.idx (S := fun w' => w' = w) rfl (fun w' e => by subst e; exact hR) (by omega) (by omega) hl fun a ha => ⟨x0, x1, x2, x3, x4, x5, x6, ha w rfl, NewVC.sep H fun g4 w1 H => ?_⟩
 have H := H.front
 refine Stores.sep H 0 rfl (cs' := [.int .i64 x0, .int .i64 x1, .int .i64 x2, .int .i64 x3, .int .i64 x4, .int .i64 x5, .int .i64 x6]) (fun v hv => by simp at hv; rcases hv with rfl | rfl | rfl | rfl | rfl | rfl | rfl <;> rfl) (Nat.le_refl _) (splice_all rfl) fun w2 H => ?_
 refine DrawVC.sep H (fun w' => Blk w' g4 88 [.int .i64 x0, .int .i64 x1, .int .i64 x2, .int .i64 x3, .int .i64 x4, .int .i64 x5, .int .i64 x6] ∧ Blk w' g1 29 t.cells) fun w3 H => ⟨⟨H.blk 0 rfl, H.blk 4 rfl⟩, ?_⟩
 refine ⟨_, fun w' h => h.1.cell 2, _, fun w' h => h.1.cell 3, _, fun w' h => h.2.cell 1, ?_⟩
 have hw := (H.win 2 rfl)
 have hc : (ser6S (h.d es data)).1.length ≤ c := by
  rcases hw.2 with ⟨h, h0⟩ | ⟨g, c', cs, h, _, h3, _⟩
  ·injection h with _ _ h; omega
  ·injection h with _ _ h; omega
 refine (cut_spec (N := 1232) hc).mono ?_
 rintro _ w4 ⟨hw4, rfl⟩
 subst w4
 refine ⟨_, _, _, rfl, ⟨H.blk 0 rfl, H.blk 4 rfl⟩, ?_⟩
 obtain ⟨m, hm⟩ : ∃ m : IcmV, m = ⟨6, x2, x3, t.extra, ⟨A, min 1232 (ser6S (h.d es data)).1.length, min 1232 (ser6S (h.d es data)).1.length⟩⟩ := ⟨_, rfl⟩
 refine Stores.sep H 3 rfl (cs' := m.cells) (IcmV.one ⟨6, x2, x3, t.extra, ⟨A, min 1232 (ser6S (h.d es data)).1.length, min 1232 (ser6S (h.d es data)).1.length⟩⟩) (Nat.le_refl _) (by rw [hm]; exact splice_all rfl) fun w5 H => ?_
 refine ⟨⟨H.blk 0 rfl, H.blk 4 rfl⟩, IcmV.of m ⟨H.at 3 rfl, ?_⟩⟩
 rw [hr]
 refine ⟨A, ?_, winSub (N := 1232) H.tail⟩
 rw [hm, List.length_take]
set_option maxHeartbeats 4000000 in
theorem Complain6_spec (hA : Ip6At w h es data) (hT : Tb w) (hN : Nd.Tab w) (hK : Kn w) : Calls Tryz.prog 15 #[t.val, h.val] w (Comp 6 w (comp6S t (h.d es data))) := by
 refine icmp_Complain6_of t h w _ ?_
 unfold icmp_Complain6_VC
 refine NewVC.sep (Sep.start0 w) fun g1 w1 H => NewVC.sep H fun g2 w2 H => NewVC.sep H fun g3 w3 H => ?_
 have H : Sep (frm w g1 g2 g3 t 37 h.cells) w3 := H.front.perm (.swap _ _ _)
 refine JoinVC.of (fun _ w' => (isTrbS t 6 = true ∧ ¬ (h.frag.has = true ∧ 0 < h.frag.off)) ∧ Sep (frm w g1 g2 g3 t 37 h.cells) w') ?_ ?_
 ·refine TrbV.of t ⟨H.at 2 rfl, ?_⟩
  refine (isTrouble_spec (v := 6) (hT.ext (H.restOf 0 rfl))).mono ?_
  rintro _ w4 ⟨hE4, rfl⟩
  have H := H.ext hE4
  refine ⟨_, rfl, ?_⟩
  cases htr : isTrbS t 6 with
  | false => exact Br.t rfl (no_msg (by unfold comp6S; rw [if_neg (fun x => by rw [htr] at x; exact absurd x.1 (by decide))]) H)
  | true =>
   refine Br.f rfl ⟨_, H.cell 3 rfl 38 rfl, ?_⟩
   cases hfr : h.frag.has with
   | false => exact Br.f rfl ⟨⟨rfl, fun x => by cases x.1⟩, H⟩
   | true =>
    refine Br.t rfl ⟨_, H.cell 3 rfl 41 rfl, Br.dec (fun hoff => ?_) fun hoff => ⟨⟨rfl, fun x => hoff x.2⟩, H⟩⟩
    exact no_msg (by unfold comp6S; rw [if_neg (fun x => x.2.1 ⟨hfr, hoff⟩)]) H
 rintro _ w5 ⟨⟨htr, hoff⟩, H⟩
 unfold icmp_Complain6_J3
 refine Ip6V.of h ⟨H.at 3 rfl, ?_⟩
 refine (serialise_spec (hA.ext (H.restOf 0 rfl)) (hK.ext (H.restOf 0 rfl))).mono ?_
 rintro _ w6 ⟨A, c, rfl, H6⟩
 have hz := (H.restOf 0 rfl).size
 have H6 := H6.weaken 1 rfl (f' := winB w.heap.size (.slice A (ser6S (h.d es data)).1.length c) (ser6S (h.d es data)).1.length (ser6S (h.d es data)).1) (Win.low (H6.win 1 rfl) hz) fun _ h => h
 have H : Sep (frm w g1 g2 g3 t 37 h.cells ++ [winB w.heap.size (.slice A (ser6S (h.d es data)).1.length c) (ser6S (h.d es data)).1.length (ser6S (h.d es data)).1]) w6 := H.mades H6
 refine ⟨_, _, _, _, rfl, Br.dec (fun hs => no_msg (by unfold comp6S; rw [if_neg (fun x => hs x.2.2.1)]) H) fun hs => ?_⟩
 have hs : (ser6S (h.d es data)).2 = 0 := Classical.not_not.1 hs
 have hd := hA.data.ext (H.restOf 0 rfl)
 have hdl := hd.len
 refine JoinVC.of (fun _ w' => quiet6 (h.d es data) = false ∧ w' = w6) ?_ ?_
 ·refine ⟨_, H.cell 3 rfl 42 rfl, Br.dec (fun hn => ?_) fun hn => ⟨decide_eq_false (fun x => hn x.1), rfl⟩⟩
  refine ⟨_, _, _, H.cell 3 rfl 43 rfl, Br.dec (fun hp => ?_) fun hp => ⟨decide_eq_false (fun x => hp (by have := x.2.1; show (0 : Int) < (h.data.n : Int); have : 0 < data.length := this; omega)), rfl⟩⟩
  refine ⟨_, _, _, H.cell 3 rfl 43 rfl, ?_⟩
  refine IdxVC.int (k := .u8) (xs := data) hd.cells (by decide) (by omega) hdl fun a ha => ⟨_, ha, ?_⟩
  have e0 : data.getD (0 : Int).toNat 0 = data.getD 0 0 := rfl
  rw [e0]
  refine Br.dec (fun h1 => no_msg (by unfold comp6S; rw [if_neg (fun x => ?_)]; exact absurd (of_decide_eq_false x.2.2.2.1) (fun y => y ⟨hn, by show 0 < data.length; omega, .inl h1⟩)) H) fun h1 => ⟨_, _, _, H.cell 3 rfl 43 rfl, ?_⟩
  refine IdxVC.int (k := .u8) (xs := data) hd.cells (by decide) (by omega) hdl fun a ha => ⟨_, ha, ?_⟩
  rw [e0]
  refine Br.dec (fun h2 => no_msg (by unfold comp6S; rw [if_neg (fun x => ?_)]; exact absurd (of_decide_eq_false x.2.2.2.1) (fun y => y ⟨hn, by show 0 < data.length; omega, .inr h2⟩)) H) fun h2 => ⟨decide_eq_false (fun x => ?_), rfl⟩
  rcases x.2.2 with y | y
  ·exact h1 y
  ·exact h2 y
 rintro _ w7 ⟨hq, hw7⟩
 subst w7
 unfold icmp_Complain6_J31
 refine JoinVC.of (fun _ w' => (¬ (classP h.dst = 3 ∧ t.kind ≠ 4) ∧ asksP h.src = true) ∧ Sep (frm w g1 g2 g3 t 37 h.cells ++ [winB w.heap.size (.slice A (ser6S (h.d es data)).1.length c) (ser6S (h.d es data)).1.length (ser6S (h.d es data)).1]) w') ?_ ?_
 ·refine IPV.of h.dst ⟨ip6_dst (H.blk 3 rfl), ?_⟩
  refine (Nd.Class_spec h.dst (hN.ext (H.restOf 0 rfl))).mono ?_
  rintro _ w8 ⟨hE8, rfl⟩
  have H := H.ext hE8
  have ask : ∀ {K : Prop}, (¬ (classP h.dst = 3 ∧ t.kind ≠ 4)) → True := fun _ => trivial
  refine ⟨_, rfl, Br.dec (fun h3 => ⟨_, H.cell 2 rfl 0 rfl, Br.dec (fun hk => no_msg (by unfold comp6S; rw [if_neg (fun x => x.2.2.2.2.1 ⟨h3, hk⟩)]) H) fun hk => ?_⟩) fun h3 => ?_⟩
  ·refine IPV.of h.src ⟨ip6_src (H.blk 3 rfl), ?_⟩
   refine (mayBeTold_spec (hN.ext (H.restOf 0 rfl))).mono ?_
   rintro _ w9 ⟨hE9, rfl⟩
   have H := H.ext hE9
   refine ⟨_, rfl, ?_⟩
   cases hs2 : asksP h.src with
   | false => exact Br.t (by unfold asksP at hs2; rw [hs2]; rfl) (no_msg (by unfold comp6S; rw [if_neg (fun x => by have := x.2.2.2.2.2; rw [show (h.d es data).src = h.src from rfl, hs2] at this; cases this)]) H)
   | true => exact Br.f (by unfold asksP at hs2; rw [hs2]; rfl) ⟨⟨fun x => hk x.2, rfl⟩, H⟩
  ·refine IPV.of h.src ⟨ip6_src (H.blk 3 rfl), ?_⟩
   refine (mayBeTold_spec (hN.ext (H.restOf 0 rfl))).mono ?_
   rintro _ w9 ⟨hE9, rfl⟩
   have H := H.ext hE9
   refine ⟨_, rfl, ?_⟩
   cases hs2 : asksP h.src with
   | false => exact Br.t (by unfold asksP at hs2; rw [hs2]; rfl) (no_msg (by unfold comp6S; rw [if_neg (fun x => by have := x.2.2.2.2.2; rw [show (h.d es data).src = h.src from rfl, hs2] at this; cases this)]) H)
   | true => exact Br.f (by unfold asksP at hs2; rw [hs2]; rfl) ⟨⟨fun x => h3 x.1, rfl⟩, H⟩
 rintro _ w10 ⟨⟨hdst, hask⟩, H⟩
 have H := H.perm (List.Perm.symm (show (frm w g1 g2 g3 t 37 h.cells ++ [winB w.heap.size (.slice A (ser6S (h.d es data)).1.length c) (ser6S (h.d es data)).1.length (ser6S (h.d es data)).1]).Perm (Fct.rest w None :: winB w.heap.size (.slice A (ser6S (h.d es data)).1.length c) (ser6S (h.d es data)).1.length (ser6S (h.d es data)).1 :: [Fct.blk g3 27 (IcmV.z : IcmV).cells, Fct.blk g1 29 t.cells, Fct.blk g2 37 h.cells]) from .cons _ (List.perm_append_singleton _ _)))
 exact comp6_last hT (H.restOf 0 rfl) htr (by unfold comp6S; rw [if_pos ⟨htr, hoff, hs, hq, hdst, hask⟩]) H
end
end N6
end Go.Proofs.YtjngdcilnipjcaaGreatDoor
/- Chapter 8: the program's Complain4; what the laws ask ahead. -/
namespace Go.Proofs.YtjngdcilnipjcaaGreatDoor
namespace N6
open Go.Eng Go.RowKit
theorem trb_line4 : ∀ k : Nat, 1 ≤ k → k ≤ 7 → ∃ x0 x1 x2 x3 x4 x5 x6 : Int, trbT[k]? = some [x0, x1, x2, x3, x4, x5, x6] ∧ x4 ≤ 65535 ∧ (x6 = 0 ∨ (x6 = 24 ∧ x4 ≤ 255)) := by
 intro k h1 h2
 match k, h1, h2 with
 | 1, _, _ => exact ⟨_, _, _, _, _, _, _, rfl, by decide, .inl rfl⟩
 | 2, _, _ => exact ⟨_, _, _, _, _, _, _, rfl, by decide, .inl rfl⟩
 | 3, _, _ => exact ⟨_, _, _, _, _, _, _, rfl, by decide, .inl rfl⟩
 | 4, _, _ => exact ⟨_, _, _, _, _, _, _, rfl, by decide, .inl rfl⟩
 | 5, _, _ => exact ⟨_, _, _, _, _, _, _, rfl, by decide, .inl rfl⟩
 | 6, _, _ => exact ⟨_, _, _, _, _, _, _, rfl, by decide, .inl rfl⟩
 | 7, _, _ => exact ⟨_, _, _, _, _, _, _, rfl, by decide, .inr ⟨rfl, by decide⟩⟩
section
variable {w0 w : World} {g1 g2 g3 : Nat} {t : TrbV} {h : Ip4V} {os : List OptR} {data : List Int}
set_option maxHeartbeats 4000000 in
theorem comp4_last {A : Option Addr} {c : Nat} (hT : Tb w0) (hN : Nd.Tab w0) (htr : isTrbS t 4 = true) (hoff : ¬ 0 < h.off) (hs : (ser4S (h.d os data)).2 = 0) (hq : quiet4 (h.d os data) = false) (hf : far4 h.dst = true)
  (H : Sep (Fct.rest w0 None :: Fct.blk g3 27 (IcmV.z : IcmV).cells :: [Fct.blk g1 29 t.cells, Fct.blk g2 32 h.cells, winB w0.heap.size (.slice A (ser4S (h.d os data)).1.length c) (ser4S (h.d os data)).1.length (ser4S (h.d os data)).1]) w) :
  icmp_Complain4_J63 (Comp 4 w0 (comp4S t (h.d os data))) g1 g2 g3 A (ser4S (h.d os data)).1.length c w := by
 unfold icmp_Complain4_J63
 refine IPV.of h.src ⟨ip4_src (H.blk 3 rfl), ?_⟩
 refine (mayBeTold_spec (hN.ext (H.restOf 0 rfl))).mono ?_
 rintro _ w1 ⟨hE1, rfl⟩
 have H := H.ext hE1
 refine ⟨_, rfl, ?_⟩
 cases hask : asksP h.src with
 | false => exact Br.t (by unfold asksP at hask; rw [hask]; rfl) (no_msg (by unfold comp4S; rw [if_neg (fun x => by have := x.2.2.2.2.2; rw [show (h.d os data).src = h.src from rfl, hask] at this; cases this)]) H)
 | true =>
  refine Br.f (by unfold asksP at hask; rw [hask]; rfl) ?_
  have htr' := of_decide_eq_true htr
  obtain ⟨x0, x1, x2, x3, x4, x5, x6, hl, hx4, hx6⟩ := trb_line4 t.kind.toNat (by omega) (by omega)
  have hL : trbL t.kind = [x0, x1, x2, x3, x4, x5, x6] := by unfold trbL; rw [List.getD_eq_getElem?_getD, hl]; rfl
  have hle : t.extra ≤ x4 := by
   have := htr'.2.2.2
   rw [if_pos rfl, hL] at this; exact this
  have hr : comp4S t (h.d os data) = some (x0, x1, t.extra * 2 ^ x6.toNat, (ser4S (h.d os data)).1.take 548) := by
   unfold comp4S
   rw [if_pos ⟨htr, hoff, hs, hq, hf, hask⟩, hL]; rfl
  obtain ⟨B, k, hB, hR⟩ := (hT.ext (H.restOf 0 rfl)).ex
  refine ⟨_, _, _, hB, _, H.cell 2 rfl 0 rfl, ?_⟩
  refine Tb.idx (S := fun w' => w' = w1) rfl (fun w' e => by subst e; exact hR) (by omega) (by omega) hl fun a ha => ⟨x0, x1, x2, x3, x4, x5, x6, ha w1 rfl, NewVC.sep H fun g4 w2 H => ?_⟩
  have H := H.front
  refine Stores.sep H 0 rfl (cs' := [.int .i64 x0, .int .i64 x1, .int .i64 x2, .int .i64 x3, .int .i64 x4, .int .i64 x5, .int .i64 x6]) (fun v hv => by simp at hv; rcases hv with rfl | rfl | rfl | rfl | rfl | rfl | rfl <;> rfl) (Nat.le_refl _) (splice_all rfl) fun w3 H => ?_
  refine DrawVC.sep H (fun w' => Blk w' g4 88 [.int .i64 x0, .int .i64 x1, .int .i64 x2, .int .i64 x3, .int .i64 x4, .int .i64 x5, .int .i64 x6] ∧ Blk w' g1 29 t.cells) fun w4 H => ⟨⟨H.blk 0 rfl, H.blk 3 rfl⟩, ?_⟩
  refine ⟨_, fun w' h => h.1.cell 0, _, fun w' h => h.1.cell 1, _, fun w' h => h.2.cell 1, _, fun w' h => h.1.cell 6, by omega, ?_⟩
  have hw := (H.win 5 rfl)
  have hc : (ser4S (h.d os data)).1.length ≤ c := by
   rcases hw.2 with ⟨h, h0⟩ | ⟨g, c', cs, h, _, h3, _⟩
   ·injection h with _ _ h; omega
   ·injection h with _ _ h; omega
  have hwr : IntKind.i64.wrap (t.extra * 2 ^ (min x6.toNat 64)) = t.extra * 2 ^ x6.toNat := by
   rcases hx6 with rfl | ⟨rfl, h255⟩
   ·show IntKind.i64.wrap (t.extra * 1) = t.extra * 1
    rw [Int.mul_one, w64 (by omega) (by omega)]
   ·show IntKind.i64.wrap (t.extra * 16777216) = t.extra * 16777216
    rw [w64 (by omega) (by omega)]
  refine (cut_spec (N := 548) hc).mono ?_
  rintro _ w5 ⟨hw5, rfl⟩
  subst w5
  refine ⟨_, _, _, rfl, ⟨H.blk 0 rfl, H.blk 3 rfl⟩, ?_⟩
  rw [hwr]
  obtain ⟨m, hm⟩ : ∃ m : IcmV, m = ⟨4, x0, x1, t.extra * 2 ^ x6.toNat, ⟨A, min 548 (ser4S (h.d os data)).1.length, min 548 (ser4S (h.d os data)).1.length⟩⟩ := ⟨_, rfl⟩
  refine Stores.sep H 2 rfl (cs' := m.cells) (IcmV.one ⟨4, x0, x1, t.extra * 2 ^ x6.toNat, ⟨A, min 548 (ser4S (h.d os data)).1.length, min 548 (ser4S (h.d os data)).1.length⟩⟩) (Nat.le_refl _) (by rw [hm]; exact splice_all rfl) fun w6 H => ?_
  refine ⟨⟨H.blk 0 rfl, H.blk 3 rfl⟩, IcmV.of m ⟨H.at 2 rfl, ?_⟩⟩
  rw [hr]
  have H := H.sub (Γ' := [Fct.rest w0 None, winB w0.heap.size (.slice A (ser4S (h.d os data)).1.length c) (ser4S (h.d os data)).1.length (ser4S (h.d os data)).1]) (.cons _ (.cons_cons _ (.cons _ (.cons _ (.cons _ (List.Sublist.refl _))))))
  refine ⟨A, ?_, winSub (N := 548) H⟩
  rw [hm, List.length_take]
set_option maxHeartbeats 4000000 in
theorem Complain4_spec (hA : Ip4At w h os data) (hT : Tb w) (hN : Nd.Tab w) (hW : Wd w) : Calls Tryz.prog 14 #[t.val, h.val] w (Comp 4 w (comp4S t (h.d os data))) := by
 refine icmp_Complain4_of t h w _ ?_
 unfold icmp_Complain4_VC
 refine NewVC.sep (Sep.start0 w) fun g1 w1 H => NewVC.sep H fun g2 w2 H => NewVC.sep H fun g3 w3 H => ?_
 have H : Sep (frm w g1 g2 g3 t 32 h.cells) w3 := H.front.perm (.swap _ _ _)
 refine TrbV.of t ⟨H.at 2 rfl, ?_⟩
 refine (isTrouble_spec (v := 4) (hT.ext (H.restOf 0 rfl))).mono ?_
 rintro _ w4 ⟨hE4, rfl⟩
 have H := H.ext hE4
 refine ⟨_, rfl, ?_⟩
 cases htr : isTrbS t 4 with
 | false => exact Br.t rfl (no_msg (by unfold comp4S; rw [if_neg (fun x => by rw [htr] at x; exact absurd x.1 (by decide))]) H)
 | true =>
  refine Br.f rfl ⟨_, H.cell 3 rfl 4 rfl, Br.dec (fun hoff => no_msg (by unfold comp4S; rw [if_neg (fun x => x.2.1 hoff)]) H) fun hoff => Ip4V.of h ⟨H.at 3 rfl, ?_⟩⟩
  refine (serialise4_spec (hA.ext (H.restOf 0 rfl)) (hW.ext (H.restOf 0 rfl))).mono ?_
  intro e w6 h6
  obtain ⟨A, c, rfl, H6⟩ := h6.win
  have hz := (H.restOf 0 rfl).size
  have H6 := H6.weaken 1 rfl (f' := winB w.heap.size (.slice A (ser4S (h.d os data)).1.length c) (ser4S (h.d os data)).1.length (ser4S (h.d os data)).1) (Win.low (H6.win 1 rfl) hz) fun _ h => h
  have H : Sep (frm w g1 g2 g3 t 32 h.cells ++ [winB w.heap.size (.slice A (ser4S (h.d os data)).1.length c) (ser4S (h.d os data)).1.length (ser4S (h.d os data)).1]) w6 := H.mades H6
  refine ⟨_, _, _, _, rfl, Br.dec (fun hs => no_msg (by unfold comp4S; rw [if_neg (fun x => hs x.2.2.1)]) H) fun hs => ?_⟩
  have hs : (ser4S (h.d os data)).2 = 0 := Classical.not_not.1 hs
  have hd := hA.data.ext (H.restOf 0 rfl)
  have hdl := hd.len
  refine JoinVC.of (fun _ w' => quiet4 (h.d os data) = false ∧ w' = w6) ?_ ?_
  ·refine JoinVC.of (fun b w' => w' = w6 ∧ b = decide (h.proto = 1 ∧ 0 < data.length)) ?_ ?_
   ·refine ⟨_, H.cell 3 rfl 6 rfl, Br.dec (fun hn => ⟨_, _, _, H.cell 3 rfl 42 rfl, rfl, decide_eq_decide.2 ⟨fun x => ⟨hn, by omega⟩, fun x => by have := x.2; omega⟩⟩) fun hn => ⟨rfl, (decide_eq_false (fun x => hn x.1)).symm⟩⟩
   rintro _ w7 ⟨hw7, rfl⟩
   subst w7
   unfold icmp_Complain4_J62
   refine Br.dec (fun hp => ?_) fun hp => ⟨decide_eq_false (fun x => hp ⟨x.1, x.2.1⟩), rfl⟩
   refine ⟨_, _, _, H.cell 3 rfl 42 rfl, ?_⟩
   refine IdxVC.int (k := .u8) (xs := data) hd.cells (by decide) (by omega) hdl fun a ha => ⟨_, ha, ?_⟩
   have e0 : data.getD (0 : Int).toNat 0 = data.getD 0 0 := rfl
   rw [e0]
   have bad : (data.getD 0 0 = 3 ∨ data.getD 0 0 = 4 ∨ data.getD 0 0 = 5 ∨ data.getD 0 0 = 11 ∨ data.getD 0 0 = 12) → comp4S t (h.d os data) = none := fun hb => by
    unfold comp4S
    rw [if_neg (fun x => of_decide_eq_false x.2.2.2.1 ⟨hp.1, hp.2, hb⟩)]
   refine Br.dec (fun h1 => Br.yes h1 (no_msg (bad (.inl h1)) H)) fun h1 => ?_
   refine Br.dec (fun h2 => Br.yes h2 (no_msg (bad (.inr (.inl h2))) H)) fun h2 => ?_
   refine Br.dec (fun h3 => Br.yes h3 (no_msg (bad (.inr (.inr (.inl h3)))) H)) fun h3 => ?_
   refine Br.dec (fun h4 => Br.yes h4 (no_msg (bad (.inr (.inr (.inr (.inl h4))))) H)) fun h4 => ?_
   refine Br.dec (fun h5 => no_msg (bad (.inr (.inr (.inr (.inr h5))))) H) fun h5 => ⟨decide_eq_false (fun x => ?_), rfl⟩
   rcases x.2.2 with y | y | y | y | y
   ·exact h1 y
   ·exact h2 y
   ·exact h3 y
   ·exact h4 y
   ·exact h5 y
  rintro _ w8 ⟨hq, hw8⟩
  subst w8
  unfold icmp_Complain4_J31
  refine JoinVC.of (fun _ w' => far4 h.dst = true ∧ Sep (frm w g1 g2 g3 t 32 h.cells ++ [winB w.heap.size (.slice A (ser4S (h.d os data)).1.length c) (ser4S (h.d os data)).1.length (ser4S (h.d os data)).1]) w') ?_ ?_
  ·refine IPV.of h.dst ⟨ip4_dst (H.blk 3 rfl), ?_⟩
   refine (Nd.Class_spec h.dst (hN.ext (H.restOf 0 rfl))).mono ?_
   rintro _ w9 ⟨hE9, rfl⟩
   have H := H.ext hE9
   refine ⟨_, rfl, ?_⟩
   refine Br.dec (fun h1 => Br.yes h1 ⟨decide_eq_true (.inl h1), H⟩) fun h1 => ?_
   refine Br.dec (fun h2 => Br.yes h2 ⟨decide_eq_true (.inr (.inl h2)), H⟩) fun h2 => ?_
   refine Br.dec (fun h3 => Br.yes h3 ⟨decide_eq_true (.inr (.inr (.inl h3))), H⟩) fun h3 => ?_
   refine Br.dec (fun h4 => Br.yes h4 ⟨decide_eq_true (.inr (.inr (.inr (.inl h4)))), H⟩) fun h4 => ?_
   refine Br.dec (fun h5 => ⟨decide_eq_true (.inr (.inr (.inr (.inr h5)))), H⟩) fun h5 => ?_
   have nf : comp4S t (h.d os data) = none := by
    unfold comp4S
    refine if_neg fun x => ?_
    rcases of_decide_eq_true x.2.2.2.2.1 with y | y | y | y | y
    ·exact h1 y
    ·exact h2 y
    ·exact h3 y
    ·exact h4 y
    ·exact h5 y
   exact no_msg nf H
  rintro _ w10 ⟨hf, H⟩
  exact comp4_last hT hN htr hoff hs hq hf H
end
end N6
end Go.Proofs.YtjngdcilnipjcaaGreatDoor
