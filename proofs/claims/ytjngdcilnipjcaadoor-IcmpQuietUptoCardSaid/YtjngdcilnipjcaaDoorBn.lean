/- WRITTEN BY a program of this session (vc.py): for each Go function the condition that is enough for its contract, and the theorem that it is. -/
import Derived.Test.YtjngdcilnipjcaaDoorProg
import Derived.Test.YtjngdcilnipjcaaDoorBq
import Derived.Test.YtjngdcilnipjcaaDoorBf
import Derived.Test.YtjngdcilnipjcaaDoorBm
namespace Go.Proofs.YtjngdcilnipjcaaDoor
open Go.Eng
namespace Nd
def callF (f : Nat) : Bool := Nat.ble 3 f && Nat.ble f 165 && !(Nat.beq f 131) && !(Nat.beq f 148)
theorem callAll : ((List.range 166).all fun f => !(callF f) || callableB Tryd.prog f) = true := by kernel_rfl
theorem callOk : ∀ f, callF f = true → callableB Tryd.prog f = true := by
  intro f hf
  have h := List.all_eq_true.1 callAll f (by simp [callF] at hf; simp; omega)
  simpa [hf] using h
theorem mixedOk : Tryd.prog.follows .mixedOrders = true := by kernel_rfl

set_option maxRecDepth 100000 in
def icmp_noTarget_VC (ip_V : Int) (ip_A0_ : Int) (ip_A1_ : Int) (ip_A2_ : Int) (ip_A3_ : Int) (ip_A4_ : Int) (ip_A5_ : Int) (ip_A6_ : Int) (ip_A7_ : Int) (ip_A8_ : Int) (ip_A9_ : Int) (ip_A10_ : Int) (ip_A11_ : Int) (ip_A12_ : Int) (ip_A13_ : Int) (ip_A14_ : Int) (ip_A15_ : Int) (w : World) (R : Ending → World → Prop) : Prop :=
  NewVC w (.cells #[.int .i64 ip_V, .int .u8 ip_A0_, .int .u8 ip_A1_, .int .u8 ip_A2_, .int .u8 ip_A3_, .int .u8 ip_A4_, .int .u8 ip_A5_, .int .u8 ip_A6_, .int .u8 ip_A7_, .int .u8 ip_A8_, .int .u8 ip_A9_, .int .u8 ip_A10_, .int .u8 ip_A11_, .int .u8 ip_A12_, .int .u8 ip_A13_, .int .u8 ip_A14_, .int .u8 ip_A15_] 31) fun g1 w1 =>
  ∃ x0 : Int, ∃ x1 : Int, ∃ x2 : Int, ∃ x3 : Int, ∃ x4 : Int, ∃ x5 : Int, ∃ x6 : Int, ∃ x7 : Int, ∃ x8 : Int, ∃ x9 : Int, ∃ x10 : Int, ∃ x11 : Int, ∃ x12 : Int, ∃ x13 : Int, ∃ x14 : Int, ∃ x15 : Int, ∃ x16 : Int, CellsAt w1 ⟨g1, 0, none⟩ 0 [.int .i64 x0, .int .u8 x1, .int .u8 x2, .int .u8 x3, .int .u8 x4, .int .u8 x5, .int .u8 x6, .int .u8 x7, .int .u8 x8, .int .u8 x9, .int .u8 x10, .int .u8 x11, .int .u8 x12, .int .u8 x13, .int .u8 x14, .int .u8 x15, .int .u8 x16] ∧
  Calls Tryd.prog 72 #[.agg #[.int .i64 x0, .int .u8 x1, .int .u8 x2, .int .u8 x3, .int .u8 x4, .int .u8 x5, .int .u8 x6, .int .u8 x7, .int .u8 x8, .int .u8 x9, .int .u8 x10, .int .u8 x11, .int .u8 x12, .int .u8 x13, .int .u8 x14, .int .u8 x15, .int .u8 x16]] w1 (onRet (fun r_ w2 => ∃ x : Int, r_ = .int .i64 x ∧
  Br (decide (x = 3))
    (R (.returned (.bool true)) w2)
    (R (.returned (.bool (decide (x = 1)))) w2))
    (fun ch w2 => R (.panicked ch) w2))
def icmp_noTarget_H : Hints := []
set_option maxRecDepth 100000 in
theorem icmp_noTarget_of (ip_V : Int) (ip_A0_ : Int) (ip_A1_ : Int) (ip_A2_ : Int) (ip_A3_ : Int) (ip_A4_ : Int) (ip_A5_ : Int) (ip_A6_ : Int) (ip_A7_ : Int) (ip_A8_ : Int) (ip_A9_ : Int) (ip_A10_ : Int) (ip_A11_ : Int) (ip_A12_ : Int) (ip_A13_ : Int) (ip_A14_ : Int) (ip_A15_ : Int) (w : World) (R : Ending → World → Prop) (h : icmp_noTarget_VC ip_V ip_A0_ ip_A1_ ip_A2_ ip_A3_ ip_A4_ ip_A5_ ip_A6_ ip_A7_ ip_A8_ ip_A9_ ip_A10_ ip_A11_ ip_A12_ ip_A13_ ip_A14_ ip_A15_ w R) :
    Calls Tryd.prog 47 #[.agg #[.int .i64 ip_V, .int .u8 ip_A0_, .int .u8 ip_A1_, .int .u8 ip_A2_, .int .u8 ip_A3_, .int .u8 ip_A4_, .int .u8 ip_A5_, .int .u8 ip_A6_, .int .u8 ip_A7_, .int .u8 ip_A8_, .int .u8 ip_A9_, .int .u8 ip_A10_, .int .u8 ip_A11_, .int .u8 ip_A12_, .int .u8 ip_A13_, .int .u8 ip_A14_, .int .u8 ip_A15_]] w R :=
  calls_of_wpc callOk mixedOk (H := icmp_noTarget_H) (args := [.agg #[.int .i64 ip_V, .int .u8 ip_A0_, .int .u8 ip_A1_, .int .u8 ip_A2_, .int .u8 ip_A3_, .int .u8 ip_A4_, .int .u8 ip_A5_, .int .u8 ip_A6_, .int .u8 ip_A7_, .int .u8 ip_A8_, .int .u8 ip_A9_, .int .u8 ip_A10_, .int .u8 ip_A11_, .int .u8 ip_A12_, .int .u8 ip_A13_, .int .u8 ip_A14_, .int .u8 ip_A15_]]) (fn := Tryd.f47) (c := bodyOf Tryd.f47) Tryd.func47 rfl (Nat.le_of_ble_eq_true rfl)
    (Eq.mp (by kernel_rfl : icmp_noTarget_VC ip_V ip_A0_ ip_A1_ ip_A2_ ip_A3_ ip_A4_ ip_A5_ ip_A6_ ip_A7_ ip_A8_ ip_A9_ ip_A10_ ip_A11_ ip_A12_ ip_A13_ ip_A14_ ip_A15_ w R = wpc Tryd.prog callF Tryd.f47.ntmps icmp_noTarget_H 1 (bodyOf Tryd.f47) (argEnv 0 [.agg #[.int .i64 ip_V, .int .u8 ip_A0_, .int .u8 ip_A1_, .int .u8 ip_A2_, .int .u8 ip_A3_, .int .u8 ip_A4_, .int .u8 ip_A5_, .int .u8 ip_A6_, .int .u8 ip_A7_, .int .u8 ip_A8_, .int .u8 ip_A9_, .int .u8 ip_A10_, .int .u8 ip_A11_, .int .u8 ip_A12_, .int .u8 ip_A13_, .int .u8 ip_A14_, .int .u8 ip_A15_]]) [] w (finish Tryd.prog callF Tryd.f47.results.toList R)) h)

set_option maxRecDepth 100000 in
def addr_Class_L58 (R : Ending → World → Prop) (g1 : Nat) (x01 : Int) (x17 : Int) (x21 : Int) (x31 : Int) (x41 : Int) (x51 : Int) (x61 : Int) (x71 : Int) (x81 : Int) (x91 : Int) (x101 : Int) (x111 : Int) (x121 : Int) (x131 : Int) (x141 : Int) (x151 : Int) (x161 : Int) (x171 : Int) (x18 : Int) (x19 : Int) (x20 : Int) (x211 : Int) (x22 : Int) (x23 : Int) (x24 : Int) (x25 : Int) (x26 : Int) (x27 : Int) (x28 : Int) (x29 : Int) (x30 : Int) (x311 : Int) (x32 : Int) (x33 : Int) (x34 : Int) (x35 : Int) (x36 : Int) (x37 : Int) (x38 : Int) (x39 : Int) (x40 : Int) (x411 : Int) (x42 : Int) (x43 : Int) (x44 : Int) (x45 : Int) (x46 : Int) (x47 : Int) (x48 : Int) (x49 : Int) (x50 : Int) (x511 : Int) (x52 : Int) (x53 : Int) (x54 : Int) (x55 : Int) (x56 : Int) (x57 : Int) (x58 : Int) (x59 : Int) (x60 : Int) (x611 : Int) (x62 : Int) (x63 : Int) (x64 : Int) (x65 : Int) (x66 : Int) (x67 : Int) (x68 : Int) (x69 : Int) (x70 : Int) (x711 : Int) (x72 : Int) (x73 : Int) (x74 : Int) (x75 : Int) (x76 : Int) (x77 : Int) (x78 : Int) (x79 : Int) (x80 : Int) (x811 : Int) (x82 : Int) (x83 : Int) (x84 : Int) (x85 : Int) (x86 : Int) (x87 : Int) (x88 : Int) (x89 : Int) (x90 : Int) (x911 : Int) (x92 : Int) (x93 : Int) (x94 : Int) (x95 : Int) (x96 : Int) (x97 : Int) (x98 : Int) (x99 : Int) (x100 : Int) (x1011 : Int) (x102 : Int) (x103 : Int) (x104 : Int) (x105 : Int) (x106 : Int) (x107 : Int) (x108 : Int) (x109 : Int) (x110 : Int) (x1111 : Int) (x112 : Int) (x113 : Int) (x114 : Int) (x115 : Int) (x116 : Int) (x117 : Int) (x118 : Int) (x119 : Int) (x120 : Int) (x1211 : Int) (x122 : Int) (x123 : Int) (x124 : Int) (x125 : Int) (x126 : Int) (x127 : Int) (x128 : Int) (x129 : Int) (x130 : Int) (x1311 : Int) (x132 : Int) (x133 : Int) (x134 : Int) (x135 : Int) (x136 : Int) (x137 : Int) (x138 : Int) (x139 : Int) (x140 : Int) (x1411 : Int) (x142 : Int) (x143 : Int) (x144 : Int) (x145 : Int) (x146 : Int) (x147 : Int) (x148 : Int) (x149 : Int) (x150 : Int) (x1511 : Int) (x152 : Int) (x153 : Int) (x154 : Int) (x155 : Int) (x156 : Int) (x157 : Int) (x158 : Int) (x159 : Int) (x160 : Int) (x1611 : Int) (x162 : Int) (x163 : Int) (x164 : Int) (x165 : Int) (x166 : Int) (x167 : Int) (x168 : Int) (x169 : Int) (x170 : Int) (x1711 : Int) (x172 : Int) (x173 : Int) (x174 : Int) (x175 : Int) (x176 : Int) (x177 : Int) (x178 : Int) (x179 : Int) (x180 : Int) (x181 : Int) (x182 : Int) (x183 : Int) (x184 : Int) (x185 : Int) (x186 : Int) (x187 : Int) (x188 : Int) (x189 : Int) (x190 : Int) (x191 : Int) (x192 : Int) (x193 : Int) (x194 : Int) (x195 : Int) (x196 : Int) (x197 : Int) (x198 : Int) (x199 : Int) (x200 : Int) (x201 : Int) (x202 : Int) (x203 : Int) (x204 : Int) (x205 : Int) (x206 : Int) (x207 : Int) (x208 : Int) (x209 : Int) (x210 : Int) (x2111 : Int) (x212 : Int) (x213 : Int) (x214 : Int) (x215 : Int) (x216 : Int) (x217 : Int) (x218 : Int) (x219 : Int) (x220 : Int) (x221 : Int) (x222 : Int) (x223 : Int) (x224 : Int) (x225 : Int) (x226 : Int) (x227 : Int) (t9_ : Int) (w3 : World) (K58 : (Int → World → Prop)) : Prop :=
  Br (decide (t9_ < 12))
    (∃ x02 : Int, ∃ x1100 : Int, ∃ x228 : Int, ∃ x310 : Int, ∃ x410 : Int, ∃ x510 : Int, ∃ x610 : Int, ∃ x710 : Int, ∃ x810 : Int, ∃ x910 : Int, ∃ x1010 : Int, ∃ x1110 : Int, ∃ x1210 : Int, ∃ x1310 : Int, ∃ x1410 : Int, ∃ x1510 : Int, ∃ x1610 : Int, ∃ x1710 : Int, ∃ x1810 : Int, PartVC [.int .i64 x01, .int .u8 x17, .int .u8 x21, .int .u8 x31, .int .u8 x41, .int .u8 x51, .int .u8 x61, .int .u8 x71, .int .u8 x81, .int .u8 x91, .int .u8 x101, .int .u8 x111, .int .u8 x121, .int .u8 x131, .int .u8 x141, .int .u8 x151, .int .u8 x161, .int .i64 x171, .int .i64 x18, .int .i64 x19, .int .u8 x20, .int .u8 x211, .int .u8 x22, .int .u8 x23, .int .u8 x24, .int .u8 x25, .int .u8 x26, .int .u8 x27, .int .u8 x28, .int .u8 x29, .int .u8 x30, .int .u8 x311, .int .u8 x32, .int .u8 x33, .int .u8 x34, .int .u8 x35, .int .i64 x36, .int .i64 x37, .int .i64 x38, .int .u8 x39, .int .u8 x40, .int .u8 x411, .int .u8 x42, .int .u8 x43, .int .u8 x44, .int .u8 x45, .int .u8 x46, .int .u8 x47, .int .u8 x48, .int .u8 x49, .int .u8 x50, .int .u8 x511, .int .u8 x52, .int .u8 x53, .int .u8 x54, .int .i64 x55, .int .i64 x56, .int .i64 x57, .int .u8 x58, .int .u8 x59, .int .u8 x60, .int .u8 x611, .int .u8 x62, .int .u8 x63, .int .u8 x64, .int .u8 x65, .int .u8 x66, .int .u8 x67, .int .u8 x68, .int .u8 x69, .int .u8 x70, .int .u8 x711, .int .u8 x72, .int .u8 x73, .int .i64 x74, .int .i64 x75, .int .i64 x76, .int .u8 x77, .int .u8 x78, .int .u8 x79, .int .u8 x80, .int .u8 x811, .int .u8 x82, .int .u8 x83, .int .u8 x84, .int .u8 x85, .int .u8 x86, .int .u8 x87, .int .u8 x88, .int .u8 x89, .int .u8 x90, .int .u8 x911, .int .u8 x92, .int .i64 x93, .int .i64 x94, .int .i64 x95, .int .u8 x96, .int .u8 x97, .int .u8 x98, .int .u8 x99, .int .u8 x100, .int .u8 x1011, .int .u8 x102, .int .u8 x103, .int .u8 x104, .int .u8 x105, .int .u8 x106, .int .u8 x107, .int .u8 x108, .int .u8 x109, .int .u8 x110, .int .u8 x1111, .int .i64 x112, .int .i64 x113, .int .i64 x114, .int .u8 x115, .int .u8 x116, .int .u8 x117, .int .u8 x118, .int .u8 x119, .int .u8 x120, .int .u8 x1211, .int .u8 x122, .int .u8 x123, .int .u8 x124, .int .u8 x125, .int .u8 x126, .int .u8 x127, .int .u8 x128, .int .u8 x129, .int .u8 x130, .int .i64 x1311, .int .i64 x132, .int .i64 x133, .int .u8 x134, .int .u8 x135, .int .u8 x136, .int .u8 x137, .int .u8 x138, .int .u8 x139, .int .u8 x140, .int .u8 x1411, .int .u8 x142, .int .u8 x143, .int .u8 x144, .int .u8 x145, .int .u8 x146, .int .u8 x147, .int .u8 x148, .int .u8 x149, .int .i64 x150, .int .i64 x1511, .int .i64 x152, .int .u8 x153, .int .u8 x154, .int .u8 x155, .int .u8 x156, .int .u8 x157, .int .u8 x158, .int .u8 x159, .int .u8 x160, .int .u8 x1611, .int .u8 x162, .int .u8 x163, .int .u8 x164, .int .u8 x165, .int .u8 x166, .int .u8 x167, .int .u8 x168, .int .i64 x169, .int .i64 x170, .int .i64 x1711, .int .u8 x172, .int .u8 x173, .int .u8 x174, .int .u8 x175, .int .u8 x176, .int .u8 x177, .int .u8 x178, .int .u8 x179, .int .u8 x180, .int .u8 x181, .int .u8 x182, .int .u8 x183, .int .u8 x184, .int .u8 x185, .int .u8 x186, .int .u8 x187, .int .i64 x188, .int .i64 x189, .int .i64 x190, .int .u8 x191, .int .u8 x192, .int .u8 x193, .int .u8 x194, .int .u8 x195, .int .u8 x196, .int .u8 x197, .int .u8 x198, .int .u8 x199, .int .u8 x200, .int .u8 x201, .int .u8 x202, .int .u8 x203, .int .u8 x204, .int .u8 x205, .int .u8 x206, .int .i64 x207, .int .i64 x208, .int .i64 x209, .int .u8 x210, .int .u8 x2111, .int .u8 x212, .int .u8 x213, .int .u8 x214, .int .u8 x215, .int .u8 x216, .int .u8 x217, .int .u8 x218, .int .u8 x219, .int .u8 x220, .int .u8 x221, .int .u8 x222, .int .u8 x223, .int .u8 x224, .int .u8 x225, .int .i64 x226, .int .i64 x227] t9_ 12 19 [.int .i64 x02, .int .u8 x1100, .int .u8 x228, .int .u8 x310, .int .u8 x410, .int .u8 x510, .int .u8 x610, .int .u8 x710, .int .u8 x810, .int .u8 x910, .int .u8 x1010, .int .u8 x1110, .int .u8 x1210, .int .u8 x1310, .int .u8 x1410, .int .u8 x1510, .int .u8 x1610, .int .i64 x1710, .int .i64 x1810] ∧
  NewVC w3 (.cells #[.int .i64 0, .int .u8 0, .int .u8 0, .int .u8 0, .int .u8 0, .int .u8 0, .int .u8 0, .int .u8 0, .int .u8 0, .int .u8 0, .int .u8 0, .int .u8 0, .int .u8 0, .int .u8 0, .int .u8 0, .int .u8 0, .int .u8 0, .int .i64 0, .int .i64 0] 151) fun g2 w4 =>
  SetVC w4 ⟨g2, 0, none⟩ (.int .i64 x02) fun w5 =>
  SetVC w5 ⟨g2, 1, none⟩ (.int .u8 x1100) fun w6 =>
  SetVC w6 ⟨g2, 2, none⟩ (.int .u8 x228) fun w7 =>
  SetVC w7 ⟨g2, 3, none⟩ (.int .u8 x310) fun w8 =>
  SetVC w8 ⟨g2, 4, none⟩ (.int .u8 x410) fun w9 =>
  SetVC w9 ⟨g2, 5, none⟩ (.int .u8 x510) fun w10 =>
  SetVC w10 ⟨g2, 6, none⟩ (.int .u8 x610) fun w11 =>
  SetVC w11 ⟨g2, 7, none⟩ (.int .u8 x710) fun w12 =>
  SetVC w12 ⟨g2, 8, none⟩ (.int .u8 x810) fun w13 =>
  SetVC w13 ⟨g2, 9, none⟩ (.int .u8 x910) fun w14 =>
  SetVC w14 ⟨g2, 10, none⟩ (.int .u8 x1010) fun w15 =>
  SetVC w15 ⟨g2, 11, none⟩ (.int .u8 x1110) fun w16 =>
  SetVC w16 ⟨g2, 12, none⟩ (.int .u8 x1210) fun w17 =>
  SetVC w17 ⟨g2, 13, none⟩ (.int .u8 x1310) fun w18 =>
  SetVC w18 ⟨g2, 14, none⟩ (.int .u8 x1410) fun w19 =>
  SetVC w19 ⟨g2, 15, none⟩ (.int .u8 x1510) fun w20 =>
  SetVC w20 ⟨g2, 16, none⟩ (.int .u8 x1610) fun w21 =>
  SetVC w21 ⟨g2, 17, none⟩ (.int .i64 x1710) fun w22 =>
  SetVC w22 ⟨g2, 18, none⟩ (.int .i64 x1810) fun w23 =>
  DrawVC w23 fun S1 w24 =>
  ∃ x229 : Int, (∀ w' : World, S1 w' → w'.cell? ⟨g2, 0, none⟩ = some (.int .i64 x229)) ∧
  ∃ x230 : Int, (∀ w' : World, S1 w' → w'.cell? ⟨g1, 0, none⟩ = some (.int .i64 x230)) ∧
  Br (decide (x229 = x230))
    (∃ x03 : Int, ∃ x1101 : Int, ∃ x231 : Int, ∃ x312 : Int, ∃ x412 : Int, ∃ x512 : Int, ∃ x612 : Int, ∃ x712 : Int, ∃ x812 : Int, ∃ x912 : Int, ∃ x1012 : Int, ∃ x1112 : Int, ∃ x1212 : Int, ∃ x1312 : Int, ∃ x1412 : Int, ∃ x1512 : Int, (∀ w' : World, S1 w' → CellsAt w' ⟨g1, 1, none⟩ 0 [.int .u8 x03, .int .u8 x1101, .int .u8 x231, .int .u8 x312, .int .u8 x412, .int .u8 x512, .int .u8 x612, .int .u8 x712, .int .u8 x812, .int .u8 x912, .int .u8 x1012, .int .u8 x1112, .int .u8 x1212, .int .u8 x1312, .int .u8 x1412, .int .u8 x1512]) ∧
    ∃ x232 : Int, (∀ w' : World, S1 w' → w'.cell? ⟨g2, 17, none⟩ = some (.int .i64 x232)) ∧
    ∃ x04 : Int, ∃ x1102 : Int, ∃ x233 : Int, ∃ x313 : Int, ∃ x413 : Int, ∃ x513 : Int, ∃ x613 : Int, ∃ x713 : Int, ∃ x813 : Int, ∃ x913 : Int, ∃ x1013 : Int, ∃ x1113 : Int, ∃ x1213 : Int, ∃ x1313 : Int, ∃ x1413 : Int, ∃ x1513 : Int, (∀ w' : World, S1 w' → CellsAt w' ⟨g2, 1, none⟩ 0 [.int .u8 x04, .int .u8 x1102, .int .u8 x233, .int .u8 x313, .int .u8 x413, .int .u8 x513, .int .u8 x613, .int .u8 x713, .int .u8 x813, .int .u8 x913, .int .u8 x1013, .int .u8 x1113, .int .u8 x1213, .int .u8 x1313, .int .u8 x1413, .int .u8 x1513]) ∧
    Calls Tryd.prog 99 #[.agg #[.int .u8 x03, .int .u8 x1101, .int .u8 x231, .int .u8 x312, .int .u8 x412, .int .u8 x512, .int .u8 x612, .int .u8 x712, .int .u8 x812, .int .u8 x912, .int .u8 x1012, .int .u8 x1112, .int .u8 x1212, .int .u8 x1312, .int .u8 x1412, .int .u8 x1512], .int .i64 x232] w24 (onRet (fun r_1 w25 => ∃ x05 : Int, ∃ x1103 : Int, ∃ x234 : Int, ∃ x314 : Int, ∃ x414 : Int, ∃ x514 : Int, ∃ x614 : Int, ∃ x714 : Int, ∃ x814 : Int, ∃ x914 : Int, ∃ x1014 : Int, ∃ x1114 : Int, ∃ x1214 : Int, ∃ x1314 : Int, ∃ x1414 : Int, ∃ x1514 : Int, r_1 = .agg #[.int .u8 x05, .int .u8 x1103, .int .u8 x234, .int .u8 x314, .int .u8 x414, .int .u8 x514, .int .u8 x614, .int .u8 x714, .int .u8 x814, .int .u8 x914, .int .u8 x1014, .int .u8 x1114, .int .u8 x1214, .int .u8 x1314, .int .u8 x1414, .int .u8 x1514] ∧
    S1 w25 ∧
    Br ((decide (x05 = x04)) && ((decide (x1103 = x1102)) && ((decide (x234 = x233)) && ((decide (x314 = x313)) && ((decide (x414 = x413)) && ((decide (x514 = x513)) && ((decide (x614 = x613)) && ((decide (x714 = x713)) && ((decide (x814 = x813)) && ((decide (x914 = x913)) && ((decide (x1014 = x1013)) && ((decide (x1114 = x1113)) && ((decide (x1214 = x1213)) && ((decide (x1314 = x1313)) && ((decide (x1414 = x1413)) && ((decide (x1514 = x1513)) && true))))))))))))))))
    (∃ x235 : Int, w25.cell? ⟨g2, 18, none⟩ = some (.int .i64 x235) ∧
    R (.returned (.int .i64 x235)) w25)
    (K58 (IntKind.i64.wrap (t9_ + 1)) w25))
      (fun _ _ => False)))
    (K58 (IntKind.i64.wrap (t9_ + 1)) w24))
    (R (.returned (.int .i64 7)) w3)
set_option maxRecDepth 100000 in
def addr_Class_VC (ip_V : Int) (ip_A0_ : Int) (ip_A1_ : Int) (ip_A2_ : Int) (ip_A3_ : Int) (ip_A4_ : Int) (ip_A5_ : Int) (ip_A6_ : Int) (ip_A7_ : Int) (ip_A8_ : Int) (ip_A9_ : Int) (ip_A10_ : Int) (ip_A11_ : Int) (ip_A12_ : Int) (ip_A13_ : Int) (ip_A14_ : Int) (ip_A15_ : Int) (w : World) (R : Ending → World → Prop) : Prop :=
  NewVC w (.cells #[.int .i64 ip_V, .int .u8 ip_A0_, .int .u8 ip_A1_, .int .u8 ip_A2_, .int .u8 ip_A3_, .int .u8 ip_A4_, .int .u8 ip_A5_, .int .u8 ip_A6_, .int .u8 ip_A7_, .int .u8 ip_A8_, .int .u8 ip_A9_, .int .u8 ip_A10_, .int .u8 ip_A11_, .int .u8 ip_A12_, .int .u8 ip_A13_, .int .u8 ip_A14_, .int .u8 ip_A15_] 31) fun g1 w1 =>
  ∃ x0 : Int, ∃ x1 : Int, ∃ x2 : Int, ∃ x3 : Int, ∃ x4 : Int, ∃ x5 : Int, ∃ x6 : Int, ∃ x7 : Int, ∃ x8 : Int, ∃ x9 : Int, ∃ x10 : Int, ∃ x11 : Int, ∃ x12 : Int, ∃ x13 : Int, ∃ x14 : Int, ∃ x15 : Int, ∃ x16 : Int, CellsAt w1 ⟨g1, 0, none⟩ 0 [.int .i64 x0, .int .u8 x1, .int .u8 x2, .int .u8 x3, .int .u8 x4, .int .u8 x5, .int .u8 x6, .int .u8 x7, .int .u8 x8, .int .u8 x9, .int .u8 x10, .int .u8 x11, .int .u8 x12, .int .u8 x13, .int .u8 x14, .int .u8 x15, .int .u8 x16] ∧
  Calls Tryd.prog 98 #[.agg #[.int .i64 x0, .int .u8 x1, .int .u8 x2, .int .u8 x3, .int .u8 x4, .int .u8 x5, .int .u8 x6, .int .u8 x7, .int .u8 x8, .int .u8 x9, .int .u8 x10, .int .u8 x11, .int .u8 x12, .int .u8 x13, .int .u8 x14, .int .u8 x15, .int .u8 x16]] w1 (onRet (fun r_ w2 => ∃ x : Bool, r_ = .bool x ∧
  Br (!x)
    (R (.returned (.int .i64 0)) w2)
    (∃ x01 : Int, ∃ x17 : Int, ∃ x21 : Int, ∃ x31 : Int, ∃ x41 : Int, ∃ x51 : Int, ∃ x61 : Int, ∃ x71 : Int, ∃ x81 : Int, ∃ x91 : Int, ∃ x101 : Int, ∃ x111 : Int, ∃ x121 : Int, ∃ x131 : Int, ∃ x141 : Int, ∃ x151 : Int, ∃ x161 : Int, ∃ x171 : Int, ∃ x18 : Int, ∃ x19 : Int, ∃ x20 : Int, ∃ x211 : Int, ∃ x22 : Int, ∃ x23 : Int, ∃ x24 : Int, ∃ x25 : Int, ∃ x26 : Int, ∃ x27 : Int, ∃ x28 : Int, ∃ x29 : Int, ∃ x30 : Int, ∃ x311 : Int, ∃ x32 : Int, ∃ x33 : Int, ∃ x34 : Int, ∃ x35 : Int, ∃ x36 : Int, ∃ x37 : Int, ∃ x38 : Int, ∃ x39 : Int, ∃ x40 : Int, ∃ x411 : Int, ∃ x42 : Int, ∃ x43 : Int, ∃ x44 : Int, ∃ x45 : Int, ∃ x46 : Int, ∃ x47 : Int, ∃ x48 : Int, ∃ x49 : Int, ∃ x50 : Int, ∃ x511 : Int, ∃ x52 : Int, ∃ x53 : Int, ∃ x54 : Int, ∃ x55 : Int, ∃ x56 : Int, ∃ x57 : Int, ∃ x58 : Int, ∃ x59 : Int, ∃ x60 : Int, ∃ x611 : Int, ∃ x62 : Int, ∃ x63 : Int, ∃ x64 : Int, ∃ x65 : Int, ∃ x66 : Int, ∃ x67 : Int, ∃ x68 : Int, ∃ x69 : Int, ∃ x70 : Int, ∃ x711 : Int, ∃ x72 : Int, ∃ x73 : Int, ∃ x74 : Int, ∃ x75 : Int, ∃ x76 : Int, ∃ x77 : Int, ∃ x78 : Int, ∃ x79 : Int, ∃ x80 : Int, ∃ x811 : Int, ∃ x82 : Int, ∃ x83 : Int, ∃ x84 : Int, ∃ x85 : Int, ∃ x86 : Int, ∃ x87 : Int, ∃ x88 : Int, ∃ x89 : Int, ∃ x90 : Int, ∃ x911 : Int, ∃ x92 : Int, ∃ x93 : Int, ∃ x94 : Int, ∃ x95 : Int, ∃ x96 : Int, ∃ x97 : Int, ∃ x98 : Int, ∃ x99 : Int, ∃ x100 : Int, ∃ x1011 : Int, ∃ x102 : Int, ∃ x103 : Int, ∃ x104 : Int, ∃ x105 : Int, ∃ x106 : Int, ∃ x107 : Int, ∃ x108 : Int, ∃ x109 : Int, ∃ x110 : Int, ∃ x1111 : Int, ∃ x112 : Int, ∃ x113 : Int, ∃ x114 : Int, ∃ x115 : Int, ∃ x116 : Int, ∃ x117 : Int, ∃ x118 : Int, ∃ x119 : Int, ∃ x120 : Int, ∃ x1211 : Int, ∃ x122 : Int, ∃ x123 : Int, ∃ x124 : Int, ∃ x125 : Int, ∃ x126 : Int, ∃ x127 : Int, ∃ x128 : Int, ∃ x129 : Int, ∃ x130 : Int, ∃ x1311 : Int, ∃ x132 : Int, ∃ x133 : Int, ∃ x134 : Int, ∃ x135 : Int, ∃ x136 : Int, ∃ x137 : Int, ∃ x138 : Int, ∃ x139 : Int, ∃ x140 : Int, ∃ x1411 : Int, ∃ x142 : Int, ∃ x143 : Int, ∃ x144 : Int, ∃ x145 : Int, ∃ x146 : Int, ∃ x147 : Int, ∃ x148 : Int, ∃ x149 : Int, ∃ x150 : Int, ∃ x1511 : Int, ∃ x152 : Int, ∃ x153 : Int, ∃ x154 : Int, ∃ x155 : Int, ∃ x156 : Int, ∃ x157 : Int, ∃ x158 : Int, ∃ x159 : Int, ∃ x160 : Int, ∃ x1611 : Int, ∃ x162 : Int, ∃ x163 : Int, ∃ x164 : Int, ∃ x165 : Int, ∃ x166 : Int, ∃ x167 : Int, ∃ x168 : Int, ∃ x169 : Int, ∃ x170 : Int, ∃ x1711 : Int, ∃ x172 : Int, ∃ x173 : Int, ∃ x174 : Int, ∃ x175 : Int, ∃ x176 : Int, ∃ x177 : Int, ∃ x178 : Int, ∃ x179 : Int, ∃ x180 : Int, ∃ x181 : Int, ∃ x182 : Int, ∃ x183 : Int, ∃ x184 : Int, ∃ x185 : Int, ∃ x186 : Int, ∃ x187 : Int, ∃ x188 : Int, ∃ x189 : Int, ∃ x190 : Int, ∃ x191 : Int, ∃ x192 : Int, ∃ x193 : Int, ∃ x194 : Int, ∃ x195 : Int, ∃ x196 : Int, ∃ x197 : Int, ∃ x198 : Int, ∃ x199 : Int, ∃ x200 : Int, ∃ x201 : Int, ∃ x202 : Int, ∃ x203 : Int, ∃ x204 : Int, ∃ x205 : Int, ∃ x206 : Int, ∃ x207 : Int, ∃ x208 : Int, ∃ x209 : Int, ∃ x210 : Int, ∃ x2111 : Int, ∃ x212 : Int, ∃ x213 : Int, ∃ x214 : Int, ∃ x215 : Int, ∃ x216 : Int, ∃ x217 : Int, ∃ x218 : Int, ∃ x219 : Int, ∃ x220 : Int, ∃ x221 : Int, ∃ x222 : Int, ∃ x223 : Int, ∃ x224 : Int, ∃ x225 : Int, ∃ x226 : Int, ∃ x227 : Int, CellsAt w2 ⟨2, 0, none⟩ 0 [.int .i64 x01, .int .u8 x17, .int .u8 x21, .int .u8 x31, .int .u8 x41, .int .u8 x51, .int .u8 x61, .int .u8 x71, .int .u8 x81, .int .u8 x91, .int .u8 x101, .int .u8 x111, .int .u8 x121, .int .u8 x131, .int .u8 x141, .int .u8 x151, .int .u8 x161, .int .i64 x171, .int .i64 x18, .int .i64 x19, .int .u8 x20, .int .u8 x211, .int .u8 x22, .int .u8 x23, .int .u8 x24, .int .u8 x25, .int .u8 x26, .int .u8 x27, .int .u8 x28, .int .u8 x29, .int .u8 x30, .int .u8 x311, .int .u8 x32, .int .u8 x33, .int .u8 x34, .int .u8 x35, .int .i64 x36, .int .i64 x37, .int .i64 x38, .int .u8 x39, .int .u8 x40, .int .u8 x411, .int .u8 x42, .int .u8 x43, .int .u8 x44, .int .u8 x45, .int .u8 x46, .int .u8 x47, .int .u8 x48, .int .u8 x49, .int .u8 x50, .int .u8 x511, .int .u8 x52, .int .u8 x53, .int .u8 x54, .int .i64 x55, .int .i64 x56, .int .i64 x57, .int .u8 x58, .int .u8 x59, .int .u8 x60, .int .u8 x611, .int .u8 x62, .int .u8 x63, .int .u8 x64, .int .u8 x65, .int .u8 x66, .int .u8 x67, .int .u8 x68, .int .u8 x69, .int .u8 x70, .int .u8 x711, .int .u8 x72, .int .u8 x73, .int .i64 x74, .int .i64 x75, .int .i64 x76, .int .u8 x77, .int .u8 x78, .int .u8 x79, .int .u8 x80, .int .u8 x811, .int .u8 x82, .int .u8 x83, .int .u8 x84, .int .u8 x85, .int .u8 x86, .int .u8 x87, .int .u8 x88, .int .u8 x89, .int .u8 x90, .int .u8 x911, .int .u8 x92, .int .i64 x93, .int .i64 x94, .int .i64 x95, .int .u8 x96, .int .u8 x97, .int .u8 x98, .int .u8 x99, .int .u8 x100, .int .u8 x1011, .int .u8 x102, .int .u8 x103, .int .u8 x104, .int .u8 x105, .int .u8 x106, .int .u8 x107, .int .u8 x108, .int .u8 x109, .int .u8 x110, .int .u8 x1111, .int .i64 x112, .int .i64 x113, .int .i64 x114, .int .u8 x115, .int .u8 x116, .int .u8 x117, .int .u8 x118, .int .u8 x119, .int .u8 x120, .int .u8 x1211, .int .u8 x122, .int .u8 x123, .int .u8 x124, .int .u8 x125, .int .u8 x126, .int .u8 x127, .int .u8 x128, .int .u8 x129, .int .u8 x130, .int .i64 x1311, .int .i64 x132, .int .i64 x133, .int .u8 x134, .int .u8 x135, .int .u8 x136, .int .u8 x137, .int .u8 x138, .int .u8 x139, .int .u8 x140, .int .u8 x1411, .int .u8 x142, .int .u8 x143, .int .u8 x144, .int .u8 x145, .int .u8 x146, .int .u8 x147, .int .u8 x148, .int .u8 x149, .int .i64 x150, .int .i64 x1511, .int .i64 x152, .int .u8 x153, .int .u8 x154, .int .u8 x155, .int .u8 x156, .int .u8 x157, .int .u8 x158, .int .u8 x159, .int .u8 x160, .int .u8 x1611, .int .u8 x162, .int .u8 x163, .int .u8 x164, .int .u8 x165, .int .u8 x166, .int .u8 x167, .int .u8 x168, .int .i64 x169, .int .i64 x170, .int .i64 x1711, .int .u8 x172, .int .u8 x173, .int .u8 x174, .int .u8 x175, .int .u8 x176, .int .u8 x177, .int .u8 x178, .int .u8 x179, .int .u8 x180, .int .u8 x181, .int .u8 x182, .int .u8 x183, .int .u8 x184, .int .u8 x185, .int .u8 x186, .int .u8 x187, .int .i64 x188, .int .i64 x189, .int .i64 x190, .int .u8 x191, .int .u8 x192, .int .u8 x193, .int .u8 x194, .int .u8 x195, .int .u8 x196, .int .u8 x197, .int .u8 x198, .int .u8 x199, .int .u8 x200, .int .u8 x201, .int .u8 x202, .int .u8 x203, .int .u8 x204, .int .u8 x205, .int .u8 x206, .int .i64 x207, .int .i64 x208, .int .i64 x209, .int .u8 x210, .int .u8 x2111, .int .u8 x212, .int .u8 x213, .int .u8 x214, .int .u8 x215, .int .u8 x216, .int .u8 x217, .int .u8 x218, .int .u8 x219, .int .u8 x220, .int .u8 x221, .int .u8 x222, .int .u8 x223, .int .u8 x224, .int .u8 x225, .int .i64 x226, .int .i64 x227] ∧
  LoopVC (S := Int) (fun s_ w3 K58 => addr_Class_L58 R g1 x01 x17 x21 x31 x41 x51 x61 x71 x81 x91 x101 x111 x121 x131 x141 x151 x161 x171 x18 x19 x20 x211 x22 x23 x24 x25 x26 x27 x28 x29 x30 x311 x32 x33 x34 x35 x36 x37 x38 x39 x40 x411 x42 x43 x44 x45 x46 x47 x48 x49 x50 x511 x52 x53 x54 x55 x56 x57 x58 x59 x60 x611 x62 x63 x64 x65 x66 x67 x68 x69 x70 x711 x72 x73 x74 x75 x76 x77 x78 x79 x80 x811 x82 x83 x84 x85 x86 x87 x88 x89 x90 x911 x92 x93 x94 x95 x96 x97 x98 x99 x100 x1011 x102 x103 x104 x105 x106 x107 x108 x109 x110 x1111 x112 x113 x114 x115 x116 x117 x118 x119 x120 x1211 x122 x123 x124 x125 x126 x127 x128 x129 x130 x1311 x132 x133 x134 x135 x136 x137 x138 x139 x140 x1411 x142 x143 x144 x145 x146 x147 x148 x149 x150 x1511 x152 x153 x154 x155 x156 x157 x158 x159 x160 x1611 x162 x163 x164 x165 x166 x167 x168 x169 x170 x1711 x172 x173 x174 x175 x176 x177 x178 x179 x180 x181 x182 x183 x184 x185 x186 x187 x188 x189 x190 x191 x192 x193 x194 x195 x196 x197 x198 x199 x200 x201 x202 x203 x204 x205 x206 x207 x208 x209 x210 x2111 x212 x213 x214 x215 x216 x217 x218 x219 x220 x221 x222 x223 x224 x225 x226 x227 s_ w3 K58) 0 w2))
    (fun ch w2 => R (.panicked ch) w2))
def addr_Class_H : Hints := [(58, [(9, .int .i64)])]
set_option maxRecDepth 100000 in
theorem addr_Class_of (ip_V : Int) (ip_A0_ : Int) (ip_A1_ : Int) (ip_A2_ : Int) (ip_A3_ : Int) (ip_A4_ : Int) (ip_A5_ : Int) (ip_A6_ : Int) (ip_A7_ : Int) (ip_A8_ : Int) (ip_A9_ : Int) (ip_A10_ : Int) (ip_A11_ : Int) (ip_A12_ : Int) (ip_A13_ : Int) (ip_A14_ : Int) (ip_A15_ : Int) (w : World) (R : Ending → World → Prop) (h : addr_Class_VC ip_V ip_A0_ ip_A1_ ip_A2_ ip_A3_ ip_A4_ ip_A5_ ip_A6_ ip_A7_ ip_A8_ ip_A9_ ip_A10_ ip_A11_ ip_A12_ ip_A13_ ip_A14_ ip_A15_ w R) :
    Calls Tryd.prog 72 #[.agg #[.int .i64 ip_V, .int .u8 ip_A0_, .int .u8 ip_A1_, .int .u8 ip_A2_, .int .u8 ip_A3_, .int .u8 ip_A4_, .int .u8 ip_A5_, .int .u8 ip_A6_, .int .u8 ip_A7_, .int .u8 ip_A8_, .int .u8 ip_A9_, .int .u8 ip_A10_, .int .u8 ip_A11_, .int .u8 ip_A12_, .int .u8 ip_A13_, .int .u8 ip_A14_, .int .u8 ip_A15_]] w R :=
  calls_of_wpc callOk mixedOk (H := addr_Class_H) (args := [.agg #[.int .i64 ip_V, .int .u8 ip_A0_, .int .u8 ip_A1_, .int .u8 ip_A2_, .int .u8 ip_A3_, .int .u8 ip_A4_, .int .u8 ip_A5_, .int .u8 ip_A6_, .int .u8 ip_A7_, .int .u8 ip_A8_, .int .u8 ip_A9_, .int .u8 ip_A10_, .int .u8 ip_A11_, .int .u8 ip_A12_, .int .u8 ip_A13_, .int .u8 ip_A14_, .int .u8 ip_A15_]]) (fn := Tryd.f72) (c := bodyOf Tryd.f72) Tryd.func72 rfl (Nat.le_of_ble_eq_true rfl)
    (Eq.mp (by kernel_rfl : addr_Class_VC ip_V ip_A0_ ip_A1_ ip_A2_ ip_A3_ ip_A4_ ip_A5_ ip_A6_ ip_A7_ ip_A8_ ip_A9_ ip_A10_ ip_A11_ ip_A12_ ip_A13_ ip_A14_ ip_A15_ w R = wpc Tryd.prog callF Tryd.f72.ntmps addr_Class_H 1 (bodyOf Tryd.f72) (argEnv 0 [.agg #[.int .i64 ip_V, .int .u8 ip_A0_, .int .u8 ip_A1_, .int .u8 ip_A2_, .int .u8 ip_A3_, .int .u8 ip_A4_, .int .u8 ip_A5_, .int .u8 ip_A6_, .int .u8 ip_A7_, .int .u8 ip_A8_, .int .u8 ip_A9_, .int .u8 ip_A10_, .int .u8 ip_A11_, .int .u8 ip_A12_, .int .u8 ip_A13_, .int .u8 ip_A14_, .int .u8 ip_A15_]]) [] w (finish Tryd.prog callF Tryd.f72.results.toList R)) h)

set_option maxRecDepth 100000 in
def addr_Valid_VC (ip_V : Int) (ip_A0_ : Int) (ip_A1_ : Int) (ip_A2_ : Int) (ip_A3_ : Int) (ip_A4_ : Int) (ip_A5_ : Int) (ip_A6_ : Int) (ip_A7_ : Int) (ip_A8_ : Int) (ip_A9_ : Int) (ip_A10_ : Int) (ip_A11_ : Int) (ip_A12_ : Int) (ip_A13_ : Int) (ip_A14_ : Int) (ip_A15_ : Int) (w : World) (R : Ending → World → Prop) : Prop :=
  NewVC w (.cells #[.int .i64 ip_V, .int .u8 ip_A0_, .int .u8 ip_A1_, .int .u8 ip_A2_, .int .u8 ip_A3_, .int .u8 ip_A4_, .int .u8 ip_A5_, .int .u8 ip_A6_, .int .u8 ip_A7_, .int .u8 ip_A8_, .int .u8 ip_A9_, .int .u8 ip_A10_, .int .u8 ip_A11_, .int .u8 ip_A12_, .int .u8 ip_A13_, .int .u8 ip_A14_, .int .u8 ip_A15_] 31) fun g1 w1 =>
  ∃ x0 : Int, ∃ x1 : Int, ∃ x2 : Int, ∃ x3 : Int, ∃ x4 : Int, ∃ x5 : Int, ∃ x6 : Int, ∃ x7 : Int, ∃ x8 : Int, ∃ x9 : Int, ∃ x10 : Int, ∃ x11 : Int, ∃ x12 : Int, ∃ x13 : Int, ∃ x14 : Int, ∃ x15 : Int, ∃ x16 : Int, CellsAt w1 ⟨g1, 0, none⟩ 0 [.int .i64 x0, .int .u8 x1, .int .u8 x2, .int .u8 x3, .int .u8 x4, .int .u8 x5, .int .u8 x6, .int .u8 x7, .int .u8 x8, .int .u8 x9, .int .u8 x10, .int .u8 x11, .int .u8 x12, .int .u8 x13, .int .u8 x14, .int .u8 x15, .int .u8 x16] ∧
  Calls Tryd.prog 122 #[.agg #[.int .i64 x0, .int .u8 x1, .int .u8 x2, .int .u8 x3, .int .u8 x4, .int .u8 x5, .int .u8 x6, .int .u8 x7, .int .u8 x8, .int .u8 x9, .int .u8 x10, .int .u8 x11, .int .u8 x12, .int .u8 x13, .int .u8 x14, .int .u8 x15, .int .u8 x16]] w1 (onRet (fun r_ w2 => ∃ x : Int, r_ = .int .i64 x ∧
  R (.returned (.bool (decide ((0 : Int) < x)))) w2)
    (fun ch w2 => R (.panicked ch) w2))
def addr_Valid_H : Hints := []
set_option maxRecDepth 100000 in
theorem addr_Valid_of (ip_V : Int) (ip_A0_ : Int) (ip_A1_ : Int) (ip_A2_ : Int) (ip_A3_ : Int) (ip_A4_ : Int) (ip_A5_ : Int) (ip_A6_ : Int) (ip_A7_ : Int) (ip_A8_ : Int) (ip_A9_ : Int) (ip_A10_ : Int) (ip_A11_ : Int) (ip_A12_ : Int) (ip_A13_ : Int) (ip_A14_ : Int) (ip_A15_ : Int) (w : World) (R : Ending → World → Prop) (h : addr_Valid_VC ip_V ip_A0_ ip_A1_ ip_A2_ ip_A3_ ip_A4_ ip_A5_ ip_A6_ ip_A7_ ip_A8_ ip_A9_ ip_A10_ ip_A11_ ip_A12_ ip_A13_ ip_A14_ ip_A15_ w R) :
    Calls Tryd.prog 98 #[.agg #[.int .i64 ip_V, .int .u8 ip_A0_, .int .u8 ip_A1_, .int .u8 ip_A2_, .int .u8 ip_A3_, .int .u8 ip_A4_, .int .u8 ip_A5_, .int .u8 ip_A6_, .int .u8 ip_A7_, .int .u8 ip_A8_, .int .u8 ip_A9_, .int .u8 ip_A10_, .int .u8 ip_A11_, .int .u8 ip_A12_, .int .u8 ip_A13_, .int .u8 ip_A14_, .int .u8 ip_A15_]] w R :=
  calls_of_wpc callOk mixedOk (H := addr_Valid_H) (args := [.agg #[.int .i64 ip_V, .int .u8 ip_A0_, .int .u8 ip_A1_, .int .u8 ip_A2_, .int .u8 ip_A3_, .int .u8 ip_A4_, .int .u8 ip_A5_, .int .u8 ip_A6_, .int .u8 ip_A7_, .int .u8 ip_A8_, .int .u8 ip_A9_, .int .u8 ip_A10_, .int .u8 ip_A11_, .int .u8 ip_A12_, .int .u8 ip_A13_, .int .u8 ip_A14_, .int .u8 ip_A15_]]) (fn := Tryd.f98) (c := bodyOf Tryd.f98) Tryd.func98 rfl (Nat.le_of_ble_eq_true rfl)
    (Eq.mp (by kernel_rfl : addr_Valid_VC ip_V ip_A0_ ip_A1_ ip_A2_ ip_A3_ ip_A4_ ip_A5_ ip_A6_ ip_A7_ ip_A8_ ip_A9_ ip_A10_ ip_A11_ ip_A12_ ip_A13_ ip_A14_ ip_A15_ w R = wpc Tryd.prog callF Tryd.f98.ntmps addr_Valid_H 1 (bodyOf Tryd.f98) (argEnv 0 [.agg #[.int .i64 ip_V, .int .u8 ip_A0_, .int .u8 ip_A1_, .int .u8 ip_A2_, .int .u8 ip_A3_, .int .u8 ip_A4_, .int .u8 ip_A5_, .int .u8 ip_A6_, .int .u8 ip_A7_, .int .u8 ip_A8_, .int .u8 ip_A9_, .int .u8 ip_A10_, .int .u8 ip_A11_, .int .u8 ip_A12_, .int .u8 ip_A13_, .int .u8 ip_A14_, .int .u8 ip_A15_]]) [] w (finish Tryd.prog callF Tryd.f98.results.toList R)) h)

set_option maxRecDepth 100000 in
def addr_masked_L58 (R : Ending → World → Prop) (n : Int) (g1 : Nat) (g2 : Nat) (g3 : Nat) (t8_ : Int) (w4 : World) (K58 : (Int → World → Prop)) : Prop :=
  Br (decide (t8_ < 16))
    (IdxVC (some ⟨g1, 0, none⟩) 16 1 t8_ fun a =>
  ∃ x : Int, w4.cell? a = some (.int .u8 x) ∧
  ShVC (IntKind.u64.wrap (if (if 0 < IntKind.i64.wrap (n - IntKind.i64.wrap (8 * t8_)) then IntKind.i64.wrap (n - IntKind.i64.wrap (8 * t8_)) else 0) < 8 then (if 0 < IntKind.i64.wrap (n - IntKind.i64.wrap (8 * t8_)) then IntKind.i64.wrap (n - IntKind.i64.wrap (8 * t8_)) else 0) else 8)) (
  IdxVC (some ⟨g3, 0, none⟩) 16 1 t8_ fun a16 =>
  SetVC w4 a16 (.int .u8 (bitv .and .u8 x (IntKind.u8.wrap (Int.fdiv 65280 (2 ^ (min ((IntKind.u64.wrap (if (if 0 < IntKind.i64.wrap (n - IntKind.i64.wrap (8 * t8_)) then IntKind.i64.wrap (n - IntKind.i64.wrap (8 * t8_)) else 0) < 8 then (if 0 < IntKind.i64.wrap (n - IntKind.i64.wrap (8 * t8_)) then IntKind.i64.wrap (n - IntKind.i64.wrap (8 * t8_)) else 0) else 8)).toNat) 64)))))) fun w5 =>
  K58 (IntKind.i64.wrap (t8_ + 1)) w5))
    (∃ x0 : Int, ∃ x1 : Int, ∃ x2 : Int, ∃ x3 : Int, ∃ x4 : Int, ∃ x5 : Int, ∃ x6 : Int, ∃ x7 : Int, ∃ x8 : Int, ∃ x9 : Int, ∃ x10 : Int, ∃ x11 : Int, ∃ x12 : Int, ∃ x13 : Int, ∃ x14 : Int, ∃ x15 : Int, CellsAt w4 ⟨g3, 0, none⟩ 0 [.int .u8 x0, .int .u8 x1, .int .u8 x2, .int .u8 x3, .int .u8 x4, .int .u8 x5, .int .u8 x6, .int .u8 x7, .int .u8 x8, .int .u8 x9, .int .u8 x10, .int .u8 x11, .int .u8 x12, .int .u8 x13, .int .u8 x14, .int .u8 x15] ∧
  SetVC w4 ⟨g2, 0, none⟩ (.int .u8 x0) fun w6 =>
  SetVC w6 ⟨g2, 1, none⟩ (.int .u8 x1) fun w7 =>
  SetVC w7 ⟨g2, 2, none⟩ (.int .u8 x2) fun w8 =>
  SetVC w8 ⟨g2, 3, none⟩ (.int .u8 x3) fun w9 =>
  SetVC w9 ⟨g2, 4, none⟩ (.int .u8 x4) fun w10 =>
  SetVC w10 ⟨g2, 5, none⟩ (.int .u8 x5) fun w11 =>
  SetVC w11 ⟨g2, 6, none⟩ (.int .u8 x6) fun w12 =>
  SetVC w12 ⟨g2, 7, none⟩ (.int .u8 x7) fun w13 =>
  SetVC w13 ⟨g2, 8, none⟩ (.int .u8 x8) fun w14 =>
  SetVC w14 ⟨g2, 9, none⟩ (.int .u8 x9) fun w15 =>
  SetVC w15 ⟨g2, 10, none⟩ (.int .u8 x10) fun w16 =>
  SetVC w16 ⟨g2, 11, none⟩ (.int .u8 x11) fun w17 =>
  SetVC w17 ⟨g2, 12, none⟩ (.int .u8 x12) fun w18 =>
  SetVC w18 ⟨g2, 13, none⟩ (.int .u8 x13) fun w19 =>
  SetVC w19 ⟨g2, 14, none⟩ (.int .u8 x14) fun w20 =>
  SetVC w20 ⟨g2, 15, none⟩ (.int .u8 x15) fun w21 =>
  ∃ res0 : Int, ∃ res1 : Int, ∃ res2 : Int, ∃ res3 : Int, ∃ res4 : Int, ∃ res5 : Int, ∃ res6 : Int, ∃ res7 : Int, ∃ res8 : Int, ∃ res9 : Int, ∃ res10 : Int, ∃ res11 : Int, ∃ res12 : Int, ∃ res13 : Int, ∃ res14 : Int, ∃ res15 : Int, CellsAt w21 ⟨g2, 0, none⟩ 0 [.int .u8 res0, .int .u8 res1, .int .u8 res2, .int .u8 res3, .int .u8 res4, .int .u8 res5, .int .u8 res6, .int .u8 res7, .int .u8 res8, .int .u8 res9, .int .u8 res10, .int .u8 res11, .int .u8 res12, .int .u8 res13, .int .u8 res14, .int .u8 res15] ∧
  R (.returned (.agg #[.int .u8 res0, .int .u8 res1, .int .u8 res2, .int .u8 res3, .int .u8 res4, .int .u8 res5, .int .u8 res6, .int .u8 res7, .int .u8 res8, .int .u8 res9, .int .u8 res10, .int .u8 res11, .int .u8 res12, .int .u8 res13, .int .u8 res14, .int .u8 res15])) w21)
set_option maxRecDepth 100000 in
def addr_masked_VC (a0 : Int) (a1 : Int) (a2 : Int) (a3 : Int) (a4 : Int) (a5 : Int) (a6 : Int) (a7 : Int) (a8 : Int) (a9 : Int) (a10 : Int) (a11 : Int) (a12 : Int) (a13 : Int) (a14 : Int) (a15 : Int) (n : Int) (w : World) (R : Ending → World → Prop) : Prop :=
  NewVC w (.cells #[.int .u8 a0, .int .u8 a1, .int .u8 a2, .int .u8 a3, .int .u8 a4, .int .u8 a5, .int .u8 a6, .int .u8 a7, .int .u8 a8, .int .u8 a9, .int .u8 a10, .int .u8 a11, .int .u8 a12, .int .u8 a13, .int .u8 a14, .int .u8 a15] 29) fun g1 w1 =>
  NewVC w1 (.cells #[.int .u8 0, .int .u8 0, .int .u8 0, .int .u8 0, .int .u8 0, .int .u8 0, .int .u8 0, .int .u8 0, .int .u8 0, .int .u8 0, .int .u8 0, .int .u8 0, .int .u8 0, .int .u8 0, .int .u8 0, .int .u8 0] 29) fun g2 w2 =>
  NewVC w2 (.cells #[.int .u8 0, .int .u8 0, .int .u8 0, .int .u8 0, .int .u8 0, .int .u8 0, .int .u8 0, .int .u8 0, .int .u8 0, .int .u8 0, .int .u8 0, .int .u8 0, .int .u8 0, .int .u8 0, .int .u8 0, .int .u8 0] 29) fun g3 w3 =>
  LoopVC (S := Int) (fun s_ w4 K58 => addr_masked_L58 R n g1 g2 g3 s_ w4 K58) 0 w3
def addr_masked_H : Hints := [(58, [(8, .int .i64)])]
set_option maxRecDepth 100000 in
theorem addr_masked_of (a0 : Int) (a1 : Int) (a2 : Int) (a3 : Int) (a4 : Int) (a5 : Int) (a6 : Int) (a7 : Int) (a8 : Int) (a9 : Int) (a10 : Int) (a11 : Int) (a12 : Int) (a13 : Int) (a14 : Int) (a15 : Int) (n : Int) (w : World) (R : Ending → World → Prop) (h : addr_masked_VC a0 a1 a2 a3 a4 a5 a6 a7 a8 a9 a10 a11 a12 a13 a14 a15 n w R) :
    Calls Tryd.prog 99 #[.agg #[.int .u8 a0, .int .u8 a1, .int .u8 a2, .int .u8 a3, .int .u8 a4, .int .u8 a5, .int .u8 a6, .int .u8 a7, .int .u8 a8, .int .u8 a9, .int .u8 a10, .int .u8 a11, .int .u8 a12, .int .u8 a13, .int .u8 a14, .int .u8 a15], .int .i64 n] w R :=
  calls_of_wpc callOk mixedOk (H := addr_masked_H) (args := [.agg #[.int .u8 a0, .int .u8 a1, .int .u8 a2, .int .u8 a3, .int .u8 a4, .int .u8 a5, .int .u8 a6, .int .u8 a7, .int .u8 a8, .int .u8 a9, .int .u8 a10, .int .u8 a11, .int .u8 a12, .int .u8 a13, .int .u8 a14, .int .u8 a15], .int .i64 n]) (fn := Tryd.f99) (c := bodyOf Tryd.f99) Tryd.func99 rfl (Nat.le_of_ble_eq_true rfl)
    (Eq.mp (by kernel_rfl : addr_masked_VC a0 a1 a2 a3 a4 a5 a6 a7 a8 a9 a10 a11 a12 a13 a14 a15 n w R = wpc Tryd.prog callF Tryd.f99.ntmps addr_masked_H 1 (bodyOf Tryd.f99) (argEnv 0 [.agg #[.int .u8 a0, .int .u8 a1, .int .u8 a2, .int .u8 a3, .int .u8 a4, .int .u8 a5, .int .u8 a6, .int .u8 a7, .int .u8 a8, .int .u8 a9, .int .u8 a10, .int .u8 a11, .int .u8 a12, .int .u8 a13, .int .u8 a14, .int .u8 a15], .int .i64 n]) [] w (finish Tryd.prog callF Tryd.f99.results.toList R)) h)

set_option maxRecDepth 100000 in
def addr_size_VC (ip_V : Int) (ip_A0_ : Int) (ip_A1_ : Int) (ip_A2_ : Int) (ip_A3_ : Int) (ip_A4_ : Int) (ip_A5_ : Int) (ip_A6_ : Int) (ip_A7_ : Int) (ip_A8_ : Int) (ip_A9_ : Int) (ip_A10_ : Int) (ip_A11_ : Int) (ip_A12_ : Int) (ip_A13_ : Int) (ip_A14_ : Int) (ip_A15_ : Int) (w : World) (R : Ending → World → Prop) : Prop :=
  NewVC w (.cells #[.int .i64 ip_V, .int .u8 ip_A0_, .int .u8 ip_A1_, .int .u8 ip_A2_, .int .u8 ip_A3_, .int .u8 ip_A4_, .int .u8 ip_A5_, .int .u8 ip_A6_, .int .u8 ip_A7_, .int .u8 ip_A8_, .int .u8 ip_A9_, .int .u8 ip_A10_, .int .u8 ip_A11_, .int .u8 ip_A12_, .int .u8 ip_A13_, .int .u8 ip_A14_, .int .u8 ip_A15_] 31) fun g1 w1 =>
  ∃ x : Int, w1.cell? ⟨g1, 0, none⟩ = some (.int .i64 x) ∧
  Br (decide (x = 6))
    (R (.returned (.int .i64 128)) w1)
    (∃ x1 : Int, w1.cell? ⟨g1, 0, none⟩ = some (.int .i64 x1) ∧
  Br (decide (x1 ≠ 4))
    (R (.returned (.int .i64 0)) w1)
    (SliceVC (some ⟨g1, 1, none⟩) 16 16 1 (some 4) none none fun sA sn _sc =>
    12 ≤ sn ∧
    NilVC sA fun p =>
    ∃ x0 : Int, ∃ x11 : Int, ∃ x2 : Int, ∃ x3 : Int, ∃ x4 : Int, ∃ x5 : Int, ∃ x6 : Int, ∃ x7 : Int, ∃ x8 : Int, ∃ x9 : Int, ∃ x10 : Int, ∃ x111 : Int, CellsAt w1 p 0 [.int .u8 x0, .int .u8 x11, .int .u8 x2, .int .u8 x3, .int .u8 x4, .int .u8 x5, .int .u8 x6, .int .u8 x7, .int .u8 x8, .int .u8 x9, .int .u8 x10, .int .u8 x111] ∧
    Br (!(((decide (x0 = 0)) && ((decide (x11 = 0)) && ((decide (x2 = 0)) && ((decide (x3 = 0)) && ((decide (x4 = 0)) && ((decide (x5 = 0)) && ((decide (x6 = 0)) && ((decide (x7 = 0)) && ((decide (x8 = 0)) && ((decide (x9 = 0)) && ((decide (x10 = 0)) && ((decide (x111 = 0)) && true))))))))))))))
    (R (.returned (.int .i64 0)) w1)
    (R (.returned (.int .i64 32)) w1)))
def addr_size_H : Hints := []
set_option maxRecDepth 100000 in
theorem addr_size_of (ip_V : Int) (ip_A0_ : Int) (ip_A1_ : Int) (ip_A2_ : Int) (ip_A3_ : Int) (ip_A4_ : Int) (ip_A5_ : Int) (ip_A6_ : Int) (ip_A7_ : Int) (ip_A8_ : Int) (ip_A9_ : Int) (ip_A10_ : Int) (ip_A11_ : Int) (ip_A12_ : Int) (ip_A13_ : Int) (ip_A14_ : Int) (ip_A15_ : Int) (w : World) (R : Ending → World → Prop) (h : addr_size_VC ip_V ip_A0_ ip_A1_ ip_A2_ ip_A3_ ip_A4_ ip_A5_ ip_A6_ ip_A7_ ip_A8_ ip_A9_ ip_A10_ ip_A11_ ip_A12_ ip_A13_ ip_A14_ ip_A15_ w R) :
    Calls Tryd.prog 122 #[.agg #[.int .i64 ip_V, .int .u8 ip_A0_, .int .u8 ip_A1_, .int .u8 ip_A2_, .int .u8 ip_A3_, .int .u8 ip_A4_, .int .u8 ip_A5_, .int .u8 ip_A6_, .int .u8 ip_A7_, .int .u8 ip_A8_, .int .u8 ip_A9_, .int .u8 ip_A10_, .int .u8 ip_A11_, .int .u8 ip_A12_, .int .u8 ip_A13_, .int .u8 ip_A14_, .int .u8 ip_A15_]] w R :=
  calls_of_wpc callOk mixedOk (H := addr_size_H) (args := [.agg #[.int .i64 ip_V, .int .u8 ip_A0_, .int .u8 ip_A1_, .int .u8 ip_A2_, .int .u8 ip_A3_, .int .u8 ip_A4_, .int .u8 ip_A5_, .int .u8 ip_A6_, .int .u8 ip_A7_, .int .u8 ip_A8_, .int .u8 ip_A9_, .int .u8 ip_A10_, .int .u8 ip_A11_, .int .u8 ip_A12_, .int .u8 ip_A13_, .int .u8 ip_A14_, .int .u8 ip_A15_]]) (fn := Tryd.f122) (c := bodyOf Tryd.f122) Tryd.func122 rfl (Nat.le_of_ble_eq_true rfl)
    (Eq.mp (by kernel_rfl : addr_size_VC ip_V ip_A0_ ip_A1_ ip_A2_ ip_A3_ ip_A4_ ip_A5_ ip_A6_ ip_A7_ ip_A8_ ip_A9_ ip_A10_ ip_A11_ ip_A12_ ip_A13_ ip_A14_ ip_A15_ w R = wpc Tryd.prog callF Tryd.f122.ntmps addr_size_H 1 (bodyOf Tryd.f122) (argEnv 0 [.agg #[.int .i64 ip_V, .int .u8 ip_A0_, .int .u8 ip_A1_, .int .u8 ip_A2_, .int .u8 ip_A3_, .int .u8 ip_A4_, .int .u8 ip_A5_, .int .u8 ip_A6_, .int .u8 ip_A7_, .int .u8 ip_A8_, .int .u8 ip_A9_, .int .u8 ip_A10_, .int .u8 ip_A11_, .int .u8 ip_A12_, .int .u8 ip_A13_, .int .u8 ip_A14_, .int .u8 ip_A15_]]) [] w (finish Tryd.prog callF Tryd.f122.results.toList R)) h)

end Nd
end Go.Proofs.YtjngdcilnipjcaaDoor
/- Layer 4's Class (the program's): Valid, the masks, the table of nets. -/
namespace Go.Eng
open Go Go.RowKit
def setsVC (g : Nat) : Nat → List Value → World → (World → Prop) → Prop
  | _, [], w, K => K w
  | i, v :: vs, w, K => SetVC w ⟨g, i, none⟩ v fun w1 => setsVC g (i + 1) vs w1 K
/-- A block of sixteen cells is written from end to end. -/
theorem setAll {g : Nat} {t : TypeId} : ∀ (vs : List Value) (i : Nat) (w : World) (cs : List Value) (K : World → Prop), Blk w g t cs → i + vs.length = cs.length →
    (∀ w', w'.heap.size = w.heap.size → Mod (fun k => k = g) w w' → Blk w' g t (cs.take i ++ vs) → K w') → setsVC g i vs w K
  | [], i, w, cs, K, hb, hl, h => h w rfl (Mod.refl _ _) (by simp at hl; rw [List.append_nil, List.take_of_length_le (by omega)]; exact hb)
  | v :: vs, i, w, cs, K, hb, hl, h => by
    unfold setsVC
    have hl' : i + (vs.length + 1) = cs.length := by simpa using hl
    refine SetVC.blk hb (by omega) fun w1 z1 m1 h1 => ?_
    refine setAll vs (i + 1) w1 _ K h1 (by simp; omega) fun w2 z2 m2 h2 => h w2 (by omega) (m1.trans m2) ?_
    have e : (cs.set i v).take (i + 1) ++ vs = cs.take i ++ v :: vs := by
      rw [List.take_succ_eq_append_getElem (by simp; omega)]
      simp [List.take_set_of_le]
    rw [← e]; exact h2
def IPV.arr (p : IPV) : Value := .agg #[.int .u8 p.a0, .int .u8 p.a1, .int .u8 p.a2, .int .u8 p.a3, .int .u8 p.a4, .int .u8 p.a5, .int .u8 p.a6, .int .u8 p.a7, .int .u8 p.a8, .int .u8 p.a9, .int .u8 p.a10, .int .u8 p.a11, .int .u8 p.a12, .int .u8 p.a13, .int .u8 p.a14, .int .u8 p.a15]
def IPV.row (p : IPV) : List Value := [.int .u8 p.a0, .int .u8 p.a1, .int .u8 p.a2, .int .u8 p.a3, .int .u8 p.a4, .int .u8 p.a5, .int .u8 p.a6, .int .u8 p.a7, .int .u8 p.a8, .int .u8 p.a9, .int .u8 p.a10, .int .u8 p.a11, .int .u8 p.a12, .int .u8 p.a13, .int .u8 p.a14, .int .u8 p.a15]
/-- The first n bits of the i-th byte. -/
def maskB (a n i : Int) : Int := bitv .and .u8 a (IntKind.u8.wrap (Int.fdiv 65280 (2 ^ (min ((IntKind.u64.wrap (if (if 0 < IntKind.i64.wrap (n - IntKind.i64.wrap (8 * i)) then IntKind.i64.wrap (n - IntKind.i64.wrap (8 * i)) else 0) < 8 then (if 0 < IntKind.i64.wrap (n - IntKind.i64.wrap (8 * i)) then IntKind.i64.wrap (n - IntKind.i64.wrap (8 * i)) else 0) else 8)).toNat) 64))))
def maskS (p : IPV) (n : Int) : IPV := ⟨p.v, maskB p.a0 n 0, maskB p.a1 n 1, maskB p.a2 n 2, maskB p.a3 n 3, maskB p.a4 n 4, maskB p.a5 n 5, maskB p.a6 n 6, maskB p.a7 n 7, maskB p.a8 n 8, maskB p.a9 n 9, maskB p.a10 n 10, maskB p.a11 n 11, maskB p.a12 n 12, maskB p.a13 n 13, maskB p.a14 n 14, maskB p.a15 n 15⟩
def sameA (p q : IPV) : Bool := ((decide (p.a0 = q.a0)) && ((decide (p.a1 = q.a1)) && ((decide (p.a2 = q.a2)) && ((decide (p.a3 = q.a3)) && ((decide (p.a4 = q.a4)) && ((decide (p.a5 = q.a5)) && ((decide (p.a6 = q.a6)) && ((decide (p.a7 = q.a7)) && ((decide (p.a8 = q.a8)) && ((decide (p.a9 = q.a9)) && ((decide (p.a10 = q.a10)) && ((decide (p.a11 = q.a11)) && ((decide (p.a12 = q.a12)) && ((decide (p.a13 = q.a13)) && ((decide (p.a14 = q.a14)) && ((decide (p.a15 = q.a15)) && true))))))))))))))))
structure NetV where
  p : IPV
  b : Int
  c : Int
def NetV.cells (n : NetV) : List Value := [.int .i64 n.p.v, .int .u8 n.p.a0, .int .u8 n.p.a1, .int .u8 n.p.a2, .int .u8 n.p.a3, .int .u8 n.p.a4, .int .u8 n.p.a5, .int .u8 n.p.a6, .int .u8 n.p.a7, .int .u8 n.p.a8, .int .u8 n.p.a9, .int .u8 n.p.a10, .int .u8 n.p.a11, .int .u8 n.p.a12, .int .u8 n.p.a13, .int .u8 n.p.a14, .int .u8 n.p.a15, .int .i64 n.b, .int .i64 n.c]
def netsV : List NetV := [⟨⟨4, 0, 0, 0, 0, 0, 0, 0, 0, 0, 0, 0, 0, 0, 0, 0, 0⟩, 32, 1⟩,
  ⟨⟨6, 0, 0, 0, 0, 0, 0, 0, 0, 0, 0, 0, 0, 0, 0, 0, 0⟩, 128, 1⟩,
  ⟨⟨4, 127, 0, 0, 0, 0, 0, 0, 0, 0, 0, 0, 0, 0, 0, 0, 0⟩, 8, 2⟩,
  ⟨⟨6, 0, 0, 0, 0, 0, 0, 0, 0, 0, 0, 0, 0, 0, 0, 0, 1⟩, 128, 2⟩,
  ⟨⟨4, 224, 0, 0, 0, 0, 0, 0, 0, 0, 0, 0, 0, 0, 0, 0, 0⟩, 4, 3⟩,
  ⟨⟨6, 255, 0, 0, 0, 0, 0, 0, 0, 0, 0, 0, 0, 0, 0, 0, 0⟩, 8, 3⟩,
  ⟨⟨4, 169, 254, 0, 0, 0, 0, 0, 0, 0, 0, 0, 0, 0, 0, 0, 0⟩, 16, 4⟩,
  ⟨⟨6, 254, 128, 0, 0, 0, 0, 0, 0, 0, 0, 0, 0, 0, 0, 0, 0⟩, 10, 4⟩,
  ⟨⟨4, 255, 255, 255, 255, 0, 0, 0, 0, 0, 0, 0, 0, 0, 0, 0, 0⟩, 32, 5⟩,
  ⟨⟨4, 0, 0, 0, 0, 0, 0, 0, 0, 0, 0, 0, 0, 0, 0, 0, 0⟩, 8, 6⟩,
  ⟨⟨4, 240, 0, 0, 0, 0, 0, 0, 0, 0, 0, 0, 0, 0, 0, 0, 0⟩, 4, 6⟩,
  ⟨⟨6, 0, 0, 0, 0, 0, 0, 0, 0, 0, 0, 0, 0, 0, 0, 0, 0⟩, 8, 6⟩]
/-- What the table's memory reads. -/
def netsL : List Value := [.int .i64 4, .int .u8 0, .int .u8 0, .int .u8 0, .int .u8 0, .int .u8 0, .int .u8 0, .int .u8 0, .int .u8 0, .int .u8 0, .int .u8 0, .int .u8 0, .int .u8 0, .int .u8 0, .int .u8 0, .int .u8 0, .int .u8 0, .int .i64 32, .int .i64 1, .int .i64 6, .int .u8 0, .int .u8 0, .int .u8 0, .int .u8 0, .int .u8 0, .int .u8 0, .int .u8 0, .int .u8 0, .int .u8 0, .int .u8 0, .int .u8 0, .int .u8 0, .int .u8 0, .int .u8 0, .int .u8 0, .int .u8 0, .int .i64 128, .int .i64 1, .int .i64 4, .int .u8 127, .int .u8 0, .int .u8 0, .int .u8 0, .int .u8 0, .int .u8 0, .int .u8 0, .int .u8 0, .int .u8 0, .int .u8 0, .int .u8 0, .int .u8 0, .int .u8 0, .int .u8 0, .int .u8 0, .int .u8 0, .int .i64 8, .int .i64 2, .int .i64 6, .int .u8 0, .int .u8 0, .int .u8 0, .int .u8 0, .int .u8 0, .int .u8 0, .int .u8 0, .int .u8 0, .int .u8 0, .int .u8 0, .int .u8 0, .int .u8 0, .int .u8 0, .int .u8 0, .int .u8 0, .int .u8 1, .int .i64 128, .int .i64 2, .int .i64 4, .int .u8 224, .int .u8 0, .int .u8 0, .int .u8 0, .int .u8 0, .int .u8 0, .int .u8 0, .int .u8 0, .int .u8 0, .int .u8 0, .int .u8 0, .int .u8 0, .int .u8 0, .int .u8 0, .int .u8 0, .int .u8 0, .int .i64 4, .int .i64 3, .int .i64 6, .int .u8 255, .int .u8 0, .int .u8 0, .int .u8 0, .int .u8 0, .int .u8 0, .int .u8 0, .int .u8 0, .int .u8 0, .int .u8 0, .int .u8 0, .int .u8 0, .int .u8 0, .int .u8 0, .int .u8 0, .int .u8 0, .int .i64 8, .int .i64 3, .int .i64 4, .int .u8 169, .int .u8 254, .int .u8 0, .int .u8 0, .int .u8 0, .int .u8 0, .int .u8 0, .int .u8 0, .int .u8 0, .int .u8 0, .int .u8 0, .int .u8 0, .int .u8 0, .int .u8 0, .int .u8 0, .int .u8 0, .int .i64 16, .int .i64 4, .int .i64 6, .int .u8 254, .int .u8 128, .int .u8 0, .int .u8 0, .int .u8 0, .int .u8 0, .int .u8 0, .int .u8 0, .int .u8 0, .int .u8 0, .int .u8 0, .int .u8 0, .int .u8 0, .int .u8 0, .int .u8 0, .int .u8 0, .int .i64 10, .int .i64 4, .int .i64 4, .int .u8 255, .int .u8 255, .int .u8 255, .int .u8 255, .int .u8 0, .int .u8 0, .int .u8 0, .int .u8 0, .int .u8 0, .int .u8 0, .int .u8 0, .int .u8 0, .int .u8 0, .int .u8 0, .int .u8 0, .int .u8 0, .int .i64 32, .int .i64 5, .int .i64 4, .int .u8 0, .int .u8 0, .int .u8 0, .int .u8 0, .int .u8 0, .int .u8 0, .int .u8 0, .int .u8 0, .int .u8 0, .int .u8 0, .int .u8 0, .int .u8 0, .int .u8 0, .int .u8 0, .int .u8 0, .int .u8 0, .int .i64 8, .int .i64 6, .int .i64 4, .int .u8 240, .int .u8 0, .int .u8 0, .int .u8 0, .int .u8 0, .int .u8 0, .int .u8 0, .int .u8 0, .int .u8 0, .int .u8 0, .int .u8 0, .int .u8 0, .int .u8 0, .int .u8 0, .int .u8 0, .int .u8 0, .int .i64 4, .int .i64 6, .int .i64 6, .int .u8 0, .int .u8 0, .int .u8 0, .int .u8 0, .int .u8 0, .int .u8 0, .int .u8 0, .int .u8 0, .int .u8 0, .int .u8 0, .int .u8 0, .int .u8 0, .int .u8 0, .int .u8 0, .int .u8 0, .int .u8 0, .int .i64 8, .int .i64 6]
def matchS (p : IPV) (n : NetV) : Bool := decide (n.p.v = p.v) && sameA (maskS p n.b) n.p
def sizeS (p : IPV) : Int := if p.v = 6 then 128 else if p.v ≠ 4 then 0 else if ((decide (p.a4 = 0)) && ((decide (p.a5 = 0)) && ((decide (p.a6 = 0)) && ((decide (p.a7 = 0)) && ((decide (p.a8 = 0)) && ((decide (p.a9 = 0)) && ((decide (p.a10 = 0)) && ((decide (p.a11 = 0)) && ((decide (p.a12 = 0)) && ((decide (p.a13 = 0)) && ((decide (p.a14 = 0)) && ((decide (p.a15 = 0)) && true)))))))))))) then 32 else 0
def classP (p : IPV) : Int := if 0 < sizeS p then (match netsV.find? (matchS p) with | some n => n.c | none => 7) else 0
theorem nets_len : netsV.length = 12 := rfl
theorem nets_at : ∀ i : Nat, (h : i < 12) → (netsL.drop (i * 19)).take 19 = (netsV[i]'(by rw [nets_len]; exact h)).cells
  | 0, _ => rfl
  | 1, _ => rfl
  | 2, _ => rfl
  | 3, _ => rfl
  | 4, _ => rfl
  | 5, _ => rfl
  | 6, _ => rfl
  | 7, _ => rfl
  | 8, _ => rfl
  | 9, _ => rfl
  | 10, _ => rfl
  | 11, _ => rfl
  | i + 12, h => absurd h (by omega)
theorem find_step {p : IPV} {i : Nat} (hi : i < 12) (hno : ∀ j, j < i → matchS p (netsV.getD j ⟨⟨0, 0, 0, 0, 0, 0, 0, 0, 0, 0, 0, 0, 0, 0, 0, 0, 0⟩, 0, 0⟩) = false) (h : matchS p (netsV[i]'(by rw [nets_len]; exact hi)) = true) :
    netsV.find? (matchS p) = some (netsV[i]'(by rw [nets_len]; exact hi)) := by
  rw [List.find?_eq_some_iff_getElem]
  refine ⟨h, i, by rw [nets_len]; exact hi, rfl, fun j hj => ?_⟩
  have := hno j hj
  rw [List.getD_eq_getElem?_getD, List.getElem?_eq_getElem (by rw [nets_len]; omega)] at this
  simpa using this
theorem find_none {p : IPV} (hno : ∀ j, j < 12 → matchS p (netsV.getD j ⟨⟨0, 0, 0, 0, 0, 0, 0, 0, 0, 0, 0, 0, 0, 0, 0, 0, 0⟩, 0, 0⟩) = false) : netsV.find? (matchS p) = none := by
  rw [List.find?_eq_none]
  intro x hx
  obtain ⟨j, hj, rfl⟩ := List.mem_iff_getElem.1 hx
  have := hno j (by rw [nets_len] at hj; exact hj)
  rw [List.getD_eq_getElem?_getD, List.getElem?_eq_getElem hj] at this
  simpa using this
end Go.Eng
namespace Go.Proofs.YtjngdcilnipjcaaDoor
namespace Nd
open Go.Eng Go.RowKit
def Tab (w : World) : Prop := CellsAt w ⟨2, 0, none⟩ 0 netsL
theorem Tab.ext {w w' : World} (h : Tab w) (hE : Ext w w') : Tab w' := CellsAt.ext hE h
section
variable {w : World}
theorem size_spec (p : IPV) : Calls Tryd.prog 122 #[p.val] w fun e w' => Ext w w' ∧ e = .returned (.int .i64 (sizeS p)) := by
  refine addr_size_of p.v p.a0 p.a1 p.a2 p.a3 p.a4 p.a5 p.a6 p.a7 p.a8 p.a9 p.a10 p.a11 p.a12 p.a13 p.a14 p.a15 w _ ?_
  unfold addr_size_VC
  refine NewVC.blk fun g1 w1 hg1 hz1 hE1 hb1 => ?_
  have hb1 : Blk w1 g1 _ p.cells := hb1
  refine ⟨_, hb1.cell 0, Br.dec (fun h => ⟨hE1, ?_⟩) fun h => ?_⟩
  · unfold sizeS; rw [if_pos h]
  refine ⟨_, hb1.cell 0, Br.dec (fun h4 => ⟨hE1, ?_⟩) fun h4 => ?_⟩
  · unfold sizeS; rw [if_neg h, if_pos h4]
  refine ⟨by decide, by decide, ?_⟩
  refine ⟨by decide, _, rfl, ?_⟩
  refine ⟨_, _, _, _, _, _, _, _, _, _, _, _, CellsAt.part (g := g1) hb1 5 (ds := p.cells.drop 5) (es := []) rfl, ?_⟩
  have e : sizeS p = if ((decide (p.a4 = 0)) && ((decide (p.a5 = 0)) && ((decide (p.a6 = 0)) && ((decide (p.a7 = 0)) && ((decide (p.a8 = 0)) && ((decide (p.a9 = 0)) && ((decide (p.a10 = 0)) && ((decide (p.a11 = 0)) && ((decide (p.a12 = 0)) && ((decide (p.a13 = 0)) && ((decide (p.a14 = 0)) && ((decide (p.a15 = 0)) && true)))))))))))) then 32 else 0 := by unfold sizeS; rw [if_neg h, if_neg h4]
  cases hc : ((decide (p.a4 = 0)) && ((decide (p.a5 = 0)) && ((decide (p.a6 = 0)) && ((decide (p.a7 = 0)) && ((decide (p.a8 = 0)) && ((decide (p.a9 = 0)) && ((decide (p.a10 = 0)) && ((decide (p.a11 = 0)) && ((decide (p.a12 = 0)) && ((decide (p.a13 = 0)) && ((decide (p.a14 = 0)) && ((decide (p.a15 = 0)) && true)))))))))))) with
  | true => exact Br.f (by rfl) ⟨hE1, by rw [e, if_pos hc]⟩
  | false => exact Br.t (by rfl) ⟨hE1, by rw [e, if_neg (by rw [hc]; decide)]⟩
theorem Valid_spec (p : IPV) : Calls Tryd.prog 98 #[p.val] w fun e w' => Ext w w' ∧ e = .returned (.bool (decide (0 < sizeS p))) := by
  refine addr_Valid_of p.v p.a0 p.a1 p.a2 p.a3 p.a4 p.a5 p.a6 p.a7 p.a8 p.a9 p.a10 p.a11 p.a12 p.a13 p.a14 p.a15 w _ ?_
  unfold addr_Valid_VC
  refine NewVC.blk fun g1 w1 hg1 hz1 hE1 hb1 => ?_
  refine ⟨_, _, _, _, _, _, _, _, _, _, _, _, _, _, _, _, _, CellsAt.blk hb1, ?_⟩
  refine (size_spec p).mono ?_
  rintro _ w2 ⟨hE2, rfl⟩
  exact ⟨_, rfl, hE1.ext hE2, rfl⟩
theorem masked_spec (p : IPV) (n : Int) (_ : 0 ≤ n ∧ n ≤ 128) : Calls Tryd.prog 99 #[p.arr, .int .i64 n] w fun e w' => Ext w w' ∧ e = .returned (maskS p n).arr := by
  refine addr_masked_of p.a0 p.a1 p.a2 p.a3 p.a4 p.a5 p.a6 p.a7 p.a8 p.a9 p.a10 p.a11 p.a12 p.a13 p.a14 p.a15 n w _ ?_
  unfold addr_masked_VC
  refine NewVC.blk fun g1 w1 hg1 hz1 hE1 hb1 => NewVC.blk fun g2 w2 hg2 hz2 hE2 hb2 => NewVC.blk fun g3 w3 hg3 hz3 hE3 hb3 => ?_
  have hb1 : Cells w3 (some ⟨g1, 0, none⟩) (p.bytes.map (.int .u8)) := ((Cells.of_blk hb1 0).ext hE2).ext hE3
  have hb2 := hb2.ext hE3
  have hE := (hE1.ext hE2).ext hE3
  refine LoopVC.of (fun s w' => Mod (fun k => k = g3) w3 w' ∧ ∃ i : Nat, s = (i : Int) ∧ i ≤ 16 ∧ Blk w' g3 29 ((maskS p n).row.take i ++ List.replicate (16 - i) (.int .u8 0))) (fun s _ => (16 - s).toNat) ?_ ?_
  · exact ⟨Mod.refl _ _, 0, rfl, by omega, hb3⟩
  rintro _ w4 ⟨hm4, i, rfl, hi, hb4⟩
  show addr_masked_L58 _ n g1 g2 g3 (i : Int) w4 _
  unfold addr_masked_L58
  have hlen : ((maskS p n).row.take i ++ List.replicate (16 - i) (Value.int .u8 0)).length = 16 := by simp [IPV.row]; omega
  refine Br.dec (fun hlt => ?_) (fun hge => ?_)
  · have hlt : i < 16 := by omega
    refine IdxVC.int (hb1.mod hm4 fun a ha _ => by cases ha; show ¬ g1 = g3; omega) (by omega) (by omega) rfl fun a ha => ⟨_, ha, ?_⟩
    refine ⟨by rw [u64_eq]; omega, ?_⟩
    refine IdxVC.blk (by omega) (by omega) ?_
    refine SetVC.blk hb4 (by omega) fun w5 z5 m5 hb5 => ?_
    have e1 : IntKind.i64.wrap ((i : Int) + 1) = ((i + 1 : Nat) : Int) := by rw [w64 (by omega) (by omega)]; omega
    rw [e1]
    refine ⟨⟨hm4.trans m5, i + 1, rfl, by omega, ?_⟩, by omega⟩
    have e2 : ((maskS p n).row.take i ++ List.replicate (16 - i) (Value.int .u8 0)).set i (Value.int .u8 (maskB (p.bytes.getD i 0) n i)) = (maskS p n).row.take (i + 1) ++ List.replicate (16 - (i + 1)) (.int .u8 0) := by
      match i, hlt with
      | 0, _ => rfl
      | 1, _ => rfl
      | 2, _ => rfl
      | 3, _ => rfl
      | 4, _ => rfl
      | 5, _ => rfl
      | 6, _ => rfl
      | 7, _ => rfl
      | 8, _ => rfl
      | 9, _ => rfl
      | 10, _ => rfl
      | 11, _ => rfl
      | 12, _ => rfl
      | 13, _ => rfl
      | 14, _ => rfl
      | 15, _ => rfl
      | k + 16, h => exact absurd h (by omega)
    rw [← e2]
    exact hb5
  · have he : i = 16 := by omega
    subst he
    have hb4 : Blk w4 g3 _ (maskS p n).row := hb4
    refine ⟨_, _, _, _, _, _, _, _, _, _, _, _, _, _, _, _, CellsAt.blk hb4, ?_⟩
    refine setAll (maskS p n).row 0 w4 _ _ ((hb2.mod hm4 (by show ¬ g2 = g3; omega))) rfl fun w' hz hm hb' => ?_
    exact ⟨_, _, _, _, _, _, _, _, _, _, _, _, _, _, _, _, CellsAt.blk hb', (hE.set hm4 (by omega)).set hm (by omega), rfl⟩
set_option maxRecDepth 20000 in
set_option maxHeartbeats 2000000 in
theorem Class_loop (p : IPV) {g1 : Nat} {w1 : World} {R : Ending → World → Prop} (hb1 : Blk w1 g1 31 p.cells) (hs : 0 < sizeS p) (hR : ∀ w', Ext w1 w' → R (.returned (.int .i64 (classP p))) w') :
    LoopVC (S := Int) (fun s w3 K58 => addr_Class_L58 R g1 4 0 0 0 0 0 0 0 0 0 0 0 0 0 0 0 0 32 1 6 0 0 0 0 0 0 0 0 0 0 0 0 0 0 0 0 128 1 4 127 0 0 0 0 0 0 0 0 0 0 0 0 0 0 0 8 2 6 0 0 0 0 0 0 0 0 0 0 0 0 0 0 0 1 128 2 4 224 0 0 0 0 0 0 0 0 0 0 0 0 0 0 0 4 3 6 255 0 0 0 0 0 0 0 0 0 0 0 0 0 0 0 8 3 4 169 254 0 0 0 0 0 0 0 0 0 0 0 0 0 0 16 4 6 254 128 0 0 0 0 0 0 0 0 0 0 0 0 0 0 10 4 4 255 255 255 255 0 0 0 0 0 0 0 0 0 0 0 0 32 5 4 0 0 0 0 0 0 0 0 0 0 0 0 0 0 0 0 8 6 4 240 0 0 0 0 0 0 0 0 0 0 0 0 0 0 0 4 6 6 0 0 0 0 0 0 0 0 0 0 0 0 0 0 0 0 8 6 s w3 K58) 0 w1 := by
  refine LoopVC.of (fun s w' => Ext w1 w' ∧ ∃ i : Nat, s = (i : Int) ∧ i ≤ 12 ∧ ∀ j, j < i → matchS p (netsV.getD j ⟨⟨0, 0, 0, 0, 0, 0, 0, 0, 0, 0, 0, 0, 0, 0, 0, 0, 0⟩, 0, 0⟩) = false) (fun s _ => (12 - s).toNat) ⟨Mod.refl _ _, 0, rfl, by omega, fun _ h => absurd h (by omega)⟩ ?_
  rintro _ w3 ⟨hE3, i, rfl, hi, hno⟩
  unfold addr_Class_L58
  have hcl : classP p = (match netsV.find? (matchS p) with | some n => n.c | none => 7) := by unfold classP; rw [if_pos hs]
  refine Br.dec (fun hlt => ?_) (fun hge => ?_)
  · have hlt : i < 12 := by omega
    obtain ⟨N, hN⟩ : ∃ N, N = (netsV[i]'(by rw [nets_len]; exact hlt)) := ⟨_, rfl⟩
    have hat := nets_at i hlt
    rw [← hN] at hat
    have hgd : netsV.getD i ⟨⟨0, 0, 0, 0, 0, 0, 0, 0, 0, 0, 0, 0, 0, 0, 0, 0, 0⟩, 0, 0⟩ = N := by
      rw [List.getD_eq_getElem?_getD, List.getElem?_eq_getElem (by rw [nets_len]; omega), hN]; rfl
    have hbits : 0 ≤ N.b ∧ N.b ≤ 128 := by
      have : ∀ n ∈ netsV, 0 ≤ n.b ∧ n.b ≤ 128 := by decide
      exact this N (by rw [hN]; exact List.getElem_mem _)
    have next : ∀ w', Ext w1 w' → matchS p N = false → (Ext w1 w' ∧ ∃ i' : Nat, IntKind.i64.wrap ((i : Int) + 1) = (i' : Int) ∧ i' ≤ 12 ∧ ∀ j, j < i' → matchS p (netsV.getD j ⟨⟨0, 0, 0, 0, 0, 0, 0, 0, 0, 0, 0, 0, 0, 0, 0, 0, 0⟩, 0, 0⟩) = false) ∧ (12 - IntKind.i64.wrap ((i : Int) + 1)).toNat < (12 - (i : Int)).toNat := fun w' hE' hm => by
      have e1 : IntKind.i64.wrap ((i : Int) + 1) = ((i + 1 : Nat) : Int) := by rw [w64 (by omega) (by omega)]; omega
      rw [e1]
      refine ⟨⟨hE', i + 1, rfl, by omega, fun j hj => ?_⟩, by omega⟩
      rcases Nat.lt_or_ge j i with h | h
      · exact hno j h
      · have : j = i := by omega
        subst this
        rw [hgd]; exact hm
    refine ⟨N.p.v, N.p.a0, N.p.a1, N.p.a2, N.p.a3, N.p.a4, N.p.a5, N.p.a6, N.p.a7, N.p.a8, N.p.a9, N.p.a10, N.p.a11, N.p.a12, N.p.a13, N.p.a14, N.p.a15, N.b, N.c, ⟨by omega, by omega, hat⟩, ?_⟩
    refine NewVC.blk fun g2 w4 hg2 hz4 hE4 hb4 => ?_
    have s3 := hE3.size
    have hg1 := hb1.lt
    refine setAll N.cells 0 w4 _ _ hb4 rfl fun w5 hz5 hm5 hb5 => ?_
    have hb5 : Blk w5 g2 _ N.cells := hb5
    have hE5 : Ext w1 w5 := (hE3.ext hE4).set hm5 (by omega)
    have hb15 := hb1.ext hE5
    refine DrawVC.of (fun w' => Ext w5 w') fun w6 hE6 _ => ⟨hE6, ?_⟩
    refine ⟨_, fun w' h => (hb5.ext h).cell 0, _, fun w' h => (hb15.ext h).cell 0, Br.dec (fun hv => ?_) (fun hv => ?_)⟩
    · refine ⟨_, _, _, _, _, _, _, _, _, _, _, _, _, _, _, _, fun w' h => CellsAt.part (hb15.ext h) 1 (ds := p.row) (es := []) rfl, _, fun w' h => (hb5.ext h).cell 17, _, _, _, _, _, _, _, _, _, _, _, _, _, _, _, _, fun w' h => CellsAt.part (hb5.ext h) 1 (ds := N.p.row) (es := N.cells.drop 17) rfl, ?_⟩
      refine (masked_spec p N.b hbits).mono ?_
      rintro _ w7 ⟨hE7, rfl⟩
      refine ⟨_, _, _, _, _, _, _, _, _, _, _, _, _, _, _, _, rfl, hE6.ext hE7, ?_⟩
      have hEn := hE5.ext (hE6.ext hE7)
      have hm : matchS p N = sameA (maskS p N.b) N.p := by unfold matchS; rw [decide_eq_true hv, Bool.true_and]
      cases hsame : sameA (maskS p N.b) N.p with
      | true =>
        refine Br.t hsame ⟨_, (hb5.ext (hE6.ext hE7)).cell 18, ?_⟩
        have := hR w7 hEn
        rw [hcl, find_step hlt hno (by rw [← hN, hm, hsame])] at this
        rw [hN]; exact this
      | false => exact Br.f hsame (next w7 hEn (by rw [hm, hsame]))
    · exact next w6 (hE5.ext hE6) (by unfold matchS; rw [decide_eq_false hv, Bool.false_and])
  · have : i = 12 := by omega
    subst this
    have := hR w3 hE3
    rw [hcl, find_none hno] at this
    exact this
set_option maxRecDepth 20000 in
set_option maxHeartbeats 1000000 in
theorem Class_spec (p : IPV) (hT : Tab w) : Calls Tryd.prog 72 #[p.val] w fun e w' => Ext w w' ∧ e = .returned (.int .i64 (classP p)) := by
  refine addr_Class_of p.v p.a0 p.a1 p.a2 p.a3 p.a4 p.a5 p.a6 p.a7 p.a8 p.a9 p.a10 p.a11 p.a12 p.a13 p.a14 p.a15 w _ ?_
  unfold addr_Class_VC
  refine NewVC.blk fun g1 w1 hg1 hz1 hE1 hb1 => ?_
  have hb1 : Blk w1 g1 31 p.cells := hb1
  refine ⟨_, _, _, _, _, _, _, _, _, _, _, _, _, _, _, _, _, CellsAt.blk hb1, ?_⟩
  refine (Valid_spec p).mono ?_
  rintro _ w2 ⟨hE2, rfl⟩
  have hE := hE1.ext hE2
  refine ⟨_, rfl, ?_⟩
  by_cases hs : 0 < sizeS p
  · refine Br.f (by simp [hs]) ?_
    refine ⟨4, 0, 0, 0, 0, 0, 0, 0, 0, 0, 0, 0, 0, 0, 0, 0, 0, 32, 1, 6, 0, 0, 0, 0, 0, 0, 0, 0, 0, 0, 0, 0, 0, 0, 0, 0, 128, 1, 4, 127, 0, 0, 0, 0, 0, 0, 0, 0, 0, 0, 0, 0, 0, 0, 0, 8, 2, 6, 0, 0, 0, 0, 0, 0, 0, 0, 0, 0, 0, 0, 0, 0, 0, 1, 128, 2, 4, 224, 0, 0, 0, 0, 0, 0, 0, 0, 0, 0, 0, 0, 0, 0, 0, 4, 3, 6, 255, 0, 0, 0, 0, 0, 0, 0, 0, 0, 0, 0, 0, 0, 0, 0, 8, 3, 4, 169, 254, 0, 0, 0, 0, 0, 0, 0, 0, 0, 0, 0, 0, 0, 0, 16, 4, 6, 254, 128, 0, 0, 0, 0, 0, 0, 0, 0, 0, 0, 0, 0, 0, 0, 10, 4, 4, 255, 255, 255, 255, 0, 0, 0, 0, 0, 0, 0, 0, 0, 0, 0, 0, 32, 5, 4, 0, 0, 0, 0, 0, 0, 0, 0, 0, 0, 0, 0, 0, 0, 0, 0, 8, 6, 4, 240, 0, 0, 0, 0, 0, 0, 0, 0, 0, 0, 0, 0, 0, 0, 0, 4, 6, 6, 0, 0, 0, 0, 0, 0, 0, 0, 0, 0, 0, 0, 0, 0, 0, 0, 8, 6, hT.ext hE, ?_⟩
    exact Class_loop p (hb1.ext hE2) hs fun w' hE' => ⟨hE.ext hE', rfl⟩
  · refine Br.t (by simp [hs]) ⟨hE, ?_⟩
    unfold classP; rw [if_neg hs]
theorem noTarget_spec (p : IPV) (hT : Tab w) : Calls Tryd.prog 47 #[p.val] w fun e w' => Ext w w' ∧ e = .returned (.bool (decide (classP p = 3 ∨ classP p = 1))) := by
  refine icmp_noTarget_of p.v p.a0 p.a1 p.a2 p.a3 p.a4 p.a5 p.a6 p.a7 p.a8 p.a9 p.a10 p.a11 p.a12 p.a13 p.a14 p.a15 w _ ?_
  unfold icmp_noTarget_VC
  refine NewVC.blk fun g1 w1 hg1 hz1 hE1 hb1 => ?_
  refine ⟨_, _, _, _, _, _, _, _, _, _, _, _, _, _, _, _, _, CellsAt.blk hb1, ?_⟩
  refine (Class_spec p (hT.ext hE1)).mono ?_
  rintro _ w2 ⟨hE2, rfl⟩
  refine ⟨_, rfl, Br.dec (fun h => ⟨hE1.ext hE2, ?_⟩) fun h => ⟨hE1.ext hE2, ?_⟩⟩
  · simp [h]
  · simp [h]
end
end Nd
end Go.Proofs.YtjngdcilnipjcaaDoor
