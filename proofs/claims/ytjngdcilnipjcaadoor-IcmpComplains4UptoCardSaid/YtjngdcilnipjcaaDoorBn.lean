/- WRITTEN BY a program of this session (vc.py): for each Go function the condition that is enough for its contract, and the theorem that it is. -/
import Derived.Test.YtjngdcilnipjcaaDoorProg
import Derived.Test.YtjngdcilnipjcaaDoorBq
import Derived.Test.YtjngdcilnipjcaaDoorBf
import Derived.Test.YtjngdcilnipjcaaDoorBm
namespace Go.Proofs.YtjngdcilnipjcaaDoor
open Go.Eng
namespace Nd
def callF (f : Nat) : Bool := Nat.ble 3 f && Nat.ble f 165 && !(Nat.beq f 131) && !(Nat.beq f 148)
theorem callAll : ((List.range 166).all fun f => !(callF f) || callableB Tryd.prog f) = true := by kernel_rfl
theorem callOk : ∀ f, callF f = true → callableB Tryd.prog f = true := by
  intro f hf
  have h := List.all_eq_true.1 callAll f (by simp [callF] at hf; simp; omega)
  simpa [hf] using h
theorem mixedOk : Tryd.prog.follows .mixedOrders = true := by kernel_rfl

set_option maxRecDepth 100000 in
def addr_Class_L58 (R : Ending → World → Prop) (g1 : Nat) (x01 : Int) (x17 : Int) (x21 : Int) (x31 : Int) (x41 : Int) (x51 : Int) (x61 : Int) (x71 : Int) (x81 : Int) (x91 : Int) (x101 : Int) (x111 : Int) (x121 : Int) (x131 : Int) (x141 : Int) (x151 : Int) (x161 : Int) (x171 : Int) (x18 : Int) (x19 : Int) (x20 : Int) (x211 : Int) (x22 : Int) (x23 : Int) (x24 : Int) (x25 : Int) (x26 : Int) (x27 : Int) (x28 : Int) (x29 : Int) (x30 : Int) (x311 : Int) (x32 : Int) (x33 : Int) (x34 : Int) (x35 : Int) (x36 : Int) (x37 : Int) (x38 : Int) (x39 : Int) (x40 : Int) (x411 : Int) (x42 : Int) (x43 : Int) (x44 : Int) (x45 : Int) (x46 : Int) (x47 : Int) (x48 : Int) (x49 : Int) (x50 : Int) (x511 : Int) (x52 : Int) (x53 : Int) (x54 : Int) (x55 : Int) (x56 : Int) (x57 : Int) (x58 : Int) (x59 : Int) (x60 : Int) (x611 : Int) (x62 : Int) (x63 : Int) (x64 : Int) (x65 : Int) (x66 : Int) (x67 : Int) (x68 : Int) (x69 : Int) (x70 : Int) (x711 : Int) (x72 : Int) (x73 : Int) (x74 : Int) (x75 : Int) (x76 : Int) (x77 : Int) (x78 : Int) (x79 : Int) (x80 : Int) (x811 : Int) (x82 : Int) (x83 : Int) (x84 : Int) (x85 : Int) (x86 : Int) (x87 : Int) (x88 : Int) (x89 : Int) (x90 : Int) (x911 : Int) (x92 : Int) (x93 : Int) (x94 : Int) (x95 : Int) (x96 : Int) (x97 : Int) (x98 : Int) (x99 : Int) (x100 : Int) (x1011 : Int) (x102 : Int) (x103 : Int) (x104 : Int) (x105 : Int) (x106 : Int) (x107 : Int) (x108 : Int) (x109 : Int) (x110 : Int) (x1111 : Int) (x112 : Int) (x113 : Int) (x114 : Int) (x115 : Int) (x116 : Int) (x117 : Int) (x118 : Int) (x119 : Int) (x120 : Int) (x1211 : Int) (x122 : Int) (x123 : Int) (x124 : Int) (x125 : Int) (x126 : Int) (x127 : Int) (x128 : Int) (x129 : Int) (x130 : Int) (x1311 : Int) (x132 : Int) (x133 : Int) (x134 : Int) (x135 : Int) (x136 : Int) (x137 : Int) (x138 : Int) (x139 : Int) (x140 : Int) (x1411 : Int) (x142 : Int) (x143 : Int) (x144 : Int) (x145 : Int) (x146 : Int) (x147 : Int) (x148 : Int) (x149 : Int) (x150 : Int) (x1511 : Int) (x152 : Int) (x153 : Int) (x154 : Int) (x155 : Int) (x156 : Int) (x157 : Int) (x158 : Int) (x159 : Int) (x160 : Int) (x1611 : Int) (x162 : Int) (x163 : Int) (x164 : Int) (x165 : Int) (x166 : Int) (x167 : Int) (x168 : Int) (x169 : Int) (x170 : Int) (x1711 : Int) (x172 : Int) (x173 : Int) (x174 : Int) (x175 : Int) (x176 : Int) (x177 : Int) (x178 : Int) (x179 : Int) (x180 : Int) (x181 : Int) (x182 : Int) (x183 : Int) (x184 : Int) (x185 : Int) (x186 : Int) (x187 : Int) (x188 : Int) (x189 : Int) (x190 : Int) (x191 : Int) (x192 : Int) (x193 : Int) (x194 : Int) (x195 : Int) (x196 : Int) (x197 : Int) (x198 : Int) (x199 : Int) (x200 : Int) (x201 : Int) (x202 : Int) (x203 : Int) (x204 : Int) (x205 : Int) (x206 : Int) (x207 : Int) (x208 : Int) (x209 : Int) (x210 : Int) (x2111 : Int) (x212 : Int) (x213 : Int) (x214 : Int) (x215 : Int) (x216 : Int) (x217 : Int) (x218 : Int) (x219 : Int) (x220 : Int) (x221 : Int) (x222 : Int) (x223 : Int) (x224 : Int) (x225 : Int) (x226 : Int) (x227 : Int) (t9_ : Int) (w3 : World) (K58 : (Int → World → Prop)) : Prop :=
  Br (decide (t9_ < 12))
    (∃ x02 : Int, ∃ x1100 : Int, ∃ x228 : Int, ∃ x310 : Int, ∃ x410 : Int, ∃ x510 : Int, ∃ x610 : Int, ∃ x710 : Int, ∃ x810 : Int, ∃ x910 : Int, ∃ x1010 : Int, ∃ x1110 : Int, ∃ x1210 : Int, ∃ x1310 : Int, ∃ x1410 : Int, ∃ x1510 : Int, ∃ x1610 : Int, ∃ x1710 : Int, ∃ x1810 : Int, PartVC [.int .i64 x01, .int .u8 x17, .int .u8 x21, .int .u8 x31, .int .u8 x41, .int .u8 x51, .int .u8 x61, .int .u8 x71, .int .u8 x81, .int .u8 x91, .int .u8 x101, .int .u8 x111, .int .u8 x121, .int .u8 x131, .int .u8 x141, .int .u8 x151, .int .u8 x161, .int .i64 x171, .int .i64 x18, .int .i64 x19, .int .u8 x20, .int .u8 x211, .int .u8 x22, .int .u8 x23, .int .u8 x24, .int .u8 x25, .int .u8 x26, .int .u8 x27, .int .u8 x28, .int .u8 x29, .int .u8 x30, .int .u8 x311, .int .u8 x32, .int .u8 x33, .int .u8 x34, .int .u8 x35, .int .i64 x36, .int .i64 x37, .int .i64 x38, .int .u8 x39, .int .u8 x40, .int .u8 x411, .int .u8 x42, .int .u8 x43, .int .u8 x44, .int .u8 x45, .int .u8 x46, .int .u8 x47, .int .u8 x48, .int .u8 x49, .int .u8 x50, .int .u8 x511, .int .u8 x52, .int .u8 x53, .int .u8 x54, .int .i64 x55, .int .i64 x56, .int .i64 x57, .int .u8 x58, .int .u8 x59, .int .u8 x60, .int .u8 x611, .int .u8 x62, .int .u8 x63, .int .u8 x64, .int .u8 x65, .int .u8 x66, .int .u8 x67, .int .u8 x68, .int .u8 x69, .int .u8 x70, .int .u8 x711, .int .u8 x72, .int .u8 x73, .int .i64 x74, .int .i64 x75, .int .i64 x76, .int .u8 x77, .int .u8 x78, .int .u8 x79, .int .u8 x80, .int .u8 x811, .int .u8 x82, .int .u8 x83, .int .u8 x84, .int .u8 x85, .int .u8 x86, .int .u8 x87, .int .u8 x88, .int .u8 x89, .int .u8 x90, .int .u8 x911, .int .u8 x92, .int .i64 x93, .int .i64 x94, .int .i64 x95, .int .u8 x96, .int .u8 x97, .int .u8 x98, .int .u8 x99, .int .u8 x100, .int .u8 x1011, .int .u8 x102, .int .u8 x103, .int .u8 x104, .int .u8 x105, .int .u8 x106, .int .u8 x107, .int .u8 x108, .int .u8 x109, .int .u8 x110, .int .u8 x1111, .int .i64 x112, .int .i64 x113, .int .i64 x114, .int .u8 x115, .int .u8 x116, .int .u8 x117, .int .u8 x118, .int .u8 x119, .int .u8 x120, .int .u8 x1211, .int .u8 x122, .int .u8 x123, .int .u8 x124, .int .u8 x125, .int .u8 x126, .int .u8 x127, .int .u8 x128, .int .u8 x129, .int .u8 x130, .int .i64 x1311, .int .i64 x132, .int .i64 x133, .int .u8 x134, .int .u8 x135, .int .u8 x136, .int .u8 x137, .int .u8 x138, .int .u8 x139, .int .u8 x140, .int .u8 x1411, .int .u8 x142, .int .u8 x143, .int .u8 x144, .int .u8 x145, .int .u8 x146, .int .u8 x147, .int .u8 x148, .int .u8 x149, .int .i64 x150, .int .i64 x1511, .int .i64 x152, .int .u8 x153, .int .u8 x154, .int .u8 x155, .int .u8 x156, .int .u8 x157, .int .u8 x158, .int .u8 x159, .int .u8 x160, .int .u8 x1611, .int .u8 x162, .int .u8 x163, .int .u8 x164, .int .u8 x165, .int .u8 x166, .int .u8 x167, .int .u8 x168, .int .i64 x169, .int .i64 x170, .int .i64 x1711, .int .u8 x172, .int .u8 x173, .int .u8 x174, .int .u8 x175, .int .u8 x176, .int .u8 x177, .int .u8 x178, .int .u8 x179, .int .u8 x180, .int .u8 x181, .int .u8 x182, .int .u8 x183, .int .u8 x184, .int .u8 x185, .int .u8 x186, .int .u8 x187, .int .i64 x188, .int .i64 x189, .int .i64 x190, .int .u8 x191, .int .u8 x192, .int .u8 x193, .int .u8 x194, .int .u8 x195, .int .u8 x196, .int .u8 x197, .int .u8 x198, .int .u8 x199, .int .u8 x200, .int .u8 x201, .int .u8 x202, .int .u8 x203, .int .u8 x204, .int .u8 x205, .int .u8 x206, .int .i64 x207, .int .i64 x208, .int .i64 x209, .int .u8 x210, .int .u8 x2111, .int .u8 x212, .int .u8 x213, .int .u8 x214, .int .u8 x215, .int .u8 x216, .int .u8 x217, .int .u8 x218, .int .u8 x219, .int .u8 x220, .int .u8 x221, .int .u8 x222, .int .u8 x223, .int .u8 x224, .int .u8 x225, .int .i64 x226, .int .i64 x227] t9_ 12 19 [.int .i64 x02, .int .u8 x1100, .int .u8 x228, .int .u8 x310, .int .u8 x410, .int .u8 x510, .int .u8 x610, .int .u8 x710, .int .u8 x810, .int .u8 x910, .int .u8 x1010, .int .u8 x1110, .int .u8 x1210, .int .u8 x1310, .int .u8 x1410, .int .u8 x1510, .int .u8 x1610, .int .i64 x1710, .int .i64 x1810] ∧
  NewVC w3 (.cells #[.int .i64 0, .int .u8 0, .int .u8 0, .int .u8 0, .int .u8 0, .int .u8 0, .int .u8 0, .int .u8 0, .int .u8 0, .int .u8 0, .int .u8 0, .int .u8 0, .int .u8 0, .int .u8 0, .int .u8 0, .int .u8 0, .int .u8 0, .int .i64 0, .int .i64 0] 151) fun g2 w4 =>
  SetVC w4 ⟨g2, 0, none⟩ (.int .i64 x02) fun w5 =>
  SetVC w5 ⟨g2, 1, none⟩ (.int .u8 x1100) fun w6 =>
  SetVC w6 ⟨g2, 2, none⟩ (.int .u8 x228) fun w7 =>
  SetVC w7 ⟨g2, 3, none⟩ (.int .u8 x310) fun w8 =>
  SetVC w8 ⟨g2, 4, none⟩ (.int .u8 x410) fun w9 =>
  SetVC w9 ⟨g2, 5, none⟩ (.int .u8 x510) fun w10 =>
  SetVC w10 ⟨g2, 6, none⟩ (.int .u8 x610) fun w11 =>
  SetVC w11 ⟨g2, 7, none⟩ (.int .u8 x710) fun w12 =>
  SetVC w12 ⟨g2, 8, none⟩ (.int .u8 x810) fun w13 =>
  SetVC w13 ⟨g2, 9, none⟩ (.int .u8 x910) fun w14 =>
  SetVC w14 ⟨g2, 10, none⟩ (.int .u8 x1010) fun w15 =>
  SetVC w15 ⟨g2, 11, none⟩ (.int .u8 x1110) fun w16 =>
  SetVC w16 ⟨g2, 12, none⟩ (.int .u8 x1210) fun w17 =>
  SetVC w17 ⟨g2, 13, none⟩ (.int .u8 x1310) fun w18 =>
  SetVC w18 ⟨g2, 14, none⟩ (.int .u8 x1410) fun w19 =>
  SetVC w19 ⟨g2, 15, none⟩ (.int .u8 x1510) fun w20 =>
  SetVC w20 ⟨g2, 16, none⟩ (.int .u8 x1610) fun w21 =>
  SetVC w21 ⟨g2, 17, none⟩ (.int .i64 x1710) fun w22 =>
  SetVC w22 ⟨g2, 18, none⟩ (.int .i64 x1810) fun w23 =>
  DrawVC w23 fun S1 w24 =>
  ∃ x229 : Int, (∀ w' : World, S1 w' → w'.cell? ⟨g2, 0, none⟩ = some (.int .i64 x229)) ∧
  ∃ x230 : Int, (∀ w' : World, S1 w' → w'.cell? ⟨g1, 0, none⟩ = some (.int .i64 x230)) ∧
  Br (decide (x229 = x230))
    (∃ x03 : Int, ∃ x1101 : Int, ∃ x231 : Int, ∃ x312 : Int, ∃ x412 : Int, ∃ x512 : Int, ∃ x612 : Int, ∃ x712 : Int, ∃ x812 : Int, ∃ x912 : Int, ∃ x1012 : Int, ∃ x1112 : Int, ∃ x1212 : Int, ∃ x1312 : Int, ∃ x1412 : Int, ∃ x1512 : Int, (∀ w' : World, S1 w' → CellsAt w' ⟨g1, 1, none⟩ 0 [.int .u8 x03, .int .u8 x1101, .int .u8 x231, .int .u8 x312, .int .u8 x412, .int .u8 x512, .int .u8 x612, .int .u8 x712, .int .u8 x812, .int .u8 x912, .int .u8 x1012, .int .u8 x1112, .int .u8 x1212, .int .u8 x1312, .int .u8 x1412, .int .u8 x1512]) ∧
    ∃ x232 : Int, (∀ w' : World, S1 w' → w'.cell? ⟨g2, 17, none⟩ = some (.int .i64 x232)) ∧
    ∃ x04 : Int, ∃ x1102 : Int, ∃ x233 : Int, ∃ x313 : Int, ∃ x413 : Int, ∃ x513 : Int, ∃ x613 : Int, ∃ x713 : Int, ∃ x813 : Int, ∃ x913 : Int, ∃ x1013 : Int, ∃ x1113 : Int, ∃ x1213 : Int, ∃ x1313 : Int, ∃ x1413 : Int, ∃ x1513 : Int, (∀ w' : World, S1 w' → CellsAt w' ⟨g2, 1, none⟩ 0 [.int .u8 x04, .int .u8 x1102, .int .u8 x233, .int .u8 x313, .int .u8 x413, .int .u8 x513, .int .u8 x613, .int .u8 x713, .int .u8 x813, .int .u8 x913, .int .u8 x1013, .int .u8 x1113, .int .u8 x1213, .int .u8 x1313, .int .u8 x1413, .int .u8 x1513]) ∧
    Calls Tryd.prog 99 #[.agg #[.int .u8 x03, .int .u8 x1101, .int .u8 x231, .int .u8 x312, .int .u8 x412, .int .u8 x512, .int .u8 x612, .int .u8 x712, .int .u8 x812, .int .u8 x912, .int .u8 x1012, .int .u8 x1112, .int .u8 x1212, .int .u8 x1312, .int .u8 x1412, .int .u8 x1512], .int .i64 x232] w24 (onRet (fun r_1 w25 => ∃ x05 : Int, ∃ x1103 : Int, ∃ x234 : Int, ∃ x314 : Int, ∃ x414 : Int, ∃ x514 : Int, ∃ x614 : Int, ∃ x714 : Int, ∃ x814 : Int, ∃ x914 : Int, ∃ x1014 : Int, ∃ x1114 : Int, ∃ x1214 : Int, ∃ x1314 : Int, ∃ x1414 : Int, ∃ x1514 : Int, r_1 = .agg #[.int .u8 x05, .int .u8 x1103, .int .u8 x234, .int .u8 x314, .int .u8 x414, .int .u8 x514, .int .u8 x614, .int .u8 x714, .int .u8 x814, .int .u8 x914, .int .u8 x1014, .int .u8 x1114, .int .u8 x1214, .int .u8 x1314, .int .u8 x1414, .int .u8 x1514] ∧
    S1 w25 ∧
    Br ((decide (x05 = x04)) && ((decide (x1103 = x1102)) && ((decide (x234 = x233)) && ((decide (x314 = x313)) && ((decide (x414 = x413)) && ((decide (x514 = x513)) && ((decide (x614 = x613)) && ((decide (x714 = x713)) && ((decide (x814 = x813)) && ((decide (x914 = x913)) && ((decide (x1014 = x1013)) && ((decide (x1114 = x1113)) && ((decide (x1214 = x1213)) && ((decide (x1314 = x1313)) && ((decide (x1414 = x1413)) && ((decide (x1514 = x1513)) && true))))))))))))))))
    (∃ x235 : Int, w25.cell? ⟨g2, 18, none⟩ = some (.int .i64 x235) ∧
    R (.returned (.int .i64 x235)) w25)
    (K58 (IntKind.i64.wrap (t9_ + 1)) w25))
      (fun _ _ => False)))
    (K58 (IntKind.i64.wrap (t9_ + 1)) w24))
    (R (.returned (.int .i64 7)) w3)
set_option maxRecDepth 100000 in
def addr_Class_VC (ip_V : Int) (ip_A0_ : Int) (ip_A1_ : Int) (ip_A2_ : Int) (ip_A3_ : Int) (ip_A4_ : Int) (ip_A5_ : Int) (ip_A6_ : Int) (ip_A7_ : Int) (ip_A8_ : Int) (ip_A9_ : Int) (ip_A10_ : Int) (ip_A11_ : Int) (ip_A12_ : Int) (ip_A13_ : Int) (ip_A14_ : Int) (ip_A15_ : Int) (w : World) (R : Ending → World → Prop) : Prop :=
  NewVC w (.cells #[.int .i64 ip_V, .int .u8 ip_A0_, .int .u8 ip_A1_, .int .u8 ip_A2_, .int .u8 ip_A3_, .int .u8 ip_A4_, .int .u8 ip_A5_, .int .u8 ip_A6_, .int .u8 ip_A7_, .int .u8 ip_A8_, .int .u8 ip_A9_, .int .u8 ip_A10_, .int .u8 ip_A11_, .int .u8 ip_A12_, .int .u8 ip_A13_, .int .u8 ip_A14_, .int .u8 ip_A15_] 31) fun g1 w1 =>
  ∃ x0 : Int, ∃ x1 : Int, ∃ x2 : Int, ∃ x3 : Int, ∃ x4 : Int, ∃ x5 : Int, ∃ x6 : Int, ∃ x7 : Int, ∃ x8 : Int, ∃ x9 : Int, ∃ x10 : Int, ∃ x11 : Int, ∃ x12 : Int, ∃ x13 : Int, ∃ x14 : Int, ∃ x15 : Int, ∃ x16 : Int, CellsAt w1 ⟨g1, 0, none⟩ 0 [.int .i64 x0, .int .u8 x1, .int .u8 x2, .int .u8 x3, .int .u8 x4, .int .u8 x5, .int .u8 x6, .int .u8 x7, .int .u8 x8, .int .u8 x9, .int .u8 x10, .int .u8 x11, .int .u8 x12, .int .u8 x13, .int .u8 x14, .int .u8 x15, .int .u8 x16] ∧
  Calls Tryd.prog 98 #[.agg #[.int .i64 x0, .int .u8 x1, .int .u8 x2, .int .u8 x3, .int .u8 x4, .int .u8 x5, .int .u8 x6, .int .u8 x7, .int .u8 x8, .int .u8 x9, .int .u8 x10, .int .u8 x11, .int .u8 x12, .int .u8 x13, .int .u8 x14, .int .u8 x15, .int .u8 x16]] w1 (onRet (fun r_ w2 => ∃ x : Bool, r_ = .bool x ∧
  Br (!x)
    (R (.returned (.int .i64 0)) w2)
    (∃ x01 : Int, ∃ x17 : Int, ∃ x21 : Int, ∃ x31 : Int, ∃ x41 : Int, ∃ x51 : Int, ∃ x61 : Int, ∃ x71 : Int, ∃ x81 : Int, ∃ x91 : Int, ∃ x101 : Int, ∃ x111 : Int, ∃ x121 : Int, ∃ x131 : Int, ∃ x141 : Int, ∃ x151 : Int, ∃ x161 : Int, ∃ x171 : Int, ∃ x18 : Int, ∃ x19 : Int, ∃ x20 : Int, ∃ x211 : Int, ∃ x22 : Int, ∃ x23 : Int, ∃ x24 : Int, ∃ x25 : Int, ∃ x26 : Int, ∃ x27 : Int, ∃ x28 : Int, ∃ x29 : Int, ∃ x30 : Int, ∃ x311 : Int, ∃ x32 : Int, ∃ x33 : Int, ∃ x34 : Int, ∃ x35 : Int, ∃ x36 : Int, ∃ x37 : Int, ∃ x38 : Int, ∃ x39 : Int, ∃ x40 : Int, ∃ x411 : Int, ∃ x42 : Int, ∃ x43 : Int, ∃ x44 : Int, ∃ x45 : Int, ∃ x46 : Int, ∃ x47 : Int, ∃ x48 : Int, ∃ x49 : Int, ∃ x50 : Int, ∃ x511 : Int, ∃ x52 : Int, ∃ x53 : Int, ∃ x54 : Int, ∃ x55 : Int, ∃ x56 : Int, ∃ x57 : Int, ∃ x58 : Int, ∃ x59 : Int, ∃ x60 : Int, ∃ x611 : Int, ∃ x62 : Int, ∃ x63 : Int, ∃ x64 : Int, ∃ x65 : Int, ∃ x66 : Int, ∃ x67 : Int, ∃ x68 : Int, ∃ x69 : Int, ∃ x70 : Int, ∃ x711 : Int, ∃ x72 : Int, ∃ x73 : Int, ∃ x74 : Int, ∃ x75 : Int, ∃ x76 : Int, ∃ x77 : Int, ∃ x78 : Int, ∃ x79 : Int, ∃ x80 : Int, ∃ x811 : Int, ∃ x82 : Int, ∃ x83 : Int, ∃ x84 : Int, ∃ x85 : Int, ∃ x86 : Int, ∃ x87 : Int, ∃ x88 : Int, ∃ x89 : Int, ∃ x90 : Int, ∃ x911 : Int, ∃ x92 : Int, ∃ x93 : Int, ∃ x94 : Int, ∃ x95 : Int, ∃ x96 : Int, ∃ x97 : Int, ∃ x98 : Int, ∃ x99 : Int, ∃ x100 : Int, ∃ x1011 : Int, ∃ x102 : Int, ∃ x103 : Int, ∃ x104 : Int, ∃ x105 : Int, ∃ x106 : Int, ∃ x107 : Int, ∃ x108 : Int, ∃ x109 : Int, ∃ x110 : Int, ∃ x1111 : Int, ∃ x112 : Int, ∃ x113 : Int, ∃ x114 : Int, ∃ x115 : Int, ∃ x116 : Int, ∃ x117 : Int, ∃ x118 : Int, ∃ x119 : Int, ∃ x120 : Int, ∃ x1211 : Int, ∃ x122 : Int, ∃ x123 : Int, ∃ x124 : Int, ∃ x125 : Int, ∃ x126 : Int, ∃ x127 : Int, ∃ x128 : Int, ∃ x129 : Int, ∃ x130 : Int, ∃ x1311 : Int, ∃ x132 : Int, ∃ x133 : Int, ∃ x134 : Int, ∃ x135 : Int, ∃ x136 : Int, ∃ x137 : Int, ∃ x138 : Int, ∃ x139 : Int, ∃ x140 : Int, ∃ x1411 : Int, ∃ x142 : Int, ∃ x143 : Int, ∃ x144 : Int, ∃ x145 : Int, ∃ x146 : Int, ∃ x147 : Int, ∃ x148 : Int, ∃ x149 : Int, ∃ x150 : Int, ∃ x1511 : Int, ∃ x152 : Int, ∃ x153 : Int, ∃ x154 : Int, ∃ x155 : Int, ∃ x156 : Int, ∃ x157 : Int, ∃ x158 : Int, ∃ x159 : Int, ∃ x160 : Int, ∃ x1611 : Int, ∃ x162 : Int, ∃ x163 : Int, ∃ x164 : Int, ∃ x165 : Int, ∃ x166 : Int, ∃ x167 : Int, ∃ x168 : Int, ∃ x169 : Int, ∃ x170 : Int, ∃ x1711 : Int, ∃ x172 : Int, ∃ x173 : Int, ∃ x174 : Int, ∃ x175 : Int, ∃ x176 : Int, ∃ x177 : Int, ∃ x178 : Int, ∃ x179 : Int, ∃ x180 : Int, ∃ x181 : Int, ∃ x182 : Int, ∃ x183 : Int, ∃ x184 : Int, ∃ x185 : Int, ∃ x186 : Int, ∃ x187 : Int, ∃ x188 : Int, ∃ x189 : Int, ∃ x190 : Int, ∃ x191 : Int, ∃ x192 : Int, ∃ x193 : Int, ∃ x194 : Int, ∃ x195 : Int, ∃ x196 : Int, ∃ x197 : Int, ∃ x198 : Int, ∃ x199 : Int, ∃ x200 : Int, ∃ x201 : Int, ∃ x202 : Int, ∃ x203 : Int, ∃ x204 : Int, ∃ x205 : Int, ∃ x206 : Int, ∃ x207 : Int, ∃ x208 : Int, ∃ x209 : Int, ∃ x210 : Int, ∃ x2111 : Int, ∃ x212 : Int, ∃ x213 : Int, ∃ x214 : Int, ∃ x215 : Int, ∃ x216 : Int, ∃ x217 : Int, ∃ x218 : Int, ∃ x219 : Int, ∃ x220 : Int, ∃ x221 : Int, ∃ x222 : Int, ∃ x223 : Int, ∃ x224 : Int, ∃ x225 : Int, ∃ x226 : Int, ∃ x227 : Int, CellsAt w2 ⟨2, 0, none⟩ 0 [.int .i64 x01, .int .u8 x17, .int .u8 x21, .int .u8 x31, .int .u8 x41, .int .u8 x51, .int .u8 x61, .int .u8 x71, .int .u8 x81, .int .u8 x91, .int .u8 x101, .int .u8 x111, .int .u8 x121, .int .u8 x131, .int .u8 x141, .int .u8 x151, .int .u8 x161, .int .i64 x171, .int .i64 x18, .int .i64 x19, .int .u8 x20, .int .u8 x211, .int .u8 x22, .int .u8 x23, .int .u8 x24, .int .u8 x25, .int .u8 x26, .int .u8 x27, .int .u8 x28, .int .u8 x29, .int .u8 x30, .int .u8 x311, .int .u8 x32, .int .u8 x33, .int .u8 x34, .int .u8 x35, .int .i64 x36, .int .i64 x37, .int .i64 x38, .int .u8 x39, .int .u8 x40, .int .u8 x411, .int .u8 x42, .int .u8 x43, .int .u8 x44, .int .u8 x45, .int .u8 x46, .int .u8 x47, .int .u8 x48, .int .u8 x49, .int .u8 x50, .int .u8 x511, .int .u8 x52, .int .u8 x53, .int .u8 x54, .int .i64 x55, .int .i64 x56, .int .i64 x57, .int .u8 x58, .int .u8 x59, .int .u8 x60, .int .u8 x611, .int .u8 x62, .int .u8 x63, .int .u8 x64, .int .u8 x65, .int .u8 x66, .int .u8 x67, .int .u8 x68, .int .u8 x69, .int .u8 x70, .int .u8 x711, .int .u8 x72, .int .u8 x73, .int .i64 x74, .int .i64 x75, .int .i64 x76, .int .u8 x77, .int .u8 x78, .int .u8 x79, .int .u8 x80, .int .u8 x811, .int .u8 x82, .int .u8 x83, .int .u8 x84, .int .u8 x85, .int .u8 x86, .int .u8 x87, .int .u8 x88, .int .u8 x89, .int .u8 x90, .int .u8 x911, .int .u8 x92, .int .i64 x93, .int .i64 x94, .int .i64 x95, .int .u8 x96, .int .u8 x97, .int .u8 x98, .int .u8 x99, .int .u8 x100, .int .u8 x1011, .int .u8 x102, .int .u8 x103, .int .u8 x104, .int .u8 x105, .int .u8 x106, .int .u8 x107, .int .u8 x108, .int .u8 x109, .int .u8 x110, .int .u8 x1111, .int .i64 x112, .int .i64 x113, .int .i64 x114, .int .u8 x115, .int .u8 x116, .int .u8 x117, .int .u8 x118, .int .u8 x119, .int .u8 x120, .int .u8 x1211, .int .u8 x122, .int .u8 x123, .int .u8 x124, .int .u8 x125, .int .u8 x126, .int .u8 x127, .int .u8 x128, .int .u8 x129, .int .u8 x130, .int .i64 x1311, .int .i64 x132, .int .i64 x133, .int .u8 x134, .int .u8 x135, .int .u8 x136, .int .u8 x137, .int .u8 x138, .int .u8 x139, .int .u8 x140, .int .u8 x1411, .int .u8 x142, .int .u8 x143, .int .u8 x144, .int .u8 x145, .int .u8 x146, .int .u8 x147, .int .u8 x148, .int .u8 x149, .int .i64 x150, .int .i64 x1511, .int .i64 x152, .int .u8 x153, .int .u8 x154, .int .u8 x155, .int .u8 x156, .int .u8 x157, .int .u8 x158, .int .u8 x159, .int .u8 x160, .int .u8 x1611, .int .u8 x162, .int .u8 x163, .int .u8 x164, .int .u8 x165, .int .u8 x166, .int .u8 x167, .int .u8 x168, .int .i64 x169, .int .i64 x170, .int .i64 x1711, .int .u8 x172, .int .u8 x173, .int .u8 x174, .int .u8 x175, .int .u8 x176, .int .u8 x177, .int .u8 x178, .int .u8 x179, .int .u8 x180, .int .u8 x181, .int .u8 x182, .int .u8 x183, .int .u8 x184, .int .u8 x185, .int .u8 x186, .int .u8 x187, .int .i64 x188, .int .i64 x189, .int .i64 x190, .int .u8 x191, .int .u8 x192, .int .u8 x193, .int .u8 x194, .int .u8 x195, .int .u8 x196, .int .u8 x197, .int .u8 x198, .int .u8 x199, .int .u8 x200, .int .u8 x201, .int .u8 x202, .int .u8 x203, .int .u8 x204, .int .u8 x205, .int .u8 x206, .int .i64 x207, .int .i64 x208, .int .i64 x209, .int .u8 x210, .int .u8 x2111, .int .u8 x212, .int .u8 x213, .int .u8 x214, .int .u8 x215, .int .u8 x216, .int .u8 x217, .int .u8 x218, .int .u8 x219, .int .u8 x220, .int .u8 x221, .int .u8 x222, .int .u8 x223, .int .u8 x224, .int .u8 x225, .int .i64 x226, .int .i64 x227] ∧
  LoopVC (S := Int) (fun s_ w3 K58 => addr_Class_L58 R g1 x01 x17 x21 x31 x41 x51 x61 x71 x81 x91 x101 x111 x121 x131 x141 x151 x161 x171 x18 x19 x20 x211 x22 x23 x24 x25 x26 x27 x28 x29 x30 x311 x32 x33 x34 x35 x36 x37 x38 x39 x40 x411 x42 x43 x44 x45 x46 x47 x48 x49 x50 x511 x52 x53 x54 x55 x56 x57 x58 x59 x60 x611 x62 x63 x64 x65 x66 x67 x68 x69 x70 x711 x72 x73 x74 x75 x76 x77 x78 x79 x80 x811 x82 x83 x84 x85 x86 x87 x88 x89 x90 x911 x92 x93 x94 x95 x96 x97 x98 x99 x100 x1011 x102 x103 x104 x105 x106 x107 x108 x109 x110 x1111 x112 x113 x114 x115 x116 x117 x118 x119 x120 x1211 x122 x123 x124 x125 x126 x127 x128 x129 x130 x1311 x132 x133 x134 x135 x136 x137 x138 x139 x140 x1411 x142 x143 x144 x145 x146 x147 x148 x149 x150 x1511 x152 x153 x154 x155 x156 x157 x158 x159 x160 x1611 x162 x163 x164 x165 x166 x167 x168 x169 x170 x1711 x172 x173 x174 x175 x176 x177 x178 x179 x180 x181 x182 x183 x184 x185 x186 x187 x188 x189 x190 x191 x192 x193 x194 x195 x196 x197 x198 x199 x200 x201 x202 x203 x204 x205 x206 x207 x208 x209 x210 x2111 x212 x213 x214 x215 x216 x217 x218 x219 x220 x221 x222 x223 x224 x225 x226 x227 s_ w3 K58) 0 w2))
    (fun ch w2 => R (.panicked ch) w2))
def addr_Class_H : Hints := [(58, [(9, .int .i64)])]
set_option maxRecDepth 100000 in
theorem addr_Class_of (ip_V : Int) (ip_A0_ : Int) (ip_A1_ : Int) (ip_A2_ : Int) (ip_A3_ : Int) (ip_A4_ : Int) (ip_A5_ : Int) (ip_A6_ : Int) (ip_A7_ : Int) (ip_A8_ : Int) (ip_A9_ : Int) (ip_A10_ : Int) (ip_A11_ : Int) (ip_A12_ : Int) (ip_A13_ : Int) (ip_A14_ : Int) (ip_A15_ : Int) (w : World) (R : Ending → World → Prop) (h : addr_Class_VC ip_V ip_A0_ ip_A1_ ip_A2_ ip_A3_ ip_A4_ ip_A5_ ip_A6_ ip_A7_ ip_A8_ ip_A9_ ip_A10_ ip_A11_ ip_A12_ ip_A13_ ip_A14_ ip_A15_ w R) :
    Calls Tryd.prog 72 #[.agg #[.int .i64 ip_V, .int .u8 ip_A0_, .int .u8 ip_A1_, .int .u8 ip_A2_, .int .u8 ip_A3_, .int .u8 ip_A4_, .int .u8 ip_A5_, .int .u8 ip_A6_, .int .u8 ip_A7_, .int .u8 ip_A8_, .int .u8 ip_A9_, .int .u8 ip_A10_, .int .u8 ip_A11_, .int .u8 ip_A12_, .int .u8 ip_A13_, .int .u8 ip_A14_, .int .u8 ip_A15_]] w R :=
  calls_of_wpc callOk mixedOk (H := addr_Class_H) (args := [.agg #[.int .i64 ip_V, .int .u8 ip_A0_, .int .u8 ip_A1_, .int .u8 ip_A2_, .int .u8 ip_A3_, .int .u8 ip_A4_, .int .u8 ip_A5_, .int .u8 ip_A6_, .int .u8 ip_A7_, .int .u8 ip_A8_, .int .u8 ip_A9_, .int .u8 ip_A10_, .int .u8 ip_A11_, .int .u8 ip_A12_, .int .u8 ip_A13_, .int .u8 ip_A14_, .int .u8 ip_A15_]]) (fn := Tryd.f72) (c := bodyOf Tryd.f72) Tryd.func72 rfl (Nat.le_of_ble_eq_true rfl)
    (Eq.mp (by kernel_rfl : addr_Class_VC ip_V ip_A0_ ip_A1_ ip_A2_ ip_A3_ ip_A4_ ip_A5_ ip_A6_ ip_A7_ ip_A8_ ip_A9_ ip_A10_ ip_A11_ ip_A12_ ip_A13_ ip_A14_ ip_A15_ w R = wpc Tryd.prog callF Tryd.f72.ntmps addr_Class_H 1 (bodyOf Tryd.f72) (argEnv 0 [.agg #[.int .i64 ip_V, .int .u8 ip_A0_, .int .u8 ip_A1_, .int .u8 ip_A2_, .int .u8 ip_A3_, .int .u8 ip_A4_, .int .u8 ip_A5_, .int .u8 ip_A6_, .int .u8 ip_A7_, .int .u8 ip_A8_, .int .u8 ip_A9_, .int .u8 ip_A10_, .int .u8 ip_A11_, .int .u8 ip_A12_, .int .u8 ip_A13_, .int .u8 ip_A14_, .int .u8 ip_A15_]]) [] w (finish Tryd.prog callF Tryd.f72.results.toList R)) h)

set_option maxRecDepth 100000 in
def weirref4_Class_J7423 (R : Ending → World → Prop) (g1 : Nat) (t30_ : Bool) (w14 : World) : Prop :=
  Br t30_
    (R (.returned (.int .i64 4)) w14)
    (∃ x09 : Int, ∃ x130 : Int, ∃ x212 : Int, ∃ x310 : Int, ∃ x49 : Int, ∃ x59 : Int, ∃ x69 : Int, ∃ x79 : Int, ∃ x89 : Int, ∃ x99 : Int, ∃ x109 : Int, ∃ x1112 : Int, ∃ x1210 : Int, ∃ x139 : Int, ∃ x149 : Int, ∃ x159 : Int, ∃ x169 : Int, CellsAt w14 ⟨g1, 0, none⟩ 0 [.int .i64 x09, .int .u8 x130, .int .u8 x212, .int .u8 x310, .int .u8 x49, .int .u8 x59, .int .u8 x69, .int .u8 x79, .int .u8 x89, .int .u8 x99, .int .u8 x109, .int .u8 x1112, .int .u8 x1210, .int .u8 x139, .int .u8 x149, .int .u8 x159, .int .u8 x169] ∧
    Calls Tryd.prog 104 #[.string ⟨#[50, 53, 53, 46, 50, 53, 53, 46, 50, 53, 53, 46, 50, 53, 53, 47, 51, 50]⟩, .agg #[.int .i64 x09, .int .u8 x130, .int .u8 x212, .int .u8 x310, .int .u8 x49, .int .u8 x59, .int .u8 x69, .int .u8 x79, .int .u8 x89, .int .u8 x99, .int .u8 x109, .int .u8 x1112, .int .u8 x1210, .int .u8 x139, .int .u8 x149, .int .u8 x159, .int .u8 x169]] w14 (onRet (fun r_9 w15 => ∃ x50 : Bool, r_9 = .bool x50 ∧
    Br x50
      (R (.returned (.int .i64 5)) w15)
      (∃ x010 : Int, ∃ x140 : Int, ∃ x213 : Int, ∃ x311 : Int, ∃ x410 : Int, ∃ x510 : Int, ∃ x610 : Int, ∃ x710 : Int, ∃ x810 : Int, ∃ x910 : Int, ∃ x1010 : Int, ∃ x1113 : Int, ∃ x1211 : Int, ∃ x1310 : Int, ∃ x1410 : Int, ∃ x1510 : Int, ∃ x1610 : Int, CellsAt w15 ⟨g1, 0, none⟩ 0 [.int .i64 x010, .int .u8 x140, .int .u8 x213, .int .u8 x311, .int .u8 x410, .int .u8 x510, .int .u8 x610, .int .u8 x710, .int .u8 x810, .int .u8 x910, .int .u8 x1010, .int .u8 x1113, .int .u8 x1211, .int .u8 x1310, .int .u8 x1410, .int .u8 x1510, .int .u8 x1610] ∧
      Calls Tryd.prog 104 #[.string ⟨#[48, 46, 48, 46, 48, 46, 48, 47, 56]⟩, .agg #[.int .i64 x010, .int .u8 x140, .int .u8 x213, .int .u8 x311, .int .u8 x410, .int .u8 x510, .int .u8 x610, .int .u8 x710, .int .u8 x810, .int .u8 x910, .int .u8 x1010, .int .u8 x1113, .int .u8 x1211, .int .u8 x1310, .int .u8 x1410, .int .u8 x1510, .int .u8 x1610]] w15 (onRet (fun r_10 w16 => ∃ x60 : Bool, r_10 = .bool x60 ∧
      Br x60
        (R (.returned (.int .i64 6)) w16)
        (∃ x011 : Int, ∃ x150 : Int, ∃ x214 : Int, ∃ x312 : Int, ∃ x411 : Int, ∃ x511 : Int, ∃ x611 : Int, ∃ x711 : Int, ∃ x811 : Int, ∃ x911 : Int, ∃ x1011 : Int, ∃ x1114 : Int, ∃ x1212 : Int, ∃ x1311 : Int, ∃ x1411 : Int, ∃ x1511 : Int, ∃ x1611 : Int, CellsAt w16 ⟨g1, 0, none⟩ 0 [.int .i64 x011, .int .u8 x150, .int .u8 x214, .int .u8 x312, .int .u8 x411, .int .u8 x511, .int .u8 x611, .int .u8 x711, .int .u8 x811, .int .u8 x911, .int .u8 x1011, .int .u8 x1114, .int .u8 x1212, .int .u8 x1311, .int .u8 x1411, .int .u8 x1511, .int .u8 x1611] ∧
        Calls Tryd.prog 104 #[.string ⟨#[50, 52, 48, 46, 48, 46, 48, 46, 48, 47, 52]⟩, .agg #[.int .i64 x011, .int .u8 x150, .int .u8 x214, .int .u8 x312, .int .u8 x411, .int .u8 x511, .int .u8 x611, .int .u8 x711, .int .u8 x811, .int .u8 x911, .int .u8 x1011, .int .u8 x1114, .int .u8 x1212, .int .u8 x1311, .int .u8 x1411, .int .u8 x1511, .int .u8 x1611]] w16 (onRet (fun r_11 w17 => ∃ x70 : Bool, r_11 = .bool x70 ∧
        Br x70
          (R (.returned (.int .i64 6)) w17)
          (∃ x012 : Int, ∃ x160 : Int, ∃ x215 : Int, ∃ x313 : Int, ∃ x412 : Int, ∃ x512 : Int, ∃ x612 : Int, ∃ x712 : Int, ∃ x812 : Int, ∃ x912 : Int, ∃ x1012 : Int, ∃ x1115 : Int, ∃ x1213 : Int, ∃ x1312 : Int, ∃ x1412 : Int, ∃ x1512 : Int, ∃ x1612 : Int, CellsAt w17 ⟨g1, 0, none⟩ 0 [.int .i64 x012, .int .u8 x160, .int .u8 x215, .int .u8 x313, .int .u8 x412, .int .u8 x512, .int .u8 x612, .int .u8 x712, .int .u8 x812, .int .u8 x912, .int .u8 x1012, .int .u8 x1115, .int .u8 x1213, .int .u8 x1312, .int .u8 x1412, .int .u8 x1512, .int .u8 x1612] ∧
          Calls Tryd.prog 104 #[.string ⟨#[58, 58, 47, 56]⟩, .agg #[.int .i64 x012, .int .u8 x160, .int .u8 x215, .int .u8 x313, .int .u8 x412, .int .u8 x512, .int .u8 x612, .int .u8 x712, .int .u8 x812, .int .u8 x912, .int .u8 x1012, .int .u8 x1115, .int .u8 x1213, .int .u8 x1312, .int .u8 x1412, .int .u8 x1512, .int .u8 x1612]] w17 (onRet (fun r_12 w18 => ∃ x80 : Bool, r_12 = .bool x80 ∧
          Br x80
        (R (.returned (.int .i64 6)) w18)
        (R (.returned (.int .i64 7)) w18))
            (fun ch12 w18 => R (.panicked ch12) w18))))
          (fun ch11 w17 => R (.panicked ch11) w17))))
        (fun ch10 w16 => R (.panicked ch10) w16))))
      (fun ch9 w15 => R (.panicked ch9) w15)))
set_option maxRecDepth 100000 in
def weirref4_Class_J1855 (R : Ending → World → Prop) (g1 : Nat) (t23_ : Bool) (w11 : World) : Prop :=
  Br t23_
    (R (.returned (.int .i64 3)) w11)
    (JoinVC (S := Bool) (fun J7423 =>
        ∃ x07 : Int, ∃ x120 : Int, ∃ x210 : Int, ∃ x37 : Int, ∃ x47 : Int, ∃ x57 : Int, ∃ x67 : Int, ∃ x77 : Int, ∃ x87 : Int, ∃ x97 : Int, ∃ x107 : Int, ∃ x1110 : Int, ∃ x127 : Int, ∃ x137 : Int, ∃ x147 : Int, ∃ x157 : Int, ∃ x167 : Int, CellsAt w11 ⟨g1, 0, none⟩ 0 [.int .i64 x07, .int .u8 x120, .int .u8 x210, .int .u8 x37, .int .u8 x47, .int .u8 x57, .int .u8 x67, .int .u8 x77, .int .u8 x87, .int .u8 x97, .int .u8 x107, .int .u8 x1110, .int .u8 x127, .int .u8 x137, .int .u8 x147, .int .u8 x157, .int .u8 x167] ∧
        Calls Tryd.prog 104 #[.string ⟨#[49, 54, 57, 46, 50, 53, 52, 46, 48, 46, 48, 47, 49, 54]⟩, .agg #[.int .i64 x07, .int .u8 x120, .int .u8 x210, .int .u8 x37, .int .u8 x47, .int .u8 x57, .int .u8 x67, .int .u8 x77, .int .u8 x87, .int .u8 x97, .int .u8 x107, .int .u8 x1110, .int .u8 x127, .int .u8 x137, .int .u8 x147, .int .u8 x157, .int .u8 x167]] w11 (onRet (fun r_7 w12 => ∃ x38 : Bool, r_7 = .bool x38 ∧
        Br x38
          (J7423 true w12)
          (∃ x08 : Int, ∃ x128 : Int, ∃ x211 : Int, ∃ x39 : Int, ∃ x48 : Int, ∃ x58 : Int, ∃ x68 : Int, ∃ x78 : Int, ∃ x88 : Int, ∃ x98 : Int, ∃ x108 : Int, ∃ x1111 : Int, ∃ x129 : Int, ∃ x138 : Int, ∃ x148 : Int, ∃ x158 : Int, ∃ x168 : Int, CellsAt w12 ⟨g1, 0, none⟩ 0 [.int .i64 x08, .int .u8 x128, .int .u8 x211, .int .u8 x39, .int .u8 x48, .int .u8 x58, .int .u8 x68, .int .u8 x78, .int .u8 x88, .int .u8 x98, .int .u8 x108, .int .u8 x1111, .int .u8 x129, .int .u8 x138, .int .u8 x148, .int .u8 x158, .int .u8 x168] ∧
          Calls Tryd.prog 104 #[.string ⟨#[102, 101, 56, 48, 58, 58, 47, 49, 48]⟩, .agg #[.int .i64 x08, .int .u8 x128, .int .u8 x211, .int .u8 x39, .int .u8 x48, .int .u8 x58, .int .u8 x68, .int .u8 x78, .int .u8 x88, .int .u8 x98, .int .u8 x108, .int .u8 x1111, .int .u8 x129, .int .u8 x138, .int .u8 x148, .int .u8 x158, .int .u8 x168]] w12 (onRet (fun r_8 w13 => ∃ x40 : Bool, r_8 = .bool x40 ∧
          J7423 x40 w13)
            (fun ch8 w13 => R (.panicked ch8) w13))))
          (fun ch7 w12 => R (.panicked ch7) w12)))
      (fun s_ w14 => weirref4_Class_J7423 R g1 s_ w14))
set_option maxRecDepth 100000 in
def weirref4_Class_J463 (R : Ending → World → Prop) (g1 : Nat) (t16_ : Bool) (w8 : World) : Prop :=
  Br t16_
    (R (.returned (.int .i64 2)) w8)
    (JoinVC (S := Bool) (fun J1855 =>
        ∃ x05 : Int, ∃ x116 : Int, ∃ x27 : Int, ∃ x35 : Int, ∃ x45 : Int, ∃ x55 : Int, ∃ x65 : Int, ∃ x75 : Int, ∃ x85 : Int, ∃ x95 : Int, ∃ x105 : Int, ∃ x117 : Int, ∃ x125 : Int, ∃ x135 : Int, ∃ x145 : Int, ∃ x155 : Int, ∃ x165 : Int, CellsAt w8 ⟨g1, 0, none⟩ 0 [.int .i64 x05, .int .u8 x116, .int .u8 x27, .int .u8 x35, .int .u8 x45, .int .u8 x55, .int .u8 x65, .int .u8 x75, .int .u8 x85, .int .u8 x95, .int .u8 x105, .int .u8 x117, .int .u8 x125, .int .u8 x135, .int .u8 x145, .int .u8 x155, .int .u8 x165] ∧
        Calls Tryd.prog 104 #[.string ⟨#[50, 50, 52, 46, 48, 46, 48, 46, 48, 47, 52]⟩, .agg #[.int .i64 x05, .int .u8 x116, .int .u8 x27, .int .u8 x35, .int .u8 x45, .int .u8 x55, .int .u8 x65, .int .u8 x75, .int .u8 x85, .int .u8 x95, .int .u8 x105, .int .u8 x117, .int .u8 x125, .int .u8 x135, .int .u8 x145, .int .u8 x155, .int .u8 x165]] w8 (onRet (fun r_5 w9 => ∃ x28 : Bool, r_5 = .bool x28 ∧
        Br x28
          (J1855 true w9)
          (∃ x06 : Int, ∃ x118 : Int, ∃ x29 : Int, ∃ x36 : Int, ∃ x46 : Int, ∃ x56 : Int, ∃ x66 : Int, ∃ x76 : Int, ∃ x86 : Int, ∃ x96 : Int, ∃ x106 : Int, ∃ x119 : Int, ∃ x126 : Int, ∃ x136 : Int, ∃ x146 : Int, ∃ x156 : Int, ∃ x166 : Int, CellsAt w9 ⟨g1, 0, none⟩ 0 [.int .i64 x06, .int .u8 x118, .int .u8 x29, .int .u8 x36, .int .u8 x46, .int .u8 x56, .int .u8 x66, .int .u8 x76, .int .u8 x86, .int .u8 x96, .int .u8 x106, .int .u8 x119, .int .u8 x126, .int .u8 x136, .int .u8 x146, .int .u8 x156, .int .u8 x166] ∧
          Calls Tryd.prog 104 #[.string ⟨#[102, 102, 48, 48, 58, 58, 47, 56]⟩, .agg #[.int .i64 x06, .int .u8 x118, .int .u8 x29, .int .u8 x36, .int .u8 x46, .int .u8 x56, .int .u8 x66, .int .u8 x76, .int .u8 x86, .int .u8 x96, .int .u8 x106, .int .u8 x119, .int .u8 x126, .int .u8 x136, .int .u8 x146, .int .u8 x156, .int .u8 x166]] w9 (onRet (fun r_6 w10 => ∃ x30 : Bool, r_6 = .bool x30 ∧
          J1855 x30 w10)
            (fun ch6 w10 => R (.panicked ch6) w10))))
          (fun ch5 w9 => R (.panicked ch5) w9)))
      (fun s_ w11 => weirref4_Class_J1855 R g1 s_ w11))
set_option maxRecDepth 100000 in
def weirref4_Class_J115 (R : Ending → World → Prop) (g1 : Nat) (t9_ : Bool) (w5 : World) : Prop :=
  Br t9_
    (R (.returned (.int .i64 1)) w5)
    (JoinVC (S := Bool) (fun J463 =>
        ∃ x03 : Int, ∃ x110 : Int, ∃ x23 : Int, ∃ x33 : Int, ∃ x43 : Int, ∃ x53 : Int, ∃ x63 : Int, ∃ x73 : Int, ∃ x83 : Int, ∃ x93 : Int, ∃ x103 : Int, ∃ x113 : Int, ∃ x123 : Int, ∃ x133 : Int, ∃ x143 : Int, ∃ x153 : Int, ∃ x163 : Int, CellsAt w5 ⟨g1, 0, none⟩ 0 [.int .i64 x03, .int .u8 x110, .int .u8 x23, .int .u8 x33, .int .u8 x43, .int .u8 x53, .int .u8 x63, .int .u8 x73, .int .u8 x83, .int .u8 x93, .int .u8 x103, .int .u8 x113, .int .u8 x123, .int .u8 x133, .int .u8 x143, .int .u8 x153, .int .u8 x163] ∧
        Calls Tryd.prog 104 #[.string ⟨#[49, 50, 55, 46, 48, 46, 48, 46, 48, 47, 56]⟩, .agg #[.int .i64 x03, .int .u8 x110, .int .u8 x23, .int .u8 x33, .int .u8 x43, .int .u8 x53, .int .u8 x63, .int .u8 x73, .int .u8 x83, .int .u8 x93, .int .u8 x103, .int .u8 x113, .int .u8 x123, .int .u8 x133, .int .u8 x143, .int .u8 x153, .int .u8 x163]] w5 (onRet (fun r_3 w6 => ∃ x24 : Bool, r_3 = .bool x24 ∧
        Br x24
          (J463 true w6)
          (∃ x04 : Int, ∃ x114 : Int, ∃ x25 : Int, ∃ x34 : Int, ∃ x44 : Int, ∃ x54 : Int, ∃ x64 : Int, ∃ x74 : Int, ∃ x84 : Int, ∃ x94 : Int, ∃ x104 : Int, ∃ x115 : Int, ∃ x124 : Int, ∃ x134 : Int, ∃ x144 : Int, ∃ x154 : Int, ∃ x164 : Int, CellsAt w6 ⟨g1, 0, none⟩ 0 [.int .i64 x04, .int .u8 x114, .int .u8 x25, .int .u8 x34, .int .u8 x44, .int .u8 x54, .int .u8 x64, .int .u8 x74, .int .u8 x84, .int .u8 x94, .int .u8 x104, .int .u8 x115, .int .u8 x124, .int .u8 x134, .int .u8 x144, .int .u8 x154, .int .u8 x164] ∧
          Calls Tryd.prog 104 #[.string ⟨#[58, 58, 49, 47, 49, 50, 56]⟩, .agg #[.int .i64 x04, .int .u8 x114, .int .u8 x25, .int .u8 x34, .int .u8 x44, .int .u8 x54, .int .u8 x64, .int .u8 x74, .int .u8 x84, .int .u8 x94, .int .u8 x104, .int .u8 x115, .int .u8 x124, .int .u8 x134, .int .u8 x144, .int .u8 x154, .int .u8 x164]] w6 (onRet (fun r_4 w7 => ∃ x26 : Bool, r_4 = .bool x26 ∧
          J463 x26 w7)
            (fun ch4 w7 => R (.panicked ch4) w7))))
          (fun ch3 w6 => R (.panicked ch3) w6)))
      (fun s_ w8 => weirref4_Class_J463 R g1 s_ w8))
set_option maxRecDepth 100000 in
def weirref4_Class_VC (ip_V : Int) (ip_A0_ : Int) (ip_A1_ : Int) (ip_A2_ : Int) (ip_A3_ : Int) (ip_A4_ : Int) (ip_A5_ : Int) (ip_A6_ : Int) (ip_A7_ : Int) (ip_A8_ : Int) (ip_A9_ : Int) (ip_A10_ : Int) (ip_A11_ : Int) (ip_A12_ : Int) (ip_A13_ : Int) (ip_A14_ : Int) (ip_A15_ : Int) (w : World) (R : Ending → World → Prop) : Prop :=
  NewVC w (.cells #[.int .i64 ip_V, .int .u8 ip_A0_, .int .u8 ip_A1_, .int .u8 ip_A2_, .int .u8 ip_A3_, .int .u8 ip_A4_, .int .u8 ip_A5_, .int .u8 ip_A6_, .int .u8 ip_A7_, .int .u8 ip_A8_, .int .u8 ip_A9_, .int .u8 ip_A10_, .int .u8 ip_A11_, .int .u8 ip_A12_, .int .u8 ip_A13_, .int .u8 ip_A14_, .int .u8 ip_A15_] 31) fun g1 w1 =>
  ∃ x0 : Int, ∃ x1 : Int, ∃ x2 : Int, ∃ x3 : Int, ∃ x4 : Int, ∃ x5 : Int, ∃ x6 : Int, ∃ x7 : Int, ∃ x8 : Int, ∃ x9 : Int, ∃ x10 : Int, ∃ x11 : Int, ∃ x12 : Int, ∃ x13 : Int, ∃ x14 : Int, ∃ x15 : Int, ∃ x16 : Int, CellsAt w1 ⟨g1, 0, none⟩ 0 [.int .i64 x0, .int .u8 x1, .int .u8 x2, .int .u8 x3, .int .u8 x4, .int .u8 x5, .int .u8 x6, .int .u8 x7, .int .u8 x8, .int .u8 x9, .int .u8 x10, .int .u8 x11, .int .u8 x12, .int .u8 x13, .int .u8 x14, .int .u8 x15, .int .u8 x16] ∧
  Calls Tryd.prog 103 #[.agg #[.int .i64 x0, .int .u8 x1, .int .u8 x2, .int .u8 x3, .int .u8 x4, .int .u8 x5, .int .u8 x6, .int .u8 x7, .int .u8 x8, .int .u8 x9, .int .u8 x10, .int .u8 x11, .int .u8 x12, .int .u8 x13, .int .u8 x14, .int .u8 x15, .int .u8 x16]] w1 (onRet (fun r_ w2 => ∃ x : Bool, r_ = .bool x ∧
  Br (!x)
    (R (.returned (.int .i64 0)) w2)
    (JoinVC (S := Bool) (fun J115 =>
        ∃ x01 : Int, ∃ x17 : Int, ∃ x21 : Int, ∃ x31 : Int, ∃ x41 : Int, ∃ x51 : Int, ∃ x61 : Int, ∃ x71 : Int, ∃ x81 : Int, ∃ x91 : Int, ∃ x101 : Int, ∃ x111 : Int, ∃ x121 : Int, ∃ x131 : Int, ∃ x141 : Int, ∃ x151 : Int, ∃ x161 : Int, CellsAt w2 ⟨g1, 0, none⟩ 0 [.int .i64 x01, .int .u8 x17, .int .u8 x21, .int .u8 x31, .int .u8 x41, .int .u8 x51, .int .u8 x61, .int .u8 x71, .int .u8 x81, .int .u8 x91, .int .u8 x101, .int .u8 x111, .int .u8 x121, .int .u8 x131, .int .u8 x141, .int .u8 x151, .int .u8 x161] ∧
        Calls Tryd.prog 104 #[.string ⟨#[48, 46, 48, 46, 48, 46, 48, 47, 51, 50]⟩, .agg #[.int .i64 x01, .int .u8 x17, .int .u8 x21, .int .u8 x31, .int .u8 x41, .int .u8 x51, .int .u8 x61, .int .u8 x71, .int .u8 x81, .int .u8 x91, .int .u8 x101, .int .u8 x111, .int .u8 x121, .int .u8 x131, .int .u8 x141, .int .u8 x151, .int .u8 x161]] w2 (onRet (fun r_1 w3 => ∃ x18 : Bool, r_1 = .bool x18 ∧
        Br x18
          (J115 true w3)
          (∃ x02 : Int, ∃ x19 : Int, ∃ x22 : Int, ∃ x32 : Int, ∃ x42 : Int, ∃ x52 : Int, ∃ x62 : Int, ∃ x72 : Int, ∃ x82 : Int, ∃ x92 : Int, ∃ x102 : Int, ∃ x112 : Int, ∃ x122 : Int, ∃ x132 : Int, ∃ x142 : Int, ∃ x152 : Int, ∃ x162 : Int, CellsAt w3 ⟨g1, 0, none⟩ 0 [.int .i64 x02, .int .u8 x19, .int .u8 x22, .int .u8 x32, .int .u8 x42, .int .u8 x52, .int .u8 x62, .int .u8 x72, .int .u8 x82, .int .u8 x92, .int .u8 x102, .int .u8 x112, .int .u8 x122, .int .u8 x132, .int .u8 x142, .int .u8 x152, .int .u8 x162] ∧
          Calls Tryd.prog 104 #[.string ⟨#[58, 58, 47, 49, 50, 56]⟩, .agg #[.int .i64 x02, .int .u8 x19, .int .u8 x22, .int .u8 x32, .int .u8 x42, .int .u8 x52, .int .u8 x62, .int .u8 x72, .int .u8 x82, .int .u8 x92, .int .u8 x102, .int .u8 x112, .int .u8 x122, .int .u8 x132, .int .u8 x142, .int .u8 x152, .int .u8 x162]] w3 (onRet (fun r_2 w4 => ∃ x20 : Bool, r_2 = .bool x20 ∧
          J115 x20 w4)
            (fun ch2 w4 => R (.panicked ch2) w4))))
          (fun ch1 w3 => R (.panicked ch1) w3)))
      (fun s_ w5 => weirref4_Class_J115 R g1 s_ w5)))
    (fun ch w2 => R (.panicked ch) w2))
def weirref4_Class_H : Hints := [(115, [(9, .bool)]), (463, [(16, .bool)]), (1855, [(23, .bool)]), (7423, [(30, .bool)])]
set_option maxRecDepth 100000 in
theorem weirref4_Class_of (ip_V : Int) (ip_A0_ : Int) (ip_A1_ : Int) (ip_A2_ : Int) (ip_A3_ : Int) (ip_A4_ : Int) (ip_A5_ : Int) (ip_A6_ : Int) (ip_A7_ : Int) (ip_A8_ : Int) (ip_A9_ : Int) (ip_A10_ : Int) (ip_A11_ : Int) (ip_A12_ : Int) (ip_A13_ : Int) (ip_A14_ : Int) (ip_A15_ : Int) (w : World) (R : Ending → World → Prop) (h : weirref4_Class_VC ip_V ip_A0_ ip_A1_ ip_A2_ ip_A3_ ip_A4_ ip_A5_ ip_A6_ ip_A7_ ip_A8_ ip_A9_ ip_A10_ ip_A11_ ip_A12_ ip_A13_ ip_A14_ ip_A15_ w R) :
    Calls Tryd.prog 78 #[.agg #[.int .i64 ip_V, .int .u8 ip_A0_, .int .u8 ip_A1_, .int .u8 ip_A2_, .int .u8 ip_A3_, .int .u8 ip_A4_, .int .u8 ip_A5_, .int .u8 ip_A6_, .int .u8 ip_A7_, .int .u8 ip_A8_, .int .u8 ip_A9_, .int .u8 ip_A10_, .int .u8 ip_A11_, .int .u8 ip_A12_, .int .u8 ip_A13_, .int .u8 ip_A14_, .int .u8 ip_A15_]] w R :=
  calls_of_wpc callOk mixedOk (H := weirref4_Class_H) (args := [.agg #[.int .i64 ip_V, .int .u8 ip_A0_, .int .u8 ip_A1_, .int .u8 ip_A2_, .int .u8 ip_A3_, .int .u8 ip_A4_, .int .u8 ip_A5_, .int .u8 ip_A6_, .int .u8 ip_A7_, .int .u8 ip_A8_, .int .u8 ip_A9_, .int .u8 ip_A10_, .int .u8 ip_A11_, .int .u8 ip_A12_, .int .u8 ip_A13_, .int .u8 ip_A14_, .int .u8 ip_A15_]]) (fn := Tryd.f78) (c := bodyOf Tryd.f78) Tryd.func78 rfl (Nat.le_of_ble_eq_true rfl)
    (Eq.mp (by kernel_rfl : weirref4_Class_VC ip_V ip_A0_ ip_A1_ ip_A2_ ip_A3_ ip_A4_ ip_A5_ ip_A6_ ip_A7_ ip_A8_ ip_A9_ ip_A10_ ip_A11_ ip_A12_ ip_A13_ ip_A14_ ip_A15_ w R = wpc Tryd.prog callF Tryd.f78.ntmps weirref4_Class_H 1 (bodyOf Tryd.f78) (argEnv 0 [.agg #[.int .i64 ip_V, .int .u8 ip_A0_, .int .u8 ip_A1_, .int .u8 ip_A2_, .int .u8 ip_A3_, .int .u8 ip_A4_, .int .u8 ip_A5_, .int .u8 ip_A6_, .int .u8 ip_A7_, .int .u8 ip_A8_, .int .u8 ip_A9_, .int .u8 ip_A10_, .int .u8 ip_A11_, .int .u8 ip_A12_, .int .u8 ip_A13_, .int .u8 ip_A14_, .int .u8 ip_A15_]]) [] w (finish Tryd.prog callF Tryd.f78.results.toList R)) h)

set_option maxRecDepth 100000 in
def addr_Valid_VC (ip_V : Int) (ip_A0_ : Int) (ip_A1_ : Int) (ip_A2_ : Int) (ip_A3_ : Int) (ip_A4_ : Int) (ip_A5_ : Int) (ip_A6_ : Int) (ip_A7_ : Int) (ip_A8_ : Int) (ip_A9_ : Int) (ip_A10_ : Int) (ip_A11_ : Int) (ip_A12_ : Int) (ip_A13_ : Int) (ip_A14_ : Int) (ip_A15_ : Int) (w : World) (R : Ending → World → Prop) : Prop :=
  NewVC w (.cells #[.int .i64 ip_V, .int .u8 ip_A0_, .int .u8 ip_A1_, .int .u8 ip_A2_, .int .u8 ip_A3_, .int .u8 ip_A4_, .int .u8 ip_A5_, .int .u8 ip_A6_, .int .u8 ip_A7_, .int .u8 ip_A8_, .int .u8 ip_A9_, .int .u8 ip_A10_, .int .u8 ip_A11_, .int .u8 ip_A12_, .int .u8 ip_A13_, .int .u8 ip_A14_, .int .u8 ip_A15_] 31) fun g1 w1 =>
  ∃ x0 : Int, ∃ x1 : Int, ∃ x2 : Int, ∃ x3 : Int, ∃ x4 : Int, ∃ x5 : Int, ∃ x6 : Int, ∃ x7 : Int, ∃ x8 : Int, ∃ x9 : Int, ∃ x10 : Int, ∃ x11 : Int, ∃ x12 : Int, ∃ x13 : Int, ∃ x14 : Int, ∃ x15 : Int, ∃ x16 : Int, CellsAt w1 ⟨g1, 0, none⟩ 0 [.int .i64 x0, .int .u8 x1, .int .u8 x2, .int .u8 x3, .int .u8 x4, .int .u8 x5, .int .u8 x6, .int .u8 x7, .int .u8 x8, .int .u8 x9, .int .u8 x10, .int .u8 x11, .int .u8 x12, .int .u8 x13, .int .u8 x14, .int .u8 x15, .int .u8 x16] ∧
  Calls Tryd.prog 122 #[.agg #[.int .i64 x0, .int .u8 x1, .int .u8 x2, .int .u8 x3, .int .u8 x4, .int .u8 x5, .int .u8 x6, .int .u8 x7, .int .u8 x8, .int .u8 x9, .int .u8 x10, .int .u8 x11, .int .u8 x12, .int .u8 x13, .int .u8 x14, .int .u8 x15, .int .u8 x16]] w1 (onRet (fun r_ w2 => ∃ x : Int, r_ = .int .i64 x ∧
  R (.returned (.bool (decide ((0 : Int) < x)))) w2)
    (fun ch w2 => R (.panicked ch) w2))
def addr_Valid_H : Hints := []
set_option maxRecDepth 100000 in
theorem addr_Valid_of (ip_V : Int) (ip_A0_ : Int) (ip_A1_ : Int) (ip_A2_ : Int) (ip_A3_ : Int) (ip_A4_ : Int) (ip_A5_ : Int) (ip_A6_ : Int) (ip_A7_ : Int) (ip_A8_ : Int) (ip_A9_ : Int) (ip_A10_ : Int) (ip_A11_ : Int) (ip_A12_ : Int) (ip_A13_ : Int) (ip_A14_ : Int) (ip_A15_ : Int) (w : World) (R : Ending → World → Prop) (h : addr_Valid_VC ip_V ip_A0_ ip_A1_ ip_A2_ ip_A3_ ip_A4_ ip_A5_ ip_A6_ ip_A7_ ip_A8_ ip_A9_ ip_A10_ ip_A11_ ip_A12_ ip_A13_ ip_A14_ ip_A15_ w R) :
    Calls Tryd.prog 98 #[.agg #[.int .i64 ip_V, .int .u8 ip_A0_, .int .u8 ip_A1_, .int .u8 ip_A2_, .int .u8 ip_A3_, .int .u8 ip_A4_, .int .u8 ip_A5_, .int .u8 ip_A6_, .int .u8 ip_A7_, .int .u8 ip_A8_, .int .u8 ip_A9_, .int .u8 ip_A10_, .int .u8 ip_A11_, .int .u8 ip_A12_, .int .u8 ip_A13_, .int .u8 ip_A14_, .int .u8 ip_A15_]] w R :=
  calls_of_wpc callOk mixedOk (H := addr_Valid_H) (args := [.agg #[.int .i64 ip_V, .int .u8 ip_A0_, .int .u8 ip_A1_, .int .u8 ip_A2_, .int .u8 ip_A3_, .int .u8 ip_A4_, .int .u8 ip_A5_, .int .u8 ip_A6_, .int .u8 ip_A7_, .int .u8 ip_A8_, .int .u8 ip_A9_, .int .u8 ip_A10_, .int .u8 ip_A11_, .int .u8 ip_A12_, .int .u8 ip_A13_, .int .u8 ip_A14_, .int .u8 ip_A15_]]) (fn := Tryd.f98) (c := bodyOf Tryd.f98) Tryd.func98 rfl (Nat.le_of_ble_eq_true rfl)
    (Eq.mp (by kernel_rfl : addr_Valid_VC ip_V ip_A0_ ip_A1_ ip_A2_ ip_A3_ ip_A4_ ip_A5_ ip_A6_ ip_A7_ ip_A8_ ip_A9_ ip_A10_ ip_A11_ ip_A12_ ip_A13_ ip_A14_ ip_A15_ w R = wpc Tryd.prog callF Tryd.f98.ntmps addr_Valid_H 1 (bodyOf Tryd.f98) (argEnv 0 [.agg #[.int .i64 ip_V, .int .u8 ip_A0_, .int .u8 ip_A1_, .int .u8 ip_A2_, .int .u8 ip_A3_, .int .u8 ip_A4_, .int .u8 ip_A5_, .int .u8 ip_A6_, .int .u8 ip_A7_, .int .u8 ip_A8_, .int .u8 ip_A9_, .int .u8 ip_A10_, .int .u8 ip_A11_, .int .u8 ip_A12_, .int .u8 ip_A13_, .int .u8 ip_A14_, .int .u8 ip_A15_]]) [] w (finish Tryd.prog callF Tryd.f98.results.toList R)) h)

set_option maxRecDepth 100000 in
def addr_masked_L58 (R : Ending → World → Prop) (n : Int) (g1 : Nat) (g2 : Nat) (g3 : Nat) (t8_ : Int) (w4 : World) (K58 : (Int → World → Prop)) : Prop :=
  Br (decide (t8_ < 16))
    (IdxVC (some ⟨g1, 0, none⟩) 16 1 t8_ fun a =>
  ∃ x : Int, w4.cell? a = some (.int .u8 x) ∧
  ShVC (IntKind.u64.wrap (if (if 0 < IntKind.i64.wrap (n - IntKind.i64.wrap (8 * t8_)) then IntKind.i64.wrap (n - IntKind.i64.wrap (8 * t8_)) else 0) < 8 then (if 0 < IntKind.i64.wrap (n - IntKind.i64.wrap (8 * t8_)) then IntKind.i64.wrap (n - IntKind.i64.wrap (8 * t8_)) else 0) else 8)) (
  IdxVC (some ⟨g3, 0, none⟩) 16 1 t8_ fun a16 =>
  SetVC w4 a16 (.int .u8 (bitv .and .u8 x (IntKind.u8.wrap (Int.fdiv 65280 (2 ^ (min ((IntKind.u64.wrap (if (if 0 < IntKind.i64.wrap (n - IntKind.i64.wrap (8 * t8_)) then IntKind.i64.wrap (n - IntKind.i64.wrap (8 * t8_)) else 0) < 8 then (if 0 < IntKind.i64.wrap (n - IntKind.i64.wrap (8 * t8_)) then IntKind.i64.wrap (n - IntKind.i64.wrap (8 * t8_)) else 0) else 8)).toNat) 64)))))) fun w5 =>
  K58 (IntKind.i64.wrap (t8_ + 1)) w5))
    (∃ x0 : Int, ∃ x1 : Int, ∃ x2 : Int, ∃ x3 : Int, ∃ x4 : Int, ∃ x5 : Int, ∃ x6 : Int, ∃ x7 : Int, ∃ x8 : Int, ∃ x9 : Int, ∃ x10 : Int, ∃ x11 : Int, ∃ x12 : Int, ∃ x13 : Int, ∃ x14 : Int, ∃ x15 : Int, CellsAt w4 ⟨g3, 0, none⟩ 0 [.int .u8 x0, .int .u8 x1, .int .u8 x2, .int .u8 x3, .int .u8 x4, .int .u8 x5, .int .u8 x6, .int .u8 x7, .int .u8 x8, .int .u8 x9, .int .u8 x10, .int .u8 x11, .int .u8 x12, .int .u8 x13, .int .u8 x14, .int .u8 x15] ∧
  SetVC w4 ⟨g2, 0, none⟩ (.int .u8 x0) fun w6 =>
  SetVC w6 ⟨g2, 1, none⟩ (.int .u8 x1) fun w7 =>
  SetVC w7 ⟨g2, 2, none⟩ (.int .u8 x2) fun w8 =>
  SetVC w8 ⟨g2, 3, none⟩ (.int .u8 x3) fun w9 =>
  SetVC w9 ⟨g2, 4, none⟩ (.int .u8 x4) fun w10 =>
  SetVC w10 ⟨g2, 5, none⟩ (.int .u8 x5) fun w11 =>
  SetVC w11 ⟨g2, 6, none⟩ (.int .u8 x6) fun w12 =>
  SetVC w12 ⟨g2, 7, none⟩ (.int .u8 x7) fun w13 =>
  SetVC w13 ⟨g2, 8, none⟩ (.int .u8 x8) fun w14 =>
  SetVC w14 ⟨g2, 9, none⟩ (.int .u8 x9) fun w15 =>
  SetVC w15 ⟨g2, 10, none⟩ (.int .u8 x10) fun w16 =>
  SetVC w16 ⟨g2, 11, none⟩ (.int .u8 x11) fun w17 =>
  SetVC w17 ⟨g2, 12, none⟩ (.int .u8 x12) fun w18 =>
  SetVC w18 ⟨g2, 13, none⟩ (.int .u8 x13) fun w19 =>
  SetVC w19 ⟨g2, 14, none⟩ (.int .u8 x14) fun w20 =>
  SetVC w20 ⟨g2, 15, none⟩ (.int .u8 x15) fun w21 =>
  ∃ res0 : Int, ∃ res1 : Int, ∃ res2 : Int, ∃ res3 : Int, ∃ res4 : Int, ∃ res5 : Int, ∃ res6 : Int, ∃ res7 : Int, ∃ res8 : Int, ∃ res9 : Int, ∃ res10 : Int, ∃ res11 : Int, ∃ res12 : Int, ∃ res13 : Int, ∃ res14 : Int, ∃ res15 : Int, CellsAt w21 ⟨g2, 0, none⟩ 0 [.int .u8 res0, .int .u8 res1, .int .u8 res2, .int .u8 res3, .int .u8 res4, .int .u8 res5, .int .u8 res6, .int .u8 res7, .int .u8 res8, .int .u8 res9, .int .u8 res10, .int .u8 res11, .int .u8 res12, .int .u8 res13, .int .u8 res14, .int .u8 res15] ∧
  R (.returned (.agg #[.int .u8 res0, .int .u8 res1, .int .u8 res2, .int .u8 res3, .int .u8 res4, .int .u8 res5, .int .u8 res6, .int .u8 res7, .int .u8 res8, .int .u8 res9, .int .u8 res10, .int .u8 res11, .int .u8 res12, .int .u8 res13, .int .u8 res14, .int .u8 res15])) w21)
set_option maxRecDepth 100000 in
def addr_masked_VC (a0 : Int) (a1 : Int) (a2 : Int) (a3 : Int) (a4 : Int) (a5 : Int) (a6 : Int) (a7 : Int) (a8 : Int) (a9 : Int) (a10 : Int) (a11 : Int) (a12 : Int) (a13 : Int) (a14 : Int) (a15 : Int) (n : Int) (w : World) (R : Ending → World → Prop) : Prop :=
  NewVC w (.cells #[.int .u8 a0, .int .u8 a1, .int .u8 a2, .int .u8 a3, .int .u8 a4, .int .u8 a5, .int .u8 a6, .int .u8 a7, .int .u8 a8, .int .u8 a9, .int .u8 a10, .int .u8 a11, .int .u8 a12, .int .u8 a13, .int .u8 a14, .int .u8 a15] 29) fun g1 w1 =>
  NewVC w1 (.cells #[.int .u8 0, .int .u8 0, .int .u8 0, .int .u8 0, .int .u8 0, .int .u8 0, .int .u8 0, .int .u8 0, .int .u8 0, .int .u8 0, .int .u8 0, .int .u8 0, .int .u8 0, .int .u8 0, .int .u8 0, .int .u8 0] 29) fun g2 w2 =>
  NewVC w2 (.cells #[.int .u8 0, .int .u8 0, .int .u8 0, .int .u8 0, .int .u8 0, .int .u8 0, .int .u8 0, .int .u8 0, .int .u8 0, .int .u8 0, .int .u8 0, .int .u8 0, .int .u8 0, .int .u8 0, .int .u8 0, .int .u8 0] 29) fun g3 w3 =>
  LoopVC (S := Int) (fun s_ w4 K58 => addr_masked_L58 R n g1 g2 g3 s_ w4 K58) 0 w3
def addr_masked_H : Hints := [(58, [(8, .int .i64)])]
set_option maxRecDepth 100000 in
theorem addr_masked_of (a0 : Int) (a1 : Int) (a2 : Int) (a3 : Int) (a4 : Int) (a5 : Int) (a6 : Int) (a7 : Int) (a8 : Int) (a9 : Int) (a10 : Int) (a11 : Int) (a12 : Int) (a13 : Int) (a14 : Int) (a15 : Int) (n : Int) (w : World) (R : Ending → World → Prop) (h : addr_masked_VC a0 a1 a2 a3 a4 a5 a6 a7 a8 a9 a10 a11 a12 a13 a14 a15 n w R) :
    Calls Tryd.prog 99 #[.agg #[.int .u8 a0, .int .u8 a1, .int .u8 a2, .int .u8 a3, .int .u8 a4, .int .u8 a5, .int .u8 a6, .int .u8 a7, .int .u8 a8, .int .u8 a9, .int .u8 a10, .int .u8 a11, .int .u8 a12, .int .u8 a13, .int .u8 a14, .int .u8 a15], .int .i64 n] w R :=
  calls_of_wpc callOk mixedOk (H := addr_masked_H) (args := [.agg #[.int .u8 a0, .int .u8 a1, .int .u8 a2, .int .u8 a3, .int .u8 a4, .int .u8 a5, .int .u8 a6, .int .u8 a7, .int .u8 a8, .int .u8 a9, .int .u8 a10, .int .u8 a11, .int .u8 a12, .int .u8 a13, .int .u8 a14, .int .u8 a15], .int .i64 n]) (fn := Tryd.f99) (c := bodyOf Tryd.f99) Tryd.func99 rfl (Nat.le_of_ble_eq_true rfl)
    (Eq.mp (by kernel_rfl : addr_masked_VC a0 a1 a2 a3 a4 a5 a6 a7 a8 a9 a10 a11 a12 a13 a14 a15 n w R = wpc Tryd.prog callF Tryd.f99.ntmps addr_masked_H 1 (bodyOf Tryd.f99) (argEnv 0 [.agg #[.int .u8 a0, .int .u8 a1, .int .u8 a2, .int .u8 a3, .int .u8 a4, .int .u8 a5, .int .u8 a6, .int .u8 a7, .int .u8 a8, .int .u8 a9, .int .u8 a10, .int .u8 a11, .int .u8 a12, .int .u8 a13, .int .u8 a14, .int .u8 a15], .int .i64 n]) [] w (finish Tryd.prog callF Tryd.f99.results.toList R)) h)

set_option maxRecDepth 100000 in
def weirref4_Valid_L58 (R : Ending → World → Prop) (g1 : Nat) (i : Int) (w2 : World) (K58 : (Int → World → Prop)) : Prop :=
  Br (decide (i < 16))
    (IdxVC (some ⟨g1, 1, none⟩) 16 1 i fun a =>
  ∃ x2 : Int, w2.cell? a = some (.int .u8 x2) ∧
  Br (decide (x2 ≠ 0))
    (R (.returned (.bool false)) w2)
    (K58 (IntKind.i64.wrap (i + 1)) w2))
    (R (.returned (.bool true)) w2)
set_option maxRecDepth 100000 in
def weirref4_Valid_VC (ip_V : Int) (ip_A0_ : Int) (ip_A1_ : Int) (ip_A2_ : Int) (ip_A3_ : Int) (ip_A4_ : Int) (ip_A5_ : Int) (ip_A6_ : Int) (ip_A7_ : Int) (ip_A8_ : Int) (ip_A9_ : Int) (ip_A10_ : Int) (ip_A11_ : Int) (ip_A12_ : Int) (ip_A13_ : Int) (ip_A14_ : Int) (ip_A15_ : Int) (w : World) (R : Ending → World → Prop) : Prop :=
  NewVC w (.cells #[.int .i64 ip_V, .int .u8 ip_A0_, .int .u8 ip_A1_, .int .u8 ip_A2_, .int .u8 ip_A3_, .int .u8 ip_A4_, .int .u8 ip_A5_, .int .u8 ip_A6_, .int .u8 ip_A7_, .int .u8 ip_A8_, .int .u8 ip_A9_, .int .u8 ip_A10_, .int .u8 ip_A11_, .int .u8 ip_A12_, .int .u8 ip_A13_, .int .u8 ip_A14_, .int .u8 ip_A15_] 31) fun g1 w1 =>
  ∃ x : Int, w1.cell? ⟨g1, 0, none⟩ = some (.int .i64 x) ∧
  Br (decide (x ≠ 4))
    (∃ x1 : Int, w1.cell? ⟨g1, 0, none⟩ = some (.int .i64 x1) ∧
    R (.returned (.bool (decide (x1 = 6)))) w1)
    (LoopVC (S := Int) (fun s_ w2 K58 => weirref4_Valid_L58 R g1 s_ w2 K58) 4 w1)
def weirref4_Valid_H : Hints := [(58, [(3, .int .i64)])]
set_option maxRecDepth 100000 in
theorem weirref4_Valid_of (ip_V : Int) (ip_A0_ : Int) (ip_A1_ : Int) (ip_A2_ : Int) (ip_A3_ : Int) (ip_A4_ : Int) (ip_A5_ : Int) (ip_A6_ : Int) (ip_A7_ : Int) (ip_A8_ : Int) (ip_A9_ : Int) (ip_A10_ : Int) (ip_A11_ : Int) (ip_A12_ : Int) (ip_A13_ : Int) (ip_A14_ : Int) (ip_A15_ : Int) (w : World) (R : Ending → World → Prop) (h : weirref4_Valid_VC ip_V ip_A0_ ip_A1_ ip_A2_ ip_A3_ ip_A4_ ip_A5_ ip_A6_ ip_A7_ ip_A8_ ip_A9_ ip_A10_ ip_A11_ ip_A12_ ip_A13_ ip_A14_ ip_A15_ w R) :
    Calls Tryd.prog 103 #[.agg #[.int .i64 ip_V, .int .u8 ip_A0_, .int .u8 ip_A1_, .int .u8 ip_A2_, .int .u8 ip_A3_, .int .u8 ip_A4_, .int .u8 ip_A5_, .int .u8 ip_A6_, .int .u8 ip_A7_, .int .u8 ip_A8_, .int .u8 ip_A9_, .int .u8 ip_A10_, .int .u8 ip_A11_, .int .u8 ip_A12_, .int .u8 ip_A13_, .int .u8 ip_A14_, .int .u8 ip_A15_]] w R :=
  calls_of_wpc callOk mixedOk (H := weirref4_Valid_H) (args := [.agg #[.int .i64 ip_V, .int .u8 ip_A0_, .int .u8 ip_A1_, .int .u8 ip_A2_, .int .u8 ip_A3_, .int .u8 ip_A4_, .int .u8 ip_A5_, .int .u8 ip_A6_, .int .u8 ip_A7_, .int .u8 ip_A8_, .int .u8 ip_A9_, .int .u8 ip_A10_, .int .u8 ip_A11_, .int .u8 ip_A12_, .int .u8 ip_A13_, .int .u8 ip_A14_, .int .u8 ip_A15_]]) (fn := Tryd.f103) (c := bodyOf Tryd.f103) Tryd.func103 rfl (Nat.le_of_ble_eq_true rfl)
    (Eq.mp (by kernel_rfl : weirref4_Valid_VC ip_V ip_A0_ ip_A1_ ip_A2_ ip_A3_ ip_A4_ ip_A5_ ip_A6_ ip_A7_ ip_A8_ ip_A9_ ip_A10_ ip_A11_ ip_A12_ ip_A13_ ip_A14_ ip_A15_ w R = wpc Tryd.prog callF Tryd.f103.ntmps weirref4_Valid_H 1 (bodyOf Tryd.f103) (argEnv 0 [.agg #[.int .i64 ip_V, .int .u8 ip_A0_, .int .u8 ip_A1_, .int .u8 ip_A2_, .int .u8 ip_A3_, .int .u8 ip_A4_, .int .u8 ip_A5_, .int .u8 ip_A6_, .int .u8 ip_A7_, .int .u8 ip_A8_, .int .u8 ip_A9_, .int .u8 ip_A10_, .int .u8 ip_A11_, .int .u8 ip_A12_, .int .u8 ip_A13_, .int .u8 ip_A14_, .int .u8 ip_A15_]]) [] w (finish Tryd.prog callF Tryd.f103.results.toList R)) h)

set_option maxRecDepth 100000 in
def weirref4_of_VC (s : ByteArray) (ip_V : Int) (ip_A0_ : Int) (ip_A1_ : Int) (ip_A2_ : Int) (ip_A3_ : Int) (ip_A4_ : Int) (ip_A5_ : Int) (ip_A6_ : Int) (ip_A7_ : Int) (ip_A8_ : Int) (ip_A9_ : Int) (ip_A10_ : Int) (ip_A11_ : Int) (ip_A12_ : Int) (ip_A13_ : Int) (ip_A14_ : Int) (ip_A15_ : Int) (w : World) (R : Ending → World → Prop) : Prop :=
  NewVC w (.cells #[.int .i64 ip_V, .int .u8 ip_A0_, .int .u8 ip_A1_, .int .u8 ip_A2_, .int .u8 ip_A3_, .int .u8 ip_A4_, .int .u8 ip_A5_, .int .u8 ip_A6_, .int .u8 ip_A7_, .int .u8 ip_A8_, .int .u8 ip_A9_, .int .u8 ip_A10_, .int .u8 ip_A11_, .int .u8 ip_A12_, .int .u8 ip_A13_, .int .u8 ip_A14_, .int .u8 ip_A15_] 31) fun g1 w1 =>
  Calls Tryd.prog 126 #[.string s] w1 (onRet (fun r_ w2 => ∃ x00 : Int, ∃ x01 : Int, ∃ x02 : Int, ∃ x03 : Int, ∃ x04 : Int, ∃ x05 : Int, ∃ x06 : Int, ∃ x07 : Int, ∃ x08 : Int, ∃ x09 : Int, ∃ x010 : Int, ∃ x011 : Int, ∃ x012 : Int, ∃ x013 : Int, ∃ x014 : Int, ∃ x015 : Int, ∃ x016 : Int, ∃ x017 : Int, ∃ x1 : Int, ∃ x2 : Int, r_ = .tuple #[.agg #[.int .i64 x00, .int .u8 x01, .int .u8 x02, .int .u8 x03, .int .u8 x04, .int .u8 x05, .int .u8 x06, .int .u8 x07, .int .u8 x08, .int .u8 x09, .int .u8 x010, .int .u8 x011, .int .u8 x012, .int .u8 x013, .int .u8 x014, .int .u8 x015, .int .u8 x016, .int .i64 x017], .int .i64 x1, .int .i64 x2] ∧
  NewVC w2 (.cells #[.int .i64 0, .int .u8 0, .int .u8 0, .int .u8 0, .int .u8 0, .int .u8 0, .int .u8 0, .int .u8 0, .int .u8 0, .int .u8 0, .int .u8 0, .int .u8 0, .int .u8 0, .int .u8 0, .int .u8 0, .int .u8 0, .int .u8 0, .int .i64 0] 170) fun g2 w3 =>
  SetVC w3 ⟨g2, 0, none⟩ (.int .i64 x00) fun w4 =>
  SetVC w4 ⟨g2, 1, none⟩ (.int .u8 x01) fun w5 =>
  SetVC w5 ⟨g2, 2, none⟩ (.int .u8 x02) fun w6 =>
  SetVC w6 ⟨g2, 3, none⟩ (.int .u8 x03) fun w7 =>
  SetVC w7 ⟨g2, 4, none⟩ (.int .u8 x04) fun w8 =>
  SetVC w8 ⟨g2, 5, none⟩ (.int .u8 x05) fun w9 =>
  SetVC w9 ⟨g2, 6, none⟩ (.int .u8 x06) fun w10 =>
  SetVC w10 ⟨g2, 7, none⟩ (.int .u8 x07) fun w11 =>
  SetVC w11 ⟨g2, 8, none⟩ (.int .u8 x08) fun w12 =>
  SetVC w12 ⟨g2, 9, none⟩ (.int .u8 x09) fun w13 =>
  SetVC w13 ⟨g2, 10, none⟩ (.int .u8 x010) fun w14 =>
  SetVC w14 ⟨g2, 11, none⟩ (.int .u8 x011) fun w15 =>
  SetVC w15 ⟨g2, 12, none⟩ (.int .u8 x012) fun w16 =>
  SetVC w16 ⟨g2, 13, none⟩ (.int .u8 x013) fun w17 =>
  SetVC w17 ⟨g2, 14, none⟩ (.int .u8 x014) fun w18 =>
  SetVC w18 ⟨g2, 15, none⟩ (.int .u8 x015) fun w19 =>
  SetVC w19 ⟨g2, 16, none⟩ (.int .u8 x016) fun w20 =>
  SetVC w20 ⟨g2, 17, none⟩ (.int .i64 x017) fun w21 =>
  ∃ x0 : Int, ∃ x11 : Int, ∃ x21 : Int, ∃ x3 : Int, ∃ x4 : Int, ∃ x5 : Int, ∃ x6 : Int, ∃ x7 : Int, ∃ x8 : Int, ∃ x9 : Int, ∃ x10 : Int, ∃ x111 : Int, ∃ x12 : Int, ∃ x13 : Int, ∃ x14 : Int, ∃ x15 : Int, ∃ x16 : Int, ∃ x17 : Int, CellsAt w21 ⟨g2, 0, none⟩ 0 [.int .i64 x0, .int .u8 x11, .int .u8 x21, .int .u8 x3, .int .u8 x4, .int .u8 x5, .int .u8 x6, .int .u8 x7, .int .u8 x8, .int .u8 x9, .int .u8 x10, .int .u8 x111, .int .u8 x12, .int .u8 x13, .int .u8 x14, .int .u8 x15, .int .u8 x16, .int .i64 x17] ∧
  ∃ x018 : Int, ∃ x18 : Int, ∃ x22 : Int, ∃ x31 : Int, ∃ x41 : Int, ∃ x51 : Int, ∃ x61 : Int, ∃ x71 : Int, ∃ x81 : Int, ∃ x91 : Int, ∃ x101 : Int, ∃ x112 : Int, ∃ x121 : Int, ∃ x131 : Int, ∃ x141 : Int, ∃ x151 : Int, ∃ x161 : Int, CellsAt w21 ⟨g1, 0, none⟩ 0 [.int .i64 x018, .int .u8 x18, .int .u8 x22, .int .u8 x31, .int .u8 x41, .int .u8 x51, .int .u8 x61, .int .u8 x71, .int .u8 x81, .int .u8 x91, .int .u8 x101, .int .u8 x112, .int .u8 x121, .int .u8 x131, .int .u8 x141, .int .u8 x151, .int .u8 x161] ∧
  Calls Tryd.prog 127 #[.agg #[.int .i64 x0, .int .u8 x11, .int .u8 x21, .int .u8 x3, .int .u8 x4, .int .u8 x5, .int .u8 x6, .int .u8 x7, .int .u8 x8, .int .u8 x9, .int .u8 x10, .int .u8 x111, .int .u8 x12, .int .u8 x13, .int .u8 x14, .int .u8 x15, .int .u8 x16, .int .i64 x17], .agg #[.int .i64 x018, .int .u8 x18, .int .u8 x22, .int .u8 x31, .int .u8 x41, .int .u8 x51, .int .u8 x61, .int .u8 x71, .int .u8 x81, .int .u8 x91, .int .u8 x101, .int .u8 x112, .int .u8 x121, .int .u8 x131, .int .u8 x141, .int .u8 x151, .int .u8 x161]] w21 (onRet (fun r_1 w22 => ∃ x : Bool, r_1 = .bool x ∧
  R (.returned (.bool x)) w22)
    (fun ch1 w22 => R (.panicked ch1) w22)))
    (fun ch w2 => R (.panicked ch) w2))
def weirref4_of_H : Hints := []
set_option maxRecDepth 100000 in
theorem weirref4_of_of (s : ByteArray) (ip_V : Int) (ip_A0_ : Int) (ip_A1_ : Int) (ip_A2_ : Int) (ip_A3_ : Int) (ip_A4_ : Int) (ip_A5_ : Int) (ip_A6_ : Int) (ip_A7_ : Int) (ip_A8_ : Int) (ip_A9_ : Int) (ip_A10_ : Int) (ip_A11_ : Int) (ip_A12_ : Int) (ip_A13_ : Int) (ip_A14_ : Int) (ip_A15_ : Int) (w : World) (R : Ending → World → Prop) (h : weirref4_of_VC s ip_V ip_A0_ ip_A1_ ip_A2_ ip_A3_ ip_A4_ ip_A5_ ip_A6_ ip_A7_ ip_A8_ ip_A9_ ip_A10_ ip_A11_ ip_A12_ ip_A13_ ip_A14_ ip_A15_ w R) :
    Calls Tryd.prog 104 #[.string s, .agg #[.int .i64 ip_V, .int .u8 ip_A0_, .int .u8 ip_A1_, .int .u8 ip_A2_, .int .u8 ip_A3_, .int .u8 ip_A4_, .int .u8 ip_A5_, .int .u8 ip_A6_, .int .u8 ip_A7_, .int .u8 ip_A8_, .int .u8 ip_A9_, .int .u8 ip_A10_, .int .u8 ip_A11_, .int .u8 ip_A12_, .int .u8 ip_A13_, .int .u8 ip_A14_, .int .u8 ip_A15_]] w R :=
  calls_of_wpc callOk mixedOk (H := weirref4_of_H) (args := [.string s, .agg #[.int .i64 ip_V, .int .u8 ip_A0_, .int .u8 ip_A1_, .int .u8 ip_A2_, .int .u8 ip_A3_, .int .u8 ip_A4_, .int .u8 ip_A5_, .int .u8 ip_A6_, .int .u8 ip_A7_, .int .u8 ip_A8_, .int .u8 ip_A9_, .int .u8 ip_A10_, .int .u8 ip_A11_, .int .u8 ip_A12_, .int .u8 ip_A13_, .int .u8 ip_A14_, .int .u8 ip_A15_]]) (fn := Tryd.f104) (c := bodyOf Tryd.f104) Tryd.func104 rfl (Nat.le_of_ble_eq_true rfl)
    (Eq.mp (by kernel_rfl : weirref4_of_VC s ip_V ip_A0_ ip_A1_ ip_A2_ ip_A3_ ip_A4_ ip_A5_ ip_A6_ ip_A7_ ip_A8_ ip_A9_ ip_A10_ ip_A11_ ip_A12_ ip_A13_ ip_A14_ ip_A15_ w R = wpc Tryd.prog callF Tryd.f104.ntmps weirref4_of_H 1 (bodyOf Tryd.f104) (argEnv 0 [.string s, .agg #[.int .i64 ip_V, .int .u8 ip_A0_, .int .u8 ip_A1_, .int .u8 ip_A2_, .int .u8 ip_A3_, .int .u8 ip_A4_, .int .u8 ip_A5_, .int .u8 ip_A6_, .int .u8 ip_A7_, .int .u8 ip_A8_, .int .u8 ip_A9_, .int .u8 ip_A10_, .int .u8 ip_A11_, .int .u8 ip_A12_, .int .u8 ip_A13_, .int .u8 ip_A14_, .int .u8 ip_A15_]]) [] w (finish Tryd.prog callF Tryd.f104.results.toList R)) h)

set_option maxRecDepth 100000 in
def addr_size_VC (ip_V : Int) (ip_A0_ : Int) (ip_A1_ : Int) (ip_A2_ : Int) (ip_A3_ : Int) (ip_A4_ : Int) (ip_A5_ : Int) (ip_A6_ : Int) (ip_A7_ : Int) (ip_A8_ : Int) (ip_A9_ : Int) (ip_A10_ : Int) (ip_A11_ : Int) (ip_A12_ : Int) (ip_A13_ : Int) (ip_A14_ : Int) (ip_A15_ : Int) (w : World) (R : Ending → World → Prop) : Prop :=
  NewVC w (.cells #[.int .i64 ip_V, .int .u8 ip_A0_, .int .u8 ip_A1_, .int .u8 ip_A2_, .int .u8 ip_A3_, .int .u8 ip_A4_, .int .u8 ip_A5_, .int .u8 ip_A6_, .int .u8 ip_A7_, .int .u8 ip_A8_, .int .u8 ip_A9_, .int .u8 ip_A10_, .int .u8 ip_A11_, .int .u8 ip_A12_, .int .u8 ip_A13_, .int .u8 ip_A14_, .int .u8 ip_A15_] 31) fun g1 w1 =>
  ∃ x : Int, w1.cell? ⟨g1, 0, none⟩ = some (.int .i64 x) ∧
  Br (decide (x = 6))
    (R (.returned (.int .i64 128)) w1)
    (∃ x1 : Int, w1.cell? ⟨g1, 0, none⟩ = some (.int .i64 x1) ∧
  Br (decide (x1 ≠ 4))
    (R (.returned (.int .i64 0)) w1)
    (SliceVC (some ⟨g1, 1, none⟩) 16 16 1 (some 4) none none fun sA sn _sc =>
    12 ≤ sn ∧
    NilVC sA fun p =>
    ∃ x0 : Int, ∃ x11 : Int, ∃ x2 : Int, ∃ x3 : Int, ∃ x4 : Int, ∃ x5 : Int, ∃ x6 : Int, ∃ x7 : Int, ∃ x8 : Int, ∃ x9 : Int, ∃ x10 : Int, ∃ x111 : Int, CellsAt w1 p 0 [.int .u8 x0, .int .u8 x11, .int .u8 x2, .int .u8 x3, .int .u8 x4, .int .u8 x5, .int .u8 x6, .int .u8 x7, .int .u8 x8, .int .u8 x9, .int .u8 x10, .int .u8 x111] ∧
    Br (!(((decide (x0 = 0)) && ((decide (x11 = 0)) && ((decide (x2 = 0)) && ((decide (x3 = 0)) && ((decide (x4 = 0)) && ((decide (x5 = 0)) && ((decide (x6 = 0)) && ((decide (x7 = 0)) && ((decide (x8 = 0)) && ((decide (x9 = 0)) && ((decide (x10 = 0)) && ((decide (x111 = 0)) && true))))))))))))))
    (R (.returned (.int .i64 0)) w1)
    (R (.returned (.int .i64 32)) w1)))
def addr_size_H : Hints := []
set_option maxRecDepth 100000 in
theorem addr_size_of (ip_V : Int) (ip_A0_ : Int) (ip_A1_ : Int) (ip_A2_ : Int) (ip_A3_ : Int) (ip_A4_ : Int) (ip_A5_ : Int) (ip_A6_ : Int) (ip_A7_ : Int) (ip_A8_ : Int) (ip_A9_ : Int) (ip_A10_ : Int) (ip_A11_ : Int) (ip_A12_ : Int) (ip_A13_ : Int) (ip_A14_ : Int) (ip_A15_ : Int) (w : World) (R : Ending → World → Prop) (h : addr_size_VC ip_V ip_A0_ ip_A1_ ip_A2_ ip_A3_ ip_A4_ ip_A5_ ip_A6_ ip_A7_ ip_A8_ ip_A9_ ip_A10_ ip_A11_ ip_A12_ ip_A13_ ip_A14_ ip_A15_ w R) :
    Calls Tryd.prog 122 #[.agg #[.int .i64 ip_V, .int .u8 ip_A0_, .int .u8 ip_A1_, .int .u8 ip_A2_, .int .u8 ip_A3_, .int .u8 ip_A4_, .int .u8 ip_A5_, .int .u8 ip_A6_, .int .u8 ip_A7_, .int .u8 ip_A8_, .int .u8 ip_A9_, .int .u8 ip_A10_, .int .u8 ip_A11_, .int .u8 ip_A12_, .int .u8 ip_A13_, .int .u8 ip_A14_, .int .u8 ip_A15_]] w R :=
  calls_of_wpc callOk mixedOk (H := addr_size_H) (args := [.agg #[.int .i64 ip_V, .int .u8 ip_A0_, .int .u8 ip_A1_, .int .u8 ip_A2_, .int .u8 ip_A3_, .int .u8 ip_A4_, .int .u8 ip_A5_, .int .u8 ip_A6_, .int .u8 ip_A7_, .int .u8 ip_A8_, .int .u8 ip_A9_, .int .u8 ip_A10_, .int .u8 ip_A11_, .int .u8 ip_A12_, .int .u8 ip_A13_, .int .u8 ip_A14_, .int .u8 ip_A15_]]) (fn := Tryd.f122) (c := bodyOf Tryd.f122) Tryd.func122 rfl (Nat.le_of_ble_eq_true rfl)
    (Eq.mp (by kernel_rfl : addr_size_VC ip_V ip_A0_ ip_A1_ ip_A2_ ip_A3_ ip_A4_ ip_A5_ ip_A6_ ip_A7_ ip_A8_ ip_A9_ ip_A10_ ip_A11_ ip_A12_ ip_A13_ ip_A14_ ip_A15_ w R = wpc Tryd.prog callF Tryd.f122.ntmps addr_size_H 1 (bodyOf Tryd.f122) (argEnv 0 [.agg #[.int .i64 ip_V, .int .u8 ip_A0_, .int .u8 ip_A1_, .int .u8 ip_A2_, .int .u8 ip_A3_, .int .u8 ip_A4_, .int .u8 ip_A5_, .int .u8 ip_A6_, .int .u8 ip_A7_, .int .u8 ip_A8_, .int .u8 ip_A9_, .int .u8 ip_A10_, .int .u8 ip_A11_, .int .u8 ip_A12_, .int .u8 ip_A13_, .int .u8 ip_A14_, .int .u8 ip_A15_]]) [] w (finish Tryd.prog callF Tryd.f122.results.toList R)) h)

set_option maxRecDepth 100000 in
def weirref4_ParsePrefix_L60 (s : ByteArray) (J15 : (Int → World → Prop)) (k1 : Int) (w20 : World) (K60 : (Int → World → Prop)) : Prop :=
  Br (decide (k1 < (s.size : Int)))
    (StrIdxVC s k1 fun c =>
    Br (decide (c ≠ 47))
    (K60 (IntKind.i64.wrap (k1 + 1)) w20)
    (J15 k1 w20))
    (J15 k1 w20)
set_option maxRecDepth 100000 in
def weirref4_ParsePrefix_L2044 (R : Ending → World → Prop) (s : ByteArray) (J511 : (Int → World → Prop)) (q1 : Int) (w77 : World) (K2044 : (Int → World → Prop)) : Prop :=
  Br (decide (q1 < (s.size : Int)))
    (StrIdxVC s q1 fun c1 =>
    Calls Tryd.prog 139 #[.int .u8 c1] w77 (onRet (fun r_1 w78 => ∃ x : Bool, r_1 = .bool x ∧
    Br x
    (K2044 (IntKind.i64.wrap (q1 + 1)) w78)
    (J511 q1 w78))
      (fun ch1 w78 => R (.panicked ch1) w78)))
    (J511 q1 w77)
set_option maxRecDepth 100000 in
def weirref4_ParsePrefix_J511 (R : Ending → World → Prop) (s : ByteArray) (g1 : Nat) (k : Int) (g2 : Nat) (q : Int) (w79 : World) : Prop :=
  Br (decide (q = IntKind.i64.wrap (k + 1)))
    (Calls Tryd.prog 140 #[.string s, .int .i64 q] w79 (onRet (fun r_2 w80 => ∃ x0 : Int, ∃ x11 : Int, r_2 = .tuple #[.int .i64 x0, .int .i64 x11] ∧
    SetVC w80 ⟨g1, 0, none⟩ (.int .i64 0) fun w81 =>
    SetVC w81 ⟨g1, 1, none⟩ (.int .u8 0) fun w82 =>
    SetVC w82 ⟨g1, 2, none⟩ (.int .u8 0) fun w83 =>
    SetVC w83 ⟨g1, 3, none⟩ (.int .u8 0) fun w84 =>
    SetVC w84 ⟨g1, 4, none⟩ (.int .u8 0) fun w85 =>
    SetVC w85 ⟨g1, 5, none⟩ (.int .u8 0) fun w86 =>
    SetVC w86 ⟨g1, 6, none⟩ (.int .u8 0) fun w87 =>
    SetVC w87 ⟨g1, 7, none⟩ (.int .u8 0) fun w88 =>
    SetVC w88 ⟨g1, 8, none⟩ (.int .u8 0) fun w89 =>
    SetVC w89 ⟨g1, 9, none⟩ (.int .u8 0) fun w90 =>
    SetVC w90 ⟨g1, 10, none⟩ (.int .u8 0) fun w91 =>
    SetVC w91 ⟨g1, 11, none⟩ (.int .u8 0) fun w92 =>
    SetVC w92 ⟨g1, 12, none⟩ (.int .u8 0) fun w93 =>
    SetVC w93 ⟨g1, 13, none⟩ (.int .u8 0) fun w94 =>
    SetVC w94 ⟨g1, 14, none⟩ (.int .u8 0) fun w95 =>
    SetVC w95 ⟨g1, 15, none⟩ (.int .u8 0) fun w96 =>
    SetVC w96 ⟨g1, 16, none⟩ (.int .u8 0) fun w97 =>
    SetVC w97 ⟨g1, 17, none⟩ (.int .i64 0) fun w98 =>
    ∃ res03 : Int, ∃ res110 : Int, ∃ res23 : Int, ∃ res33 : Int, ∃ res43 : Int, ∃ res53 : Int, ∃ res63 : Int, ∃ res73 : Int, ∃ res83 : Int, ∃ res93 : Int, ∃ res103 : Int, ∃ res113 : Int, ∃ res123 : Int, ∃ res133 : Int, ∃ res143 : Int, ∃ res153 : Int, ∃ res163 : Int, ∃ res173 : Int, CellsAt w98 ⟨g1, 0, none⟩ 0 [.int .i64 res03, .int .u8 res110, .int .u8 res23, .int .u8 res33, .int .u8 res43, .int .u8 res53, .int .u8 res63, .int .u8 res73, .int .u8 res83, .int .u8 res93, .int .u8 res103, .int .u8 res113, .int .u8 res123, .int .u8 res133, .int .u8 res143, .int .u8 res153, .int .u8 res163, .int .i64 res173] ∧
  R (.returned (.tuple #[.agg #[.int .i64 res03, .int .u8 res110, .int .u8 res23, .int .u8 res33, .int .u8 res43, .int .u8 res53, .int .u8 res63, .int .u8 res73, .int .u8 res83, .int .u8 res93, .int .u8 res103, .int .u8 res113, .int .u8 res123, .int .u8 res133, .int .u8 res143, .int .u8 res153, .int .u8 res163, .int .i64 res173], .int .i64 x0, .int .i64 x11])) w98)
      (fun ch2 w80 => R (.panicked ch2) w80)))
    (∃ x017 : Int, ∃ x12 : Int, ∃ x21 : Int, ∃ x3 : Int, ∃ x4 : Int, ∃ x5 : Int, ∃ x6 : Int, ∃ x7 : Int, ∃ x8 : Int, ∃ x9 : Int, ∃ x10 : Int, ∃ x111 : Int, ∃ x121 : Int, ∃ x13 : Int, ∃ x14 : Int, ∃ x15 : Int, ∃ x16 : Int, CellsAt w79 ⟨g2, 0, none⟩ 0 [.int .i64 x017, .int .u8 x12, .int .u8 x21, .int .u8 x3, .int .u8 x4, .int .u8 x5, .int .u8 x6, .int .u8 x7, .int .u8 x8, .int .u8 x9, .int .u8 x10, .int .u8 x111, .int .u8 x121, .int .u8 x13, .int .u8 x14, .int .u8 x15, .int .u8 x16] ∧
  Calls Tryd.prog 142 #[.agg #[.int .i64 x017, .int .u8 x12, .int .u8 x21, .int .u8 x3, .int .u8 x4, .int .u8 x5, .int .u8 x6, .int .u8 x7, .int .u8 x8, .int .u8 x9, .int .u8 x10, .int .u8 x111, .int .u8 x121, .int .u8 x13, .int .u8 x14, .int .u8 x15, .int .u8 x16]] w79 (onRet (fun r_3 w99 => ∃ x17 : Int, r_3 = .int .i64 x17 ∧
  Calls Tryd.prog 141 #[.string s, .int .i64 (IntKind.i64.wrap (k + 1)), .int .i64 q, .int .i64 x17] w99 (onRet (fun r_4 w100 => ∃ x18 : Int, r_4 = .int .i64 x18 ∧
  Br (decide (x18 < 0))
    (SetVC w100 ⟨g1, 0, none⟩ (.int .i64 0) fun w101 =>
    SetVC w101 ⟨g1, 1, none⟩ (.int .u8 0) fun w102 =>
    SetVC w102 ⟨g1, 2, none⟩ (.int .u8 0) fun w103 =>
    SetVC w103 ⟨g1, 3, none⟩ (.int .u8 0) fun w104 =>
    SetVC w104 ⟨g1, 4, none⟩ (.int .u8 0) fun w105 =>
    SetVC w105 ⟨g1, 5, none⟩ (.int .u8 0) fun w106 =>
    SetVC w106 ⟨g1, 6, none⟩ (.int .u8 0) fun w107 =>
    SetVC w107 ⟨g1, 7, none⟩ (.int .u8 0) fun w108 =>
    SetVC w108 ⟨g1, 8, none⟩ (.int .u8 0) fun w109 =>
    SetVC w109 ⟨g1, 9, none⟩ (.int .u8 0) fun w110 =>
    SetVC w110 ⟨g1, 10, none⟩ (.int .u8 0) fun w111 =>
    SetVC w111 ⟨g1, 11, none⟩ (.int .u8 0) fun w112 =>
    SetVC w112 ⟨g1, 12, none⟩ (.int .u8 0) fun w113 =>
    SetVC w113 ⟨g1, 13, none⟩ (.int .u8 0) fun w114 =>
    SetVC w114 ⟨g1, 14, none⟩ (.int .u8 0) fun w115 =>
    SetVC w115 ⟨g1, 15, none⟩ (.int .u8 0) fun w116 =>
    SetVC w116 ⟨g1, 16, none⟩ (.int .u8 0) fun w117 =>
    SetVC w117 ⟨g1, 17, none⟩ (.int .i64 0) fun w118 =>
    ∃ res04 : Int, ∃ res114 : Int, ∃ res24 : Int, ∃ res34 : Int, ∃ res44 : Int, ∃ res54 : Int, ∃ res64 : Int, ∃ res74 : Int, ∃ res84 : Int, ∃ res94 : Int, ∃ res104 : Int, ∃ res115 : Int, ∃ res124 : Int, ∃ res134 : Int, ∃ res144 : Int, ∃ res154 : Int, ∃ res164 : Int, ∃ res174 : Int, CellsAt w118 ⟨g1, 0, none⟩ 0 [.int .i64 res04, .int .u8 res114, .int .u8 res24, .int .u8 res34, .int .u8 res44, .int .u8 res54, .int .u8 res64, .int .u8 res74, .int .u8 res84, .int .u8 res94, .int .u8 res104, .int .u8 res115, .int .u8 res124, .int .u8 res134, .int .u8 res144, .int .u8 res154, .int .u8 res164, .int .i64 res174] ∧
  R (.returned (.tuple #[.agg #[.int .i64 res04, .int .u8 res114, .int .u8 res24, .int .u8 res34, .int .u8 res44, .int .u8 res54, .int .u8 res64, .int .u8 res74, .int .u8 res84, .int .u8 res94, .int .u8 res104, .int .u8 res115, .int .u8 res124, .int .u8 res134, .int .u8 res144, .int .u8 res154, .int .u8 res164, .int .i64 res174], .int .i64 45, .int .i64 (IntKind.i64.wrap (k + 1))])) w118)
    (Br (decide (q < (s.size : Int)))
    (SetVC w100 ⟨g1, 0, none⟩ (.int .i64 0) fun w119 =>
    SetVC w119 ⟨g1, 1, none⟩ (.int .u8 0) fun w120 =>
    SetVC w120 ⟨g1, 2, none⟩ (.int .u8 0) fun w121 =>
    SetVC w121 ⟨g1, 3, none⟩ (.int .u8 0) fun w122 =>
    SetVC w122 ⟨g1, 4, none⟩ (.int .u8 0) fun w123 =>
    SetVC w123 ⟨g1, 5, none⟩ (.int .u8 0) fun w124 =>
    SetVC w124 ⟨g1, 6, none⟩ (.int .u8 0) fun w125 =>
    SetVC w125 ⟨g1, 7, none⟩ (.int .u8 0) fun w126 =>
    SetVC w126 ⟨g1, 8, none⟩ (.int .u8 0) fun w127 =>
    SetVC w127 ⟨g1, 9, none⟩ (.int .u8 0) fun w128 =>
    SetVC w128 ⟨g1, 10, none⟩ (.int .u8 0) fun w129 =>
    SetVC w129 ⟨g1, 11, none⟩ (.int .u8 0) fun w130 =>
    SetVC w130 ⟨g1, 12, none⟩ (.int .u8 0) fun w131 =>
    SetVC w131 ⟨g1, 13, none⟩ (.int .u8 0) fun w132 =>
    SetVC w132 ⟨g1, 14, none⟩ (.int .u8 0) fun w133 =>
    SetVC w133 ⟨g1, 15, none⟩ (.int .u8 0) fun w134 =>
    SetVC w134 ⟨g1, 16, none⟩ (.int .u8 0) fun w135 =>
    SetVC w135 ⟨g1, 17, none⟩ (.int .i64 0) fun w136 =>
    ∃ res05 : Int, ∃ res116 : Int, ∃ res25 : Int, ∃ res35 : Int, ∃ res45 : Int, ∃ res55 : Int, ∃ res65 : Int, ∃ res75 : Int, ∃ res85 : Int, ∃ res95 : Int, ∃ res105 : Int, ∃ res117 : Int, ∃ res125 : Int, ∃ res135 : Int, ∃ res145 : Int, ∃ res155 : Int, ∃ res165 : Int, ∃ res175 : Int, CellsAt w136 ⟨g1, 0, none⟩ 0 [.int .i64 res05, .int .u8 res116, .int .u8 res25, .int .u8 res35, .int .u8 res45, .int .u8 res55, .int .u8 res65, .int .u8 res75, .int .u8 res85, .int .u8 res95, .int .u8 res105, .int .u8 res117, .int .u8 res125, .int .u8 res135, .int .u8 res145, .int .u8 res155, .int .u8 res165, .int .i64 res175] ∧
  R (.returned (.tuple #[.agg #[.int .i64 res05, .int .u8 res116, .int .u8 res25, .int .u8 res35, .int .u8 res45, .int .u8 res55, .int .u8 res65, .int .u8 res75, .int .u8 res85, .int .u8 res95, .int .u8 res105, .int .u8 res117, .int .u8 res125, .int .u8 res135, .int .u8 res145, .int .u8 res155, .int .u8 res165, .int .i64 res175], .int .i64 41, .int .i64 q])) w136)
    (∃ x018 : Int, ∃ x19 : Int, ∃ x22 : Int, ∃ x31 : Int, ∃ x41 : Int, ∃ x51 : Int, ∃ x61 : Int, ∃ x71 : Int, ∃ x81 : Int, ∃ x91 : Int, ∃ x101 : Int, ∃ x112 : Int, ∃ x122 : Int, ∃ x131 : Int, ∃ x141 : Int, ∃ x151 : Int, ∃ x161 : Int, CellsAt w100 ⟨g2, 0, none⟩ 0 [.int .i64 x018, .int .u8 x19, .int .u8 x22, .int .u8 x31, .int .u8 x41, .int .u8 x51, .int .u8 x61, .int .u8 x71, .int .u8 x81, .int .u8 x91, .int .u8 x101, .int .u8 x112, .int .u8 x122, .int .u8 x131, .int .u8 x141, .int .u8 x151, .int .u8 x161] ∧
  NewVC w100 (.cells #[.int .i64 0, .int .u8 0, .int .u8 0, .int .u8 0, .int .u8 0, .int .u8 0, .int .u8 0, .int .u8 0, .int .u8 0, .int .u8 0, .int .u8 0, .int .u8 0, .int .u8 0, .int .u8 0, .int .u8 0, .int .u8 0, .int .u8 0, .int .i64 0] 170) fun g3 w137 =>
  SetVC w137 ⟨g3, 0, none⟩ (.int .i64 x018) fun w138 =>
  SetVC w138 ⟨g3, 1, none⟩ (.int .u8 x19) fun w139 =>
  SetVC w139 ⟨g3, 2, none⟩ (.int .u8 x22) fun w140 =>
  SetVC w140 ⟨g3, 3, none⟩ (.int .u8 x31) fun w141 =>
  SetVC w141 ⟨g3, 4, none⟩ (.int .u8 x41) fun w142 =>
  SetVC w142 ⟨g3, 5, none⟩ (.int .u8 x51) fun w143 =>
  SetVC w143 ⟨g3, 6, none⟩ (.int .u8 x61) fun w144 =>
  SetVC w144 ⟨g3, 7, none⟩ (.int .u8 x71) fun w145 =>
  SetVC w145 ⟨g3, 8, none⟩ (.int .u8 x81) fun w146 =>
  SetVC w146 ⟨g3, 9, none⟩ (.int .u8 x91) fun w147 =>
  SetVC w147 ⟨g3, 10, none⟩ (.int .u8 x101) fun w148 =>
  SetVC w148 ⟨g3, 11, none⟩ (.int .u8 x112) fun w149 =>
  SetVC w149 ⟨g3, 12, none⟩ (.int .u8 x122) fun w150 =>
  SetVC w150 ⟨g3, 13, none⟩ (.int .u8 x131) fun w151 =>
  SetVC w151 ⟨g3, 14, none⟩ (.int .u8 x141) fun w152 =>
  SetVC w152 ⟨g3, 15, none⟩ (.int .u8 x151) fun w153 =>
  SetVC w153 ⟨g3, 16, none⟩ (.int .u8 x161) fun w154 =>
  SetVC w154 ⟨g3, 17, none⟩ (.int .i64 x18) fun w155 =>
  ∃ x019 : Int, ∃ x110 : Int, ∃ x23 : Int, ∃ x32 : Int, ∃ x42 : Int, ∃ x52 : Int, ∃ x62 : Int, ∃ x72 : Int, ∃ x82 : Int, ∃ x92 : Int, ∃ x102 : Int, ∃ x113 : Int, ∃ x123 : Int, ∃ x132 : Int, ∃ x142 : Int, ∃ x152 : Int, ∃ x162 : Int, ∃ x171 : Int, CellsAt w155 ⟨g3, 0, none⟩ 0 [.int .i64 x019, .int .u8 x110, .int .u8 x23, .int .u8 x32, .int .u8 x42, .int .u8 x52, .int .u8 x62, .int .u8 x72, .int .u8 x82, .int .u8 x92, .int .u8 x102, .int .u8 x113, .int .u8 x123, .int .u8 x132, .int .u8 x142, .int .u8 x152, .int .u8 x162, .int .i64 x171] ∧
  Calls Tryd.prog 143 #[.agg #[.int .i64 x019, .int .u8 x110, .int .u8 x23, .int .u8 x32, .int .u8 x42, .int .u8 x52, .int .u8 x62, .int .u8 x72, .int .u8 x82, .int .u8 x92, .int .u8 x102, .int .u8 x113, .int .u8 x123, .int .u8 x132, .int .u8 x142, .int .u8 x152, .int .u8 x162, .int .i64 x171]] w155 (onRet (fun r_5 w156 => ∃ x20 : Int, r_5 = .int .i64 x20 ∧
  Br (decide (x20 ≠ 0))
    (SetVC w156 ⟨g1, 0, none⟩ (.int .i64 0) fun w157 =>
    SetVC w157 ⟨g1, 1, none⟩ (.int .u8 0) fun w158 =>
    SetVC w158 ⟨g1, 2, none⟩ (.int .u8 0) fun w159 =>
    SetVC w159 ⟨g1, 3, none⟩ (.int .u8 0) fun w160 =>
    SetVC w160 ⟨g1, 4, none⟩ (.int .u8 0) fun w161 =>
    SetVC w161 ⟨g1, 5, none⟩ (.int .u8 0) fun w162 =>
    SetVC w162 ⟨g1, 6, none⟩ (.int .u8 0) fun w163 =>
    SetVC w163 ⟨g1, 7, none⟩ (.int .u8 0) fun w164 =>
    SetVC w164 ⟨g1, 8, none⟩ (.int .u8 0) fun w165 =>
    SetVC w165 ⟨g1, 9, none⟩ (.int .u8 0) fun w166 =>
    SetVC w166 ⟨g1, 10, none⟩ (.int .u8 0) fun w167 =>
    SetVC w167 ⟨g1, 11, none⟩ (.int .u8 0) fun w168 =>
    SetVC w168 ⟨g1, 12, none⟩ (.int .u8 0) fun w169 =>
    SetVC w169 ⟨g1, 13, none⟩ (.int .u8 0) fun w170 =>
    SetVC w170 ⟨g1, 14, none⟩ (.int .u8 0) fun w171 =>
    SetVC w171 ⟨g1, 15, none⟩ (.int .u8 0) fun w172 =>
    SetVC w172 ⟨g1, 16, none⟩ (.int .u8 0) fun w173 =>
    SetVC w173 ⟨g1, 17, none⟩ (.int .i64 0) fun w174 =>
    ∃ res06 : Int, ∃ res118 : Int, ∃ res26 : Int, ∃ res36 : Int, ∃ res46 : Int, ∃ res56 : Int, ∃ res66 : Int, ∃ res76 : Int, ∃ res86 : Int, ∃ res96 : Int, ∃ res106 : Int, ∃ res119 : Int, ∃ res126 : Int, ∃ res136 : Int, ∃ res146 : Int, ∃ res156 : Int, ∃ res166 : Int, ∃ res176 : Int, CellsAt w174 ⟨g1, 0, none⟩ 0 [.int .i64 res06, .int .u8 res118, .int .u8 res26, .int .u8 res36, .int .u8 res46, .int .u8 res56, .int .u8 res66, .int .u8 res76, .int .u8 res86, .int .u8 res96, .int .u8 res106, .int .u8 res119, .int .u8 res126, .int .u8 res136, .int .u8 res146, .int .u8 res156, .int .u8 res166, .int .i64 res176] ∧
  R (.returned (.tuple #[.agg #[.int .i64 res06, .int .u8 res118, .int .u8 res26, .int .u8 res36, .int .u8 res46, .int .u8 res56, .int .u8 res66, .int .u8 res76, .int .u8 res86, .int .u8 res96, .int .u8 res106, .int .u8 res119, .int .u8 res126, .int .u8 res136, .int .u8 res146, .int .u8 res156, .int .u8 res166, .int .i64 res176], .int .i64 46, .int .i64 0])) w174)
    (∃ x020 : Int, ∃ x114 : Int, ∃ x24 : Int, ∃ x33 : Int, ∃ x43 : Int, ∃ x53 : Int, ∃ x63 : Int, ∃ x73 : Int, ∃ x83 : Int, ∃ x93 : Int, ∃ x103 : Int, ∃ x115 : Int, ∃ x124 : Int, ∃ x133 : Int, ∃ x143 : Int, ∃ x153 : Int, ∃ x163 : Int, ∃ x172 : Int, CellsAt w156 ⟨g3, 0, none⟩ 0 [.int .i64 x020, .int .u8 x114, .int .u8 x24, .int .u8 x33, .int .u8 x43, .int .u8 x53, .int .u8 x63, .int .u8 x73, .int .u8 x83, .int .u8 x93, .int .u8 x103, .int .u8 x115, .int .u8 x124, .int .u8 x133, .int .u8 x143, .int .u8 x153, .int .u8 x163, .int .i64 x172] ∧
  SetVC w156 ⟨g1, 0, none⟩ (.int .i64 x020) fun w175 =>
  SetVC w175 ⟨g1, 1, none⟩ (.int .u8 x114) fun w176 =>
  SetVC w176 ⟨g1, 2, none⟩ (.int .u8 x24) fun w177 =>
  SetVC w177 ⟨g1, 3, none⟩ (.int .u8 x33) fun w178 =>
  SetVC w178 ⟨g1, 4, none⟩ (.int .u8 x43) fun w179 =>
  SetVC w179 ⟨g1, 5, none⟩ (.int .u8 x53) fun w180 =>
  SetVC w180 ⟨g1, 6, none⟩ (.int .u8 x63) fun w181 =>
  SetVC w181 ⟨g1, 7, none⟩ (.int .u8 x73) fun w182 =>
  SetVC w182 ⟨g1, 8, none⟩ (.int .u8 x83) fun w183 =>
  SetVC w183 ⟨g1, 9, none⟩ (.int .u8 x93) fun w184 =>
  SetVC w184 ⟨g1, 10, none⟩ (.int .u8 x103) fun w185 =>
  SetVC w185 ⟨g1, 11, none⟩ (.int .u8 x115) fun w186 =>
  SetVC w186 ⟨g1, 12, none⟩ (.int .u8 x124) fun w187 =>
  SetVC w187 ⟨g1, 13, none⟩ (.int .u8 x133) fun w188 =>
  SetVC w188 ⟨g1, 14, none⟩ (.int .u8 x143) fun w189 =>
  SetVC w189 ⟨g1, 15, none⟩ (.int .u8 x153) fun w190 =>
  SetVC w190 ⟨g1, 16, none⟩ (.int .u8 x163) fun w191 =>
  SetVC w191 ⟨g1, 17, none⟩ (.int .i64 x172) fun w192 =>
  ∃ res07 : Int, ∃ res120 : Int, ∃ res27 : Int, ∃ res37 : Int, ∃ res47 : Int, ∃ res57 : Int, ∃ res67 : Int, ∃ res77 : Int, ∃ res87 : Int, ∃ res97 : Int, ∃ res107 : Int, ∃ res1110 : Int, ∃ res127 : Int, ∃ res137 : Int, ∃ res147 : Int, ∃ res157 : Int, ∃ res167 : Int, ∃ res177 : Int, CellsAt w192 ⟨g1, 0, none⟩ 0 [.int .i64 res07, .int .u8 res120, .int .u8 res27, .int .u8 res37, .int .u8 res47, .int .u8 res57, .int .u8 res67, .int .u8 res77, .int .u8 res87, .int .u8 res97, .int .u8 res107, .int .u8 res1110, .int .u8 res127, .int .u8 res137, .int .u8 res147, .int .u8 res157, .int .u8 res167, .int .i64 res177] ∧
  R (.returned (.tuple #[.agg #[.int .i64 res07, .int .u8 res120, .int .u8 res27, .int .u8 res37, .int .u8 res47, .int .u8 res57, .int .u8 res67, .int .u8 res77, .int .u8 res87, .int .u8 res97, .int .u8 res107, .int .u8 res1110, .int .u8 res127, .int .u8 res137, .int .u8 res147, .int .u8 res157, .int .u8 res167, .int .i64 res177], .int .i64 0, .int .i64 0])) w192))
    (fun ch5 w156 => R (.panicked ch5) w156)))))
    (fun ch4 w100 => R (.panicked ch4) w100)))
    (fun ch3 w99 => R (.panicked ch3) w99)))
set_option maxRecDepth 100000 in
def weirref4_ParsePrefix_J15 (R : Ending → World → Prop) (s : ByteArray) (g1 : Nat) (k : Int) (w21 : World) : Prop :=
  Br (decide (k = (s.size : Int)))
    (SetVC w21 ⟨g1, 0, none⟩ (.int .i64 0) fun w22 =>
    SetVC w22 ⟨g1, 1, none⟩ (.int .u8 0) fun w23 =>
    SetVC w23 ⟨g1, 2, none⟩ (.int .u8 0) fun w24 =>
    SetVC w24 ⟨g1, 3, none⟩ (.int .u8 0) fun w25 =>
    SetVC w25 ⟨g1, 4, none⟩ (.int .u8 0) fun w26 =>
    SetVC w26 ⟨g1, 5, none⟩ (.int .u8 0) fun w27 =>
    SetVC w27 ⟨g1, 6, none⟩ (.int .u8 0) fun w28 =>
    SetVC w28 ⟨g1, 7, none⟩ (.int .u8 0) fun w29 =>
    SetVC w29 ⟨g1, 8, none⟩ (.int .u8 0) fun w30 =>
    SetVC w30 ⟨g1, 9, none⟩ (.int .u8 0) fun w31 =>
    SetVC w31 ⟨g1, 10, none⟩ (.int .u8 0) fun w32 =>
    SetVC w32 ⟨g1, 11, none⟩ (.int .u8 0) fun w33 =>
    SetVC w33 ⟨g1, 12, none⟩ (.int .u8 0) fun w34 =>
    SetVC w34 ⟨g1, 13, none⟩ (.int .u8 0) fun w35 =>
    SetVC w35 ⟨g1, 14, none⟩ (.int .u8 0) fun w36 =>
    SetVC w36 ⟨g1, 15, none⟩ (.int .u8 0) fun w37 =>
    SetVC w37 ⟨g1, 16, none⟩ (.int .u8 0) fun w38 =>
    SetVC w38 ⟨g1, 17, none⟩ (.int .i64 0) fun w39 =>
    ∃ res01 : Int, ∃ res18 : Int, ∃ res21 : Int, ∃ res31 : Int, ∃ res41 : Int, ∃ res51 : Int, ∃ res61 : Int, ∃ res71 : Int, ∃ res81 : Int, ∃ res91 : Int, ∃ res101 : Int, ∃ res111 : Int, ∃ res121 : Int, ∃ res131 : Int, ∃ res141 : Int, ∃ res151 : Int, ∃ res161 : Int, ∃ res171 : Int, CellsAt w39 ⟨g1, 0, none⟩ 0 [.int .i64 res01, .int .u8 res18, .int .u8 res21, .int .u8 res31, .int .u8 res41, .int .u8 res51, .int .u8 res61, .int .u8 res71, .int .u8 res81, .int .u8 res91, .int .u8 res101, .int .u8 res111, .int .u8 res121, .int .u8 res131, .int .u8 res141, .int .u8 res151, .int .u8 res161, .int .i64 res171] ∧
  R (.returned (.tuple #[.agg #[.int .i64 res01, .int .u8 res18, .int .u8 res21, .int .u8 res31, .int .u8 res41, .int .u8 res51, .int .u8 res61, .int .u8 res71, .int .u8 res81, .int .u8 res91, .int .u8 res101, .int .u8 res111, .int .u8 res121, .int .u8 res131, .int .u8 res141, .int .u8 res151, .int .u8 res161, .int .i64 res171], .int .i64 42, .int .i64 (s.size : Int)])) w39)
    (StrCutVC s none (some k) fun s1 =>
  Calls Tryd.prog 138 #[.string s1] w21 (onRet (fun r_ w40 => ∃ x00 : Int, ∃ x01 : Int, ∃ x02 : Int, ∃ x03 : Int, ∃ x04 : Int, ∃ x05 : Int, ∃ x06 : Int, ∃ x07 : Int, ∃ x08 : Int, ∃ x09 : Int, ∃ x010 : Int, ∃ x011 : Int, ∃ x012 : Int, ∃ x013 : Int, ∃ x014 : Int, ∃ x015 : Int, ∃ x016 : Int, ∃ x1 : Int, ∃ x2 : Int, r_ = .tuple #[.agg #[.int .i64 x00, .int .u8 x01, .int .u8 x02, .int .u8 x03, .int .u8 x04, .int .u8 x05, .int .u8 x06, .int .u8 x07, .int .u8 x08, .int .u8 x09, .int .u8 x010, .int .u8 x011, .int .u8 x012, .int .u8 x013, .int .u8 x014, .int .u8 x015, .int .u8 x016], .int .i64 x1, .int .i64 x2] ∧
  NewVC w40 (.cells #[.int .i64 0, .int .u8 0, .int .u8 0, .int .u8 0, .int .u8 0, .int .u8 0, .int .u8 0, .int .u8 0, .int .u8 0, .int .u8 0, .int .u8 0, .int .u8 0, .int .u8 0, .int .u8 0, .int .u8 0, .int .u8 0, .int .u8 0] 31) fun g2 w41 =>
  SetVC w41 ⟨g2, 0, none⟩ (.int .i64 x00) fun w42 =>
  SetVC w42 ⟨g2, 1, none⟩ (.int .u8 x01) fun w43 =>
  SetVC w43 ⟨g2, 2, none⟩ (.int .u8 x02) fun w44 =>
  SetVC w44 ⟨g2, 3, none⟩ (.int .u8 x03) fun w45 =>
  SetVC w45 ⟨g2, 4, none⟩ (.int .u8 x04) fun w46 =>
  SetVC w46 ⟨g2, 5, none⟩ (.int .u8 x05) fun w47 =>
  SetVC w47 ⟨g2, 6, none⟩ (.int .u8 x06) fun w48 =>
  SetVC w48 ⟨g2, 7, none⟩ (.int .u8 x07) fun w49 =>
  SetVC w49 ⟨g2, 8, none⟩ (.int .u8 x08) fun w50 =>
  SetVC w50 ⟨g2, 9, none⟩ (.int .u8 x09) fun w51 =>
  SetVC w51 ⟨g2, 10, none⟩ (.int .u8 x010) fun w52 =>
  SetVC w52 ⟨g2, 11, none⟩ (.int .u8 x011) fun w53 =>
  SetVC w53 ⟨g2, 12, none⟩ (.int .u8 x012) fun w54 =>
  SetVC w54 ⟨g2, 13, none⟩ (.int .u8 x013) fun w55 =>
  SetVC w55 ⟨g2, 14, none⟩ (.int .u8 x014) fun w56 =>
  SetVC w56 ⟨g2, 15, none⟩ (.int .u8 x015) fun w57 =>
  SetVC w57 ⟨g2, 16, none⟩ (.int .u8 x016) fun w58 =>
  Br (decide (x1 ≠ 0))
    (SetVC w58 ⟨g1, 0, none⟩ (.int .i64 0) fun w59 =>
    SetVC w59 ⟨g1, 1, none⟩ (.int .u8 0) fun w60 =>
    SetVC w60 ⟨g1, 2, none⟩ (.int .u8 0) fun w61 =>
    SetVC w61 ⟨g1, 3, none⟩ (.int .u8 0) fun w62 =>
    SetVC w62 ⟨g1, 4, none⟩ (.int .u8 0) fun w63 =>
    SetVC w63 ⟨g1, 5, none⟩ (.int .u8 0) fun w64 =>
    SetVC w64 ⟨g1, 6, none⟩ (.int .u8 0) fun w65 =>
    SetVC w65 ⟨g1, 7, none⟩ (.int .u8 0) fun w66 =>
    SetVC w66 ⟨g1, 8, none⟩ (.int .u8 0) fun w67 =>
    SetVC w67 ⟨g1, 9, none⟩ (.int .u8 0) fun w68 =>
    SetVC w68 ⟨g1, 10, none⟩ (.int .u8 0) fun w69 =>
    SetVC w69 ⟨g1, 11, none⟩ (.int .u8 0) fun w70 =>
    SetVC w70 ⟨g1, 12, none⟩ (.int .u8 0) fun w71 =>
    SetVC w71 ⟨g1, 13, none⟩ (.int .u8 0) fun w72 =>
    SetVC w72 ⟨g1, 14, none⟩ (.int .u8 0) fun w73 =>
    SetVC w73 ⟨g1, 15, none⟩ (.int .u8 0) fun w74 =>
    SetVC w74 ⟨g1, 16, none⟩ (.int .u8 0) fun w75 =>
    SetVC w75 ⟨g1, 17, none⟩ (.int .i64 0) fun w76 =>
    ∃ res02 : Int, ∃ res19 : Int, ∃ res22 : Int, ∃ res32 : Int, ∃ res42 : Int, ∃ res52 : Int, ∃ res62 : Int, ∃ res72 : Int, ∃ res82 : Int, ∃ res92 : Int, ∃ res102 : Int, ∃ res112 : Int, ∃ res122 : Int, ∃ res132 : Int, ∃ res142 : Int, ∃ res152 : Int, ∃ res162 : Int, ∃ res172 : Int, CellsAt w76 ⟨g1, 0, none⟩ 0 [.int .i64 res02, .int .u8 res19, .int .u8 res22, .int .u8 res32, .int .u8 res42, .int .u8 res52, .int .u8 res62, .int .u8 res72, .int .u8 res82, .int .u8 res92, .int .u8 res102, .int .u8 res112, .int .u8 res122, .int .u8 res132, .int .u8 res142, .int .u8 res152, .int .u8 res162, .int .i64 res172] ∧
  R (.returned (.tuple #[.agg #[.int .i64 res02, .int .u8 res19, .int .u8 res22, .int .u8 res32, .int .u8 res42, .int .u8 res52, .int .u8 res62, .int .u8 res72, .int .u8 res82, .int .u8 res92, .int .u8 res102, .int .u8 res112, .int .u8 res122, .int .u8 res132, .int .u8 res142, .int .u8 res152, .int .u8 res162, .int .i64 res172], .int .i64 x1, .int .i64 x2])) w76)
    (JoinVC (S := Int) (fun J511 =>
      LoopVC (S := Int) (fun s_ w77 K2044 => weirref4_ParsePrefix_L2044 R s J511 s_ w77 K2044) (IntKind.i64.wrap (k + 1)) w58)
    (fun s_ w79 => weirref4_ParsePrefix_J511 R s g1 k g2 s_ w79)))
    (fun ch w40 => R (.panicked ch) w40)))
set_option maxRecDepth 100000 in
def weirref4_ParsePrefix_VC (s : ByteArray) (w : World) (R : Ending → World → Prop) : Prop :=
  NewVC w (.cells #[.int .i64 0, .int .u8 0, .int .u8 0, .int .u8 0, .int .u8 0, .int .u8 0, .int .u8 0, .int .u8 0, .int .u8 0, .int .u8 0, .int .u8 0, .int .u8 0, .int .u8 0, .int .u8 0, .int .u8 0, .int .u8 0, .int .u8 0, .int .i64 0] 170) fun g1 w1 =>
  Br (decide ((49 : Int) < (s.size : Int)))
    (SetVC w1 ⟨g1, 0, none⟩ (.int .i64 0) fun w2 =>
    SetVC w2 ⟨g1, 1, none⟩ (.int .u8 0) fun w3 =>
    SetVC w3 ⟨g1, 2, none⟩ (.int .u8 0) fun w4 =>
    SetVC w4 ⟨g1, 3, none⟩ (.int .u8 0) fun w5 =>
    SetVC w5 ⟨g1, 4, none⟩ (.int .u8 0) fun w6 =>
    SetVC w6 ⟨g1, 5, none⟩ (.int .u8 0) fun w7 =>
    SetVC w7 ⟨g1, 6, none⟩ (.int .u8 0) fun w8 =>
    SetVC w8 ⟨g1, 7, none⟩ (.int .u8 0) fun w9 =>
    SetVC w9 ⟨g1, 8, none⟩ (.int .u8 0) fun w10 =>
    SetVC w10 ⟨g1, 9, none⟩ (.int .u8 0) fun w11 =>
    SetVC w11 ⟨g1, 10, none⟩ (.int .u8 0) fun w12 =>
    SetVC w12 ⟨g1, 11, none⟩ (.int .u8 0) fun w13 =>
    SetVC w13 ⟨g1, 12, none⟩ (.int .u8 0) fun w14 =>
    SetVC w14 ⟨g1, 13, none⟩ (.int .u8 0) fun w15 =>
    SetVC w15 ⟨g1, 14, none⟩ (.int .u8 0) fun w16 =>
    SetVC w16 ⟨g1, 15, none⟩ (.int .u8 0) fun w17 =>
    SetVC w17 ⟨g1, 16, none⟩ (.int .u8 0) fun w18 =>
    SetVC w18 ⟨g1, 17, none⟩ (.int .i64 0) fun w19 =>
    ∃ res0 : Int, ∃ res1 : Int, ∃ res2 : Int, ∃ res3 : Int, ∃ res4 : Int, ∃ res5 : Int, ∃ res6 : Int, ∃ res7 : Int, ∃ res8 : Int, ∃ res9 : Int, ∃ res10 : Int, ∃ res11 : Int, ∃ res12 : Int, ∃ res13 : Int, ∃ res14 : Int, ∃ res15 : Int, ∃ res16 : Int, ∃ res17 : Int, CellsAt w19 ⟨g1, 0, none⟩ 0 [.int .i64 res0, .int .u8 res1, .int .u8 res2, .int .u8 res3, .int .u8 res4, .int .u8 res5, .int .u8 res6, .int .u8 res7, .int .u8 res8, .int .u8 res9, .int .u8 res10, .int .u8 res11, .int .u8 res12, .int .u8 res13, .int .u8 res14, .int .u8 res15, .int .u8 res16, .int .i64 res17] ∧
  R (.returned (.tuple #[.agg #[.int .i64 res0, .int .u8 res1, .int .u8 res2, .int .u8 res3, .int .u8 res4, .int .u8 res5, .int .u8 res6, .int .u8 res7, .int .u8 res8, .int .u8 res9, .int .u8 res10, .int .u8 res11, .int .u8 res12, .int .u8 res13, .int .u8 res14, .int .u8 res15, .int .u8 res16, .int .i64 res17], .int .i64 2, .int .i64 49])) w19)
    (JoinVC (S := Int) (fun J15 =>
      LoopVC (S := Int) (fun s_ w20 K60 => weirref4_ParsePrefix_L60 s J15 s_ w20 K60) 0 w1)
    (fun s_ w21 => weirref4_ParsePrefix_J15 R s g1 s_ w21))
def weirref4_ParsePrefix_H : Hints := [(60, [(5, .int .i64)]), (15, [(5, .int .i64)]), (2044, [(9, .int .i64)]), (511, [(9, .int .i64)])]
set_option maxRecDepth 100000 in
theorem weirref4_ParsePrefix_of (s : ByteArray) (w : World) (R : Ending → World → Prop) (h : weirref4_ParsePrefix_VC s w R) :
    Calls Tryd.prog 126 #[.string s] w R :=
  calls_of_wpc callOk mixedOk (H := weirref4_ParsePrefix_H) (args := [.string s]) (fn := Tryd.f126) (c := bodyOf Tryd.f126) Tryd.func126 rfl (Nat.le_of_ble_eq_true rfl)
    (Eq.mp (by kernel_rfl : weirref4_ParsePrefix_VC s w R = wpc Tryd.prog callF Tryd.f126.ntmps weirref4_ParsePrefix_H 1 (bodyOf Tryd.f126) (argEnv 0 [.string s]) [] w (finish Tryd.prog callF Tryd.f126.results.toList R)) h)

set_option maxRecDepth 100000 in
def weirref4_Contains_L250 (R : Ending → World → Prop) (g1 : Nat) (g2 : Nat) (i : Int) (w5 : World) (K250 : (Int → World → Prop)) : Prop :=
  ∃ x23 : Int, w5.cell? ⟨g1, 17, none⟩ = some (.int .i64 x23) ∧
  Br (decide (i < x23))
    (DrawVC w5 fun S1 w6 =>
  ∃ x02 : Int, ∃ x110 : Int, ∃ x24 : Int, ∃ x32 : Int, ∃ x42 : Int, ∃ x52 : Int, ∃ x62 : Int, ∃ x72 : Int, ∃ x82 : Int, ∃ x92 : Int, ∃ x102 : Int, ∃ x112 : Int, ∃ x122 : Int, ∃ x132 : Int, ∃ x142 : Int, ∃ x152 : Int, ∃ x162 : Int, (∀ w' : World, S1 w' → CellsAt w' ⟨g1, 0, none⟩ 0 [.int .i64 x02, .int .u8 x110, .int .u8 x24, .int .u8 x32, .int .u8 x42, .int .u8 x52, .int .u8 x62, .int .u8 x72, .int .u8 x82, .int .u8 x92, .int .u8 x102, .int .u8 x112, .int .u8 x122, .int .u8 x132, .int .u8 x142, .int .u8 x152, .int .u8 x162]) ∧
  ∃ x03 : Int, ∃ x113 : Int, ∃ x25 : Int, ∃ x33 : Int, ∃ x43 : Int, ∃ x53 : Int, ∃ x63 : Int, ∃ x73 : Int, ∃ x83 : Int, ∃ x93 : Int, ∃ x103 : Int, ∃ x114 : Int, ∃ x123 : Int, ∃ x133 : Int, ∃ x143 : Int, ∃ x153 : Int, ∃ x163 : Int, (∀ w' : World, S1 w' → CellsAt w' ⟨g2, 0, none⟩ 0 [.int .i64 x03, .int .u8 x113, .int .u8 x25, .int .u8 x33, .int .u8 x43, .int .u8 x53, .int .u8 x63, .int .u8 x73, .int .u8 x83, .int .u8 x93, .int .u8 x103, .int .u8 x114, .int .u8 x123, .int .u8 x133, .int .u8 x143, .int .u8 x153, .int .u8 x163]) ∧
  Calls Tryd.prog 144 #[.agg #[.int .i64 x02, .int .u8 x110, .int .u8 x24, .int .u8 x32, .int .u8 x42, .int .u8 x52, .int .u8 x62, .int .u8 x72, .int .u8 x82, .int .u8 x92, .int .u8 x102, .int .u8 x112, .int .u8 x122, .int .u8 x132, .int .u8 x142, .int .u8 x152, .int .u8 x162], .int .i64 i] w6 (onRet (fun r_2 w7 => ∃ x26 : Int, r_2 = .int .i64 x26 ∧
  S1 w7 ∧
  Calls Tryd.prog 144 #[.agg #[.int .i64 x03, .int .u8 x113, .int .u8 x25, .int .u8 x33, .int .u8 x43, .int .u8 x53, .int .u8 x63, .int .u8 x73, .int .u8 x83, .int .u8 x93, .int .u8 x103, .int .u8 x114, .int .u8 x123, .int .u8 x133, .int .u8 x143, .int .u8 x153, .int .u8 x163], .int .i64 i] w7 (onRet (fun r_3 w8 => ∃ x27 : Int, r_3 = .int .i64 x27 ∧
  S1 w8 ∧
  Br (decide (x26 ≠ x27))
    (R (.returned (.bool false)) w8)
    (K250 (IntKind.i64.wrap (i + 1)) w8))
    (fun _ _ => False)))
    (fun _ _ => False)))
    (R (.returned (.bool true)) w5)
set_option maxRecDepth 100000 in
def weirref4_Contains_VC (p_IPV : Int) (p_IPA0_ : Int) (p_IPA1_ : Int) (p_IPA2_ : Int) (p_IPA3_ : Int) (p_IPA4_ : Int) (p_IPA5_ : Int) (p_IPA6_ : Int) (p_IPA7_ : Int) (p_IPA8_ : Int) (p_IPA9_ : Int) (p_IPA10_ : Int) (p_IPA11_ : Int) (p_IPA12_ : Int) (p_IPA13_ : Int) (p_IPA14_ : Int) (p_IPA15_ : Int) (p_Len : Int) (ip_V : Int) (ip_A0_ : Int) (ip_A1_ : Int) (ip_A2_ : Int) (ip_A3_ : Int) (ip_A4_ : Int) (ip_A5_ : Int) (ip_A6_ : Int) (ip_A7_ : Int) (ip_A8_ : Int) (ip_A9_ : Int) (ip_A10_ : Int) (ip_A11_ : Int) (ip_A12_ : Int) (ip_A13_ : Int) (ip_A14_ : Int) (ip_A15_ : Int) (w : World) (R : Ending → World → Prop) : Prop :=
  NewVC w (.cells #[.int .i64 p_IPV, .int .u8 p_IPA0_, .int .u8 p_IPA1_, .int .u8 p_IPA2_, .int .u8 p_IPA3_, .int .u8 p_IPA4_, .int .u8 p_IPA5_, .int .u8 p_IPA6_, .int .u8 p_IPA7_, .int .u8 p_IPA8_, .int .u8 p_IPA9_, .int .u8 p_IPA10_, .int .u8 p_IPA11_, .int .u8 p_IPA12_, .int .u8 p_IPA13_, .int .u8 p_IPA14_, .int .u8 p_IPA15_, .int .i64 p_Len] 170) fun g1 w1 =>
  NewVC w1 (.cells #[.int .i64 ip_V, .int .u8 ip_A0_, .int .u8 ip_A1_, .int .u8 ip_A2_, .int .u8 ip_A3_, .int .u8 ip_A4_, .int .u8 ip_A5_, .int .u8 ip_A6_, .int .u8 ip_A7_, .int .u8 ip_A8_, .int .u8 ip_A9_, .int .u8 ip_A10_, .int .u8 ip_A11_, .int .u8 ip_A12_, .int .u8 ip_A13_, .int .u8 ip_A14_, .int .u8 ip_A15_] 31) fun g2 w2 =>
  ∃ x0 : Int, ∃ x1 : Int, ∃ x2 : Int, ∃ x3 : Int, ∃ x4 : Int, ∃ x5 : Int, ∃ x6 : Int, ∃ x7 : Int, ∃ x8 : Int, ∃ x9 : Int, ∃ x10 : Int, ∃ x11 : Int, ∃ x12 : Int, ∃ x13 : Int, ∃ x14 : Int, ∃ x15 : Int, ∃ x16 : Int, ∃ x17 : Int, CellsAt w2 ⟨g1, 0, none⟩ 0 [.int .i64 x0, .int .u8 x1, .int .u8 x2, .int .u8 x3, .int .u8 x4, .int .u8 x5, .int .u8 x6, .int .u8 x7, .int .u8 x8, .int .u8 x9, .int .u8 x10, .int .u8 x11, .int .u8 x12, .int .u8 x13, .int .u8 x14, .int .u8 x15, .int .u8 x16, .int .i64 x17] ∧
  Calls Tryd.prog 143 #[.agg #[.int .i64 x0, .int .u8 x1, .int .u8 x2, .int .u8 x3, .int .u8 x4, .int .u8 x5, .int .u8 x6, .int .u8 x7, .int .u8 x8, .int .u8 x9, .int .u8 x10, .int .u8 x11, .int .u8 x12, .int .u8 x13, .int .u8 x14, .int .u8 x15, .int .u8 x16, .int .i64 x17]] w2 (onRet (fun r_ w3 => ∃ x : Int, r_ = .int .i64 x ∧
  ∃ x01 : Int, ∃ x18 : Int, ∃ x21 : Int, ∃ x31 : Int, ∃ x41 : Int, ∃ x51 : Int, ∃ x61 : Int, ∃ x71 : Int, ∃ x81 : Int, ∃ x91 : Int, ∃ x101 : Int, ∃ x111 : Int, ∃ x121 : Int, ∃ x131 : Int, ∃ x141 : Int, ∃ x151 : Int, ∃ x161 : Int, CellsAt w3 ⟨g2, 0, none⟩ 0 [.int .i64 x01, .int .u8 x18, .int .u8 x21, .int .u8 x31, .int .u8 x41, .int .u8 x51, .int .u8 x61, .int .u8 x71, .int .u8 x81, .int .u8 x91, .int .u8 x101, .int .u8 x111, .int .u8 x121, .int .u8 x131, .int .u8 x141, .int .u8 x151, .int .u8 x161] ∧
  Calls Tryd.prog 103 #[.agg #[.int .i64 x01, .int .u8 x18, .int .u8 x21, .int .u8 x31, .int .u8 x41, .int .u8 x51, .int .u8 x61, .int .u8 x71, .int .u8 x81, .int .u8 x91, .int .u8 x101, .int .u8 x111, .int .u8 x121, .int .u8 x131, .int .u8 x141, .int .u8 x151, .int .u8 x161]] w3 (onRet (fun r_1 w4 => ∃ x19 : Bool, r_1 = .bool x19 ∧
  Br (decide (x ≠ 0))
    (R (.returned (.bool false)) w4)
    (Br (!x19)
      (R (.returned (.bool false)) w4)
      (∃ x20 : Int, w4.cell? ⟨g1, 0, none⟩ = some (.int .i64 x20) ∧
      ∃ x22 : Int, w4.cell? ⟨g2, 0, none⟩ = some (.int .i64 x22) ∧
      Br (decide (x20 ≠ x22))
    (R (.returned (.bool false)) w4)
    (LoopVC (S := Int) (fun s_ w5 K250 => weirref4_Contains_L250 R g1 g2 s_ w5 K250) 0 w4))))
    (fun ch1 w4 => R (.panicked ch1) w4)))
    (fun ch w3 => R (.panicked ch) w3))
def weirref4_Contains_H : Hints := [(250, [(7, .int .i64)])]
set_option maxRecDepth 100000 in
theorem weirref4_Contains_of (p_IPV : Int) (p_IPA0_ : Int) (p_IPA1_ : Int) (p_IPA2_ : Int) (p_IPA3_ : Int) (p_IPA4_ : Int) (p_IPA5_ : Int) (p_IPA6_ : Int) (p_IPA7_ : Int) (p_IPA8_ : Int) (p_IPA9_ : Int) (p_IPA10_ : Int) (p_IPA11_ : Int) (p_IPA12_ : Int) (p_IPA13_ : Int) (p_IPA14_ : Int) (p_IPA15_ : Int) (p_Len : Int) (ip_V : Int) (ip_A0_ : Int) (ip_A1_ : Int) (ip_A2_ : Int) (ip_A3_ : Int) (ip_A4_ : Int) (ip_A5_ : Int) (ip_A6_ : Int) (ip_A7_ : Int) (ip_A8_ : Int) (ip_A9_ : Int) (ip_A10_ : Int) (ip_A11_ : Int) (ip_A12_ : Int) (ip_A13_ : Int) (ip_A14_ : Int) (ip_A15_ : Int) (w : World) (R : Ending → World → Prop) (h : weirref4_Contains_VC p_IPV p_IPA0_ p_IPA1_ p_IPA2_ p_IPA3_ p_IPA4_ p_IPA5_ p_IPA6_ p_IPA7_ p_IPA8_ p_IPA9_ p_IPA10_ p_IPA11_ p_IPA12_ p_IPA13_ p_IPA14_ p_IPA15_ p_Len ip_V ip_A0_ ip_A1_ ip_A2_ ip_A3_ ip_A4_ ip_A5_ ip_A6_ ip_A7_ ip_A8_ ip_A9_ ip_A10_ ip_A11_ ip_A12_ ip_A13_ ip_A14_ ip_A15_ w R) :
    Calls Tryd.prog 127 #[.agg #[.int .i64 p_IPV, .int .u8 p_IPA0_, .int .u8 p_IPA1_, .int .u8 p_IPA2_, .int .u8 p_IPA3_, .int .u8 p_IPA4_, .int .u8 p_IPA5_, .int .u8 p_IPA6_, .int .u8 p_IPA7_, .int .u8 p_IPA8_, .int .u8 p_IPA9_, .int .u8 p_IPA10_, .int .u8 p_IPA11_, .int .u8 p_IPA12_, .int .u8 p_IPA13_, .int .u8 p_IPA14_, .int .u8 p_IPA15_, .int .i64 p_Len], .agg #[.int .i64 ip_V, .int .u8 ip_A0_, .int .u8 ip_A1_, .int .u8 ip_A2_, .int .u8 ip_A3_, .int .u8 ip_A4_, .int .u8 ip_A5_, .int .u8 ip_A6_, .int .u8 ip_A7_, .int .u8 ip_A8_, .int .u8 ip_A9_, .int .u8 ip_A10_, .int .u8 ip_A11_, .int .u8 ip_A12_, .int .u8 ip_A13_, .int .u8 ip_A14_, .int .u8 ip_A15_]] w R :=
  calls_of_wpc callOk mixedOk (H := weirref4_Contains_H) (args := [.agg #[.int .i64 p_IPV, .int .u8 p_IPA0_, .int .u8 p_IPA1_, .int .u8 p_IPA2_, .int .u8 p_IPA3_, .int .u8 p_IPA4_, .int .u8 p_IPA5_, .int .u8 p_IPA6_, .int .u8 p_IPA7_, .int .u8 p_IPA8_, .int .u8 p_IPA9_, .int .u8 p_IPA10_, .int .u8 p_IPA11_, .int .u8 p_IPA12_, .int .u8 p_IPA13_, .int .u8 p_IPA14_, .int .u8 p_IPA15_, .int .i64 p_Len], .agg #[.int .i64 ip_V, .int .u8 ip_A0_, .int .u8 ip_A1_, .int .u8 ip_A2_, .int .u8 ip_A3_, .int .u8 ip_A4_, .int .u8 ip_A5_, .int .u8 ip_A6_, .int .u8 ip_A7_, .int .u8 ip_A8_, .int .u8 ip_A9_, .int .u8 ip_A10_, .int .u8 ip_A11_, .int .u8 ip_A12_, .int .u8 ip_A13_, .int .u8 ip_A14_, .int .u8 ip_A15_]]) (fn := Tryd.f127) (c := bodyOf Tryd.f127) Tryd.func127 rfl (Nat.le_of_ble_eq_true rfl)
    (Eq.mp (by kernel_rfl : weirref4_Contains_VC p_IPV p_IPA0_ p_IPA1_ p_IPA2_ p_IPA3_ p_IPA4_ p_IPA5_ p_IPA6_ p_IPA7_ p_IPA8_ p_IPA9_ p_IPA10_ p_IPA11_ p_IPA12_ p_IPA13_ p_IPA14_ p_IPA15_ p_Len ip_V ip_A0_ ip_A1_ ip_A2_ ip_A3_ ip_A4_ ip_A5_ ip_A6_ ip_A7_ ip_A8_ ip_A9_ ip_A10_ ip_A11_ ip_A12_ ip_A13_ ip_A14_ ip_A15_ w R = wpc Tryd.prog callF Tryd.f127.ntmps weirref4_Contains_H 1 (bodyOf Tryd.f127) (argEnv 0 [.agg #[.int .i64 p_IPV, .int .u8 p_IPA0_, .int .u8 p_IPA1_, .int .u8 p_IPA2_, .int .u8 p_IPA3_, .int .u8 p_IPA4_, .int .u8 p_IPA5_, .int .u8 p_IPA6_, .int .u8 p_IPA7_, .int .u8 p_IPA8_, .int .u8 p_IPA9_, .int .u8 p_IPA10_, .int .u8 p_IPA11_, .int .u8 p_IPA12_, .int .u8 p_IPA13_, .int .u8 p_IPA14_, .int .u8 p_IPA15_, .int .i64 p_Len], .agg #[.int .i64 ip_V, .int .u8 ip_A0_, .int .u8 ip_A1_, .int .u8 ip_A2_, .int .u8 ip_A3_, .int .u8 ip_A4_, .int .u8 ip_A5_, .int .u8 ip_A6_, .int .u8 ip_A7_, .int .u8 ip_A8_, .int .u8 ip_A9_, .int .u8 ip_A10_, .int .u8 ip_A11_, .int .u8 ip_A12_, .int .u8 ip_A13_, .int .u8 ip_A14_, .int .u8 ip_A15_]]) [] w (finish Tryd.prog callF Tryd.f127.results.toList R)) h)

set_option maxRecDepth 100000 in
def weirref4_ParseIP_L1018 (R : Ending → World → Prop) (g1 : Nat) (x0A : Option Addr) (x0n : Nat) (g3 : Nat) (i : Int) (w108 : World) (K1018 : (Int → World → Prop)) : Prop :=
  Br (decide (i < 4))
    (IdxVC x0A x0n 1 i fun a =>
  ∃ x17 : Int, w108.cell? a = some (.int .u8 x17) ∧
  IdxVC (some ⟨g3, 1, none⟩) 16 1 i fun a1 =>
  SetVC w108 a1 (.int .u8 x17) fun w109 =>
  K1018 (IntKind.i64.wrap (i + 1)) w109)
    (∃ x016 : Int, ∃ x18 : Int, ∃ x23 : Int, ∃ x31 : Int, ∃ x41 : Int, ∃ x51 : Int, ∃ x61 : Int, ∃ x71 : Int, ∃ x81 : Int, ∃ x91 : Int, ∃ x101 : Int, ∃ x112 : Int, ∃ x121 : Int, ∃ x131 : Int, ∃ x141 : Int, ∃ x151 : Int, ∃ x161 : Int, CellsAt w108 ⟨g3, 0, none⟩ 0 [.int .i64 x016, .int .u8 x18, .int .u8 x23, .int .u8 x31, .int .u8 x41, .int .u8 x51, .int .u8 x61, .int .u8 x71, .int .u8 x81, .int .u8 x91, .int .u8 x101, .int .u8 x112, .int .u8 x121, .int .u8 x131, .int .u8 x141, .int .u8 x151, .int .u8 x161] ∧
  SetVC w108 ⟨g1, 0, none⟩ (.int .i64 x016) fun w110 =>
  SetVC w110 ⟨g1, 1, none⟩ (.int .u8 x18) fun w111 =>
  SetVC w111 ⟨g1, 2, none⟩ (.int .u8 x23) fun w112 =>
  SetVC w112 ⟨g1, 3, none⟩ (.int .u8 x31) fun w113 =>
  SetVC w113 ⟨g1, 4, none⟩ (.int .u8 x41) fun w114 =>
  SetVC w114 ⟨g1, 5, none⟩ (.int .u8 x51) fun w115 =>
  SetVC w115 ⟨g1, 6, none⟩ (.int .u8 x61) fun w116 =>
  SetVC w116 ⟨g1, 7, none⟩ (.int .u8 x71) fun w117 =>
  SetVC w117 ⟨g1, 8, none⟩ (.int .u8 x81) fun w118 =>
  SetVC w118 ⟨g1, 9, none⟩ (.int .u8 x91) fun w119 =>
  SetVC w119 ⟨g1, 10, none⟩ (.int .u8 x101) fun w120 =>
  SetVC w120 ⟨g1, 11, none⟩ (.int .u8 x112) fun w121 =>
  SetVC w121 ⟨g1, 12, none⟩ (.int .u8 x121) fun w122 =>
  SetVC w122 ⟨g1, 13, none⟩ (.int .u8 x131) fun w123 =>
  SetVC w123 ⟨g1, 14, none⟩ (.int .u8 x141) fun w124 =>
  SetVC w124 ⟨g1, 15, none⟩ (.int .u8 x151) fun w125 =>
  SetVC w125 ⟨g1, 16, none⟩ (.int .u8 x161) fun w126 =>
  ∃ res04 : Int, ∃ res110 : Int, ∃ res24 : Int, ∃ res34 : Int, ∃ res44 : Int, ∃ res54 : Int, ∃ res64 : Int, ∃ res74 : Int, ∃ res84 : Int, ∃ res94 : Int, ∃ res104 : Int, ∃ res114 : Int, ∃ res124 : Int, ∃ res134 : Int, ∃ res144 : Int, ∃ res154 : Int, ∃ res164 : Int, CellsAt w126 ⟨g1, 0, none⟩ 0 [.int .i64 res04, .int .u8 res110, .int .u8 res24, .int .u8 res34, .int .u8 res44, .int .u8 res54, .int .u8 res64, .int .u8 res74, .int .u8 res84, .int .u8 res94, .int .u8 res104, .int .u8 res114, .int .u8 res124, .int .u8 res134, .int .u8 res144, .int .u8 res154, .int .u8 res164] ∧
  R (.returned (.tuple #[.agg #[.int .i64 res04, .int .u8 res110, .int .u8 res24, .int .u8 res34, .int .u8 res44, .int .u8 res54, .int .u8 res64, .int .u8 res74, .int .u8 res84, .int .u8 res94, .int .u8 res104, .int .u8 res114, .int .u8 res124, .int .u8 res134, .int .u8 res144, .int .u8 res154, .int .u8 res164], .int .i64 0, .int .i64 0])) w126)
set_option maxRecDepth 100000 in
def weirref4_ParseIP_VC (s : ByteArray) (w : World) (R : Ending → World → Prop) : Prop :=
  NewVC w (.cells #[.int .i64 0, .int .u8 0, .int .u8 0, .int .u8 0, .int .u8 0, .int .u8 0, .int .u8 0, .int .u8 0, .int .u8 0, .int .u8 0, .int .u8 0, .int .u8 0, .int .u8 0, .int .u8 0, .int .u8 0, .int .u8 0, .int .u8 0] 31) fun g1 w1 =>
  Br (decide ((45 : Int) < (s.size : Int)))
    (SetVC w1 ⟨g1, 0, none⟩ (.int .i64 0) fun w2 =>
    SetVC w2 ⟨g1, 1, none⟩ (.int .u8 0) fun w3 =>
    SetVC w3 ⟨g1, 2, none⟩ (.int .u8 0) fun w4 =>
    SetVC w4 ⟨g1, 3, none⟩ (.int .u8 0) fun w5 =>
    SetVC w5 ⟨g1, 4, none⟩ (.int .u8 0) fun w6 =>
    SetVC w6 ⟨g1, 5, none⟩ (.int .u8 0) fun w7 =>
    SetVC w7 ⟨g1, 6, none⟩ (.int .u8 0) fun w8 =>
    SetVC w8 ⟨g1, 7, none⟩ (.int .u8 0) fun w9 =>
    SetVC w9 ⟨g1, 8, none⟩ (.int .u8 0) fun w10 =>
    SetVC w10 ⟨g1, 9, none⟩ (.int .u8 0) fun w11 =>
    SetVC w11 ⟨g1, 10, none⟩ (.int .u8 0) fun w12 =>
    SetVC w12 ⟨g1, 11, none⟩ (.int .u8 0) fun w13 =>
    SetVC w13 ⟨g1, 12, none⟩ (.int .u8 0) fun w14 =>
    SetVC w14 ⟨g1, 13, none⟩ (.int .u8 0) fun w15 =>
    SetVC w15 ⟨g1, 14, none⟩ (.int .u8 0) fun w16 =>
    SetVC w16 ⟨g1, 15, none⟩ (.int .u8 0) fun w17 =>
    SetVC w17 ⟨g1, 16, none⟩ (.int .u8 0) fun w18 =>
    ∃ res0 : Int, ∃ res1 : Int, ∃ res2 : Int, ∃ res3 : Int, ∃ res4 : Int, ∃ res5 : Int, ∃ res6 : Int, ∃ res7 : Int, ∃ res8 : Int, ∃ res9 : Int, ∃ res10 : Int, ∃ res11 : Int, ∃ res12 : Int, ∃ res13 : Int, ∃ res14 : Int, ∃ res15 : Int, ∃ res16 : Int, CellsAt w18 ⟨g1, 0, none⟩ 0 [.int .i64 res0, .int .u8 res1, .int .u8 res2, .int .u8 res3, .int .u8 res4, .int .u8 res5, .int .u8 res6, .int .u8 res7, .int .u8 res8, .int .u8 res9, .int .u8 res10, .int .u8 res11, .int .u8 res12, .int .u8 res13, .int .u8 res14, .int .u8 res15, .int .u8 res16] ∧
  R (.returned (.tuple #[.agg #[.int .i64 res0, .int .u8 res1, .int .u8 res2, .int .u8 res3, .int .u8 res4, .int .u8 res5, .int .u8 res6, .int .u8 res7, .int .u8 res8, .int .u8 res9, .int .u8 res10, .int .u8 res11, .int .u8 res12, .int .u8 res13, .int .u8 res14, .int .u8 res15, .int .u8 res16], .int .i64 2, .int .i64 45])) w18)
    (Calls Tryd.prog 152 #[.string s, .int .u8 58] w1 (onRet (fun r_ w19 => ∃ x : Bool, r_ = .bool x ∧
  Br x
    (Calls Tryd.prog 153 #[.string s] w19 (onRet (fun r_1 w20 => ∃ x00 : Int, ∃ x01 : Int, ∃ x02 : Int, ∃ x03 : Int, ∃ x04 : Int, ∃ x05 : Int, ∃ x06 : Int, ∃ x07 : Int, ∃ x08 : Int, ∃ x09 : Int, ∃ x010 : Int, ∃ x011 : Int, ∃ x012 : Int, ∃ x013 : Int, ∃ x014 : Int, ∃ x015 : Int, ∃ x1 : Int, ∃ x2 : Int, r_1 = .tuple #[.agg #[.int .u8 x00, .int .u8 x01, .int .u8 x02, .int .u8 x03, .int .u8 x04, .int .u8 x05, .int .u8 x06, .int .u8 x07, .int .u8 x08, .int .u8 x09, .int .u8 x010, .int .u8 x011, .int .u8 x012, .int .u8 x013, .int .u8 x014, .int .u8 x015], .int .i64 x1, .int .i64 x2] ∧
    NewVC w20 (.cells #[.int .u8 0, .int .u8 0, .int .u8 0, .int .u8 0, .int .u8 0, .int .u8 0, .int .u8 0, .int .u8 0, .int .u8 0, .int .u8 0, .int .u8 0, .int .u8 0, .int .u8 0, .int .u8 0, .int .u8 0, .int .u8 0] 29) fun g2 w21 =>
    SetVC w21 ⟨g2, 0, none⟩ (.int .u8 x00) fun w22 =>
    SetVC w22 ⟨g2, 1, none⟩ (.int .u8 x01) fun w23 =>
    SetVC w23 ⟨g2, 2, none⟩ (.int .u8 x02) fun w24 =>
    SetVC w24 ⟨g2, 3, none⟩ (.int .u8 x03) fun w25 =>
    SetVC w25 ⟨g2, 4, none⟩ (.int .u8 x04) fun w26 =>
    SetVC w26 ⟨g2, 5, none⟩ (.int .u8 x05) fun w27 =>
    SetVC w27 ⟨g2, 6, none⟩ (.int .u8 x06) fun w28 =>
    SetVC w28 ⟨g2, 7, none⟩ (.int .u8 x07) fun w29 =>
    SetVC w29 ⟨g2, 8, none⟩ (.int .u8 x08) fun w30 =>
    SetVC w30 ⟨g2, 9, none⟩ (.int .u8 x09) fun w31 =>
    SetVC w31 ⟨g2, 10, none⟩ (.int .u8 x010) fun w32 =>
    SetVC w32 ⟨g2, 11, none⟩ (.int .u8 x011) fun w33 =>
    SetVC w33 ⟨g2, 12, none⟩ (.int .u8 x012) fun w34 =>
    SetVC w34 ⟨g2, 13, none⟩ (.int .u8 x013) fun w35 =>
    SetVC w35 ⟨g2, 14, none⟩ (.int .u8 x014) fun w36 =>
    SetVC w36 ⟨g2, 15, none⟩ (.int .u8 x015) fun w37 =>
    Br (decide (x1 ≠ 0))
      (SetVC w37 ⟨g1, 0, none⟩ (.int .i64 0) fun w38 =>
      SetVC w38 ⟨g1, 1, none⟩ (.int .u8 0) fun w39 =>
      SetVC w39 ⟨g1, 2, none⟩ (.int .u8 0) fun w40 =>
      SetVC w40 ⟨g1, 3, none⟩ (.int .u8 0) fun w41 =>
      SetVC w41 ⟨g1, 4, none⟩ (.int .u8 0) fun w42 =>
      SetVC w42 ⟨g1, 5, none⟩ (.int .u8 0) fun w43 =>
      SetVC w43 ⟨g1, 6, none⟩ (.int .u8 0) fun w44 =>
      SetVC w44 ⟨g1, 7, none⟩ (.int .u8 0) fun w45 =>
      SetVC w45 ⟨g1, 8, none⟩ (.int .u8 0) fun w46 =>
      SetVC w46 ⟨g1, 9, none⟩ (.int .u8 0) fun w47 =>
      SetVC w47 ⟨g1, 10, none⟩ (.int .u8 0) fun w48 =>
      SetVC w48 ⟨g1, 11, none⟩ (.int .u8 0) fun w49 =>
      SetVC w49 ⟨g1, 12, none⟩ (.int .u8 0) fun w50 =>
      SetVC w50 ⟨g1, 13, none⟩ (.int .u8 0) fun w51 =>
      SetVC w51 ⟨g1, 14, none⟩ (.int .u8 0) fun w52 =>
      SetVC w52 ⟨g1, 15, none⟩ (.int .u8 0) fun w53 =>
      SetVC w53 ⟨g1, 16, none⟩ (.int .u8 0) fun w54 =>
      ∃ res01 : Int, ∃ res17 : Int, ∃ res21 : Int, ∃ res31 : Int, ∃ res41 : Int, ∃ res51 : Int, ∃ res61 : Int, ∃ res71 : Int, ∃ res81 : Int, ∃ res91 : Int, ∃ res101 : Int, ∃ res111 : Int, ∃ res121 : Int, ∃ res131 : Int, ∃ res141 : Int, ∃ res151 : Int, ∃ res161 : Int, CellsAt w54 ⟨g1, 0, none⟩ 0 [.int .i64 res01, .int .u8 res17, .int .u8 res21, .int .u8 res31, .int .u8 res41, .int .u8 res51, .int .u8 res61, .int .u8 res71, .int .u8 res81, .int .u8 res91, .int .u8 res101, .int .u8 res111, .int .u8 res121, .int .u8 res131, .int .u8 res141, .int .u8 res151, .int .u8 res161] ∧
  R (.returned (.tuple #[.agg #[.int .i64 res01, .int .u8 res17, .int .u8 res21, .int .u8 res31, .int .u8 res41, .int .u8 res51, .int .u8 res61, .int .u8 res71, .int .u8 res81, .int .u8 res91, .int .u8 res101, .int .u8 res111, .int .u8 res121, .int .u8 res131, .int .u8 res141, .int .u8 res151, .int .u8 res161], .int .i64 x1, .int .i64 x2])) w54)
      (∃ x0 : Int, ∃ x11 : Int, ∃ x21 : Int, ∃ x3 : Int, ∃ x4 : Int, ∃ x5 : Int, ∃ x6 : Int, ∃ x7 : Int, ∃ x8 : Int, ∃ x9 : Int, ∃ x10 : Int, ∃ x111 : Int, ∃ x12 : Int, ∃ x13 : Int, ∃ x14 : Int, ∃ x15 : Int, CellsAt w37 ⟨g2, 0, none⟩ 0 [.int .u8 x0, .int .u8 x11, .int .u8 x21, .int .u8 x3, .int .u8 x4, .int .u8 x5, .int .u8 x6, .int .u8 x7, .int .u8 x8, .int .u8 x9, .int .u8 x10, .int .u8 x111, .int .u8 x12, .int .u8 x13, .int .u8 x14, .int .u8 x15] ∧
    SetVC w37 ⟨g1, 0, none⟩ (.int .i64 6) fun w55 =>
    SetVC w55 ⟨g1, 1, none⟩ (.int .u8 x0) fun w56 =>
    SetVC w56 ⟨g1, 2, none⟩ (.int .u8 x11) fun w57 =>
    SetVC w57 ⟨g1, 3, none⟩ (.int .u8 x21) fun w58 =>
    SetVC w58 ⟨g1, 4, none⟩ (.int .u8 x3) fun w59 =>
    SetVC w59 ⟨g1, 5, none⟩ (.int .u8 x4) fun w60 =>
    SetVC w60 ⟨g1, 6, none⟩ (.int .u8 x5) fun w61 =>
    SetVC w61 ⟨g1, 7, none⟩ (.int .u8 x6) fun w62 =>
    SetVC w62 ⟨g1, 8, none⟩ (.int .u8 x7) fun w63 =>
    SetVC w63 ⟨g1, 9, none⟩ (.int .u8 x8) fun w64 =>
    SetVC w64 ⟨g1, 10, none⟩ (.int .u8 x9) fun w65 =>
    SetVC w65 ⟨g1, 11, none⟩ (.int .u8 x10) fun w66 =>
    SetVC w66 ⟨g1, 12, none⟩ (.int .u8 x111) fun w67 =>
    SetVC w67 ⟨g1, 13, none⟩ (.int .u8 x12) fun w68 =>
    SetVC w68 ⟨g1, 14, none⟩ (.int .u8 x13) fun w69 =>
    SetVC w69 ⟨g1, 15, none⟩ (.int .u8 x14) fun w70 =>
    SetVC w70 ⟨g1, 16, none⟩ (.int .u8 x15) fun w71 =>
    ∃ res02 : Int, ∃ res18 : Int, ∃ res22 : Int, ∃ res32 : Int, ∃ res42 : Int, ∃ res52 : Int, ∃ res62 : Int, ∃ res72 : Int, ∃ res82 : Int, ∃ res92 : Int, ∃ res102 : Int, ∃ res112 : Int, ∃ res122 : Int, ∃ res132 : Int, ∃ res142 : Int, ∃ res152 : Int, ∃ res162 : Int, CellsAt w71 ⟨g1, 0, none⟩ 0 [.int .i64 res02, .int .u8 res18, .int .u8 res22, .int .u8 res32, .int .u8 res42, .int .u8 res52, .int .u8 res62, .int .u8 res72, .int .u8 res82, .int .u8 res92, .int .u8 res102, .int .u8 res112, .int .u8 res122, .int .u8 res132, .int .u8 res142, .int .u8 res152, .int .u8 res162] ∧
  R (.returned (.tuple #[.agg #[.int .i64 res02, .int .u8 res18, .int .u8 res22, .int .u8 res32, .int .u8 res42, .int .u8 res52, .int .u8 res62, .int .u8 res72, .int .u8 res82, .int .u8 res92, .int .u8 res102, .int .u8 res112, .int .u8 res122, .int .u8 res132, .int .u8 res142, .int .u8 res152, .int .u8 res162], .int .i64 0, .int .i64 0])) w71))
      (fun ch1 w20 => R (.panicked ch1) w20)))
    (Calls Tryd.prog 154 #[.string s, .int .i64 0] w19 (onRet (fun r_2 w72 => ∃ (x0A : Option Addr) (x0n x0c : Nat), ∃ x16 : Int, ∃ x22 : Int, r_2 = .tuple #[.slice x0A x0n x0c, .int .i64 x16, .int .i64 x22] ∧
  Br (decide (x16 ≠ 0))
    (SetVC w72 ⟨g1, 0, none⟩ (.int .i64 0) fun w73 =>
    SetVC w73 ⟨g1, 1, none⟩ (.int .u8 0) fun w74 =>
    SetVC w74 ⟨g1, 2, none⟩ (.int .u8 0) fun w75 =>
    SetVC w75 ⟨g1, 3, none⟩ (.int .u8 0) fun w76 =>
    SetVC w76 ⟨g1, 4, none⟩ (.int .u8 0) fun w77 =>
    SetVC w77 ⟨g1, 5, none⟩ (.int .u8 0) fun w78 =>
    SetVC w78 ⟨g1, 6, none⟩ (.int .u8 0) fun w79 =>
    SetVC w79 ⟨g1, 7, none⟩ (.int .u8 0) fun w80 =>
    SetVC w80 ⟨g1, 8, none⟩ (.int .u8 0) fun w81 =>
    SetVC w81 ⟨g1, 9, none⟩ (.int .u8 0) fun w82 =>
    SetVC w82 ⟨g1, 10, none⟩ (.int .u8 0) fun w83 =>
    SetVC w83 ⟨g1, 11, none⟩ (.int .u8 0) fun w84 =>
    SetVC w84 ⟨g1, 12, none⟩ (.int .u8 0) fun w85 =>
    SetVC w85 ⟨g1, 13, none⟩ (.int .u8 0) fun w86 =>
    SetVC w86 ⟨g1, 14, none⟩ (.int .u8 0) fun w87 =>
    SetVC w87 ⟨g1, 15, none⟩ (.int .u8 0) fun w88 =>
    SetVC w88 ⟨g1, 16, none⟩ (.int .u8 0) fun w89 =>
    ∃ res03 : Int, ∃ res19 : Int, ∃ res23 : Int, ∃ res33 : Int, ∃ res43 : Int, ∃ res53 : Int, ∃ res63 : Int, ∃ res73 : Int, ∃ res83 : Int, ∃ res93 : Int, ∃ res103 : Int, ∃ res113 : Int, ∃ res123 : Int, ∃ res133 : Int, ∃ res143 : Int, ∃ res153 : Int, ∃ res163 : Int, CellsAt w89 ⟨g1, 0, none⟩ 0 [.int .i64 res03, .int .u8 res19, .int .u8 res23, .int .u8 res33, .int .u8 res43, .int .u8 res53, .int .u8 res63, .int .u8 res73, .int .u8 res83, .int .u8 res93, .int .u8 res103, .int .u8 res113, .int .u8 res123, .int .u8 res133, .int .u8 res143, .int .u8 res153, .int .u8 res163] ∧
  R (.returned (.tuple #[.agg #[.int .i64 res03, .int .u8 res19, .int .u8 res23, .int .u8 res33, .int .u8 res43, .int .u8 res53, .int .u8 res63, .int .u8 res73, .int .u8 res83, .int .u8 res93, .int .u8 res103, .int .u8 res113, .int .u8 res123, .int .u8 res133, .int .u8 res143, .int .u8 res153, .int .u8 res163], .int .i64 x16, .int .i64 x22])) w89)
    (NewVC w72 (.cells #[.int .i64 0, .int .u8 0, .int .u8 0, .int .u8 0, .int .u8 0, .int .u8 0, .int .u8 0, .int .u8 0, .int .u8 0, .int .u8 0, .int .u8 0, .int .u8 0, .int .u8 0, .int .u8 0, .int .u8 0, .int .u8 0, .int .u8 0] 31) fun g3 w90 =>
  SetVC w90 ⟨g3, 0, none⟩ (.int .i64 4) fun w91 =>
  SetVC w91 ⟨g3, 1, none⟩ (.int .u8 0) fun w92 =>
  SetVC w92 ⟨g3, 2, none⟩ (.int .u8 0) fun w93 =>
  SetVC w93 ⟨g3, 3, none⟩ (.int .u8 0) fun w94 =>
  SetVC w94 ⟨g3, 4, none⟩ (.int .u8 0) fun w95 =>
  SetVC w95 ⟨g3, 5, none⟩ (.int .u8 0) fun w96 =>
  SetVC w96 ⟨g3, 6, none⟩ (.int .u8 0) fun w97 =>
  SetVC w97 ⟨g3, 7, none⟩ (.int .u8 0) fun w98 =>
  SetVC w98 ⟨g3, 8, none⟩ (.int .u8 0) fun w99 =>
  SetVC w99 ⟨g3, 9, none⟩ (.int .u8 0) fun w100 =>
  SetVC w100 ⟨g3, 10, none⟩ (.int .u8 0) fun w101 =>
  SetVC w101 ⟨g3, 11, none⟩ (.int .u8 0) fun w102 =>
  SetVC w102 ⟨g3, 12, none⟩ (.int .u8 0) fun w103 =>
  SetVC w103 ⟨g3, 13, none⟩ (.int .u8 0) fun w104 =>
  SetVC w104 ⟨g3, 14, none⟩ (.int .u8 0) fun w105 =>
  SetVC w105 ⟨g3, 15, none⟩ (.int .u8 0) fun w106 =>
  SetVC w106 ⟨g3, 16, none⟩ (.int .u8 0) fun w107 =>
  LoopVC (S := Int) (fun s_ w108 K1018 => weirref4_ParseIP_L1018 R g1 x0A x0n g3 s_ w108 K1018) 0 w107))
    (fun ch2 w72 => R (.panicked ch2) w72))))
    (fun ch w19 => R (.panicked ch) w19)))
def weirref4_ParseIP_H : Hints := [(1018, [(12, .int .i64)])]
set_option maxRecDepth 100000 in
theorem weirref4_ParseIP_of (s : ByteArray) (w : World) (R : Ending → World → Prop) (h : weirref4_ParseIP_VC s w R) :
    Calls Tryd.prog 138 #[.string s] w R :=
  calls_of_wpc callOk mixedOk (H := weirref4_ParseIP_H) (args := [.string s]) (fn := Tryd.f138) (c := bodyOf Tryd.f138) Tryd.func138 rfl (Nat.le_of_ble_eq_true rfl)
    (Eq.mp (by kernel_rfl : weirref4_ParseIP_VC s w R = wpc Tryd.prog callF Tryd.f138.ntmps weirref4_ParseIP_H 1 (bodyOf Tryd.f138) (argEnv 0 [.string s]) [] w (finish Tryd.prog callF Tryd.f138.results.toList R)) h)

set_option maxRecDepth 100000 in
def weirref4_digit_VC (c : Int) (w : World) (R : Ending → World → Prop) : Prop :=
  Br (decide ((48 : Int) ≤ c))
    (R (.returned (.bool (decide (c ≤ 57)))) w)
    (R (.returned (.bool false)) w)
def weirref4_digit_H : Hints := []
set_option maxRecDepth 100000 in
theorem weirref4_digit_of (c : Int) (w : World) (R : Ending → World → Prop) (h : weirref4_digit_VC c w R) :
    Calls Tryd.prog 139 #[.int .u8 c] w R :=
  calls_of_wpc callOk mixedOk (H := weirref4_digit_H) (args := [.int .u8 c]) (fn := Tryd.f139) (c := bodyOf Tryd.f139) Tryd.func139 rfl (Nat.le_of_ble_eq_true rfl)
    (Eq.mp (by kernel_rfl : weirref4_digit_VC c w R = wpc Tryd.prog callF Tryd.f139.ntmps weirref4_digit_H 1 (bodyOf Tryd.f139) (argEnv 0 [.int .u8 c]) [] w (finish Tryd.prog callF Tryd.f139.results.toList R)) h)

set_option maxRecDepth 100000 in
def weirref4_here_VC (s : ByteArray) (p : Int) (w : World) (R : Ending → World → Prop) : Prop :=
  Br (decide ((s.size : Int) ≤ p))
    (R (.returned (.tuple #[.int .i64 42, .int .i64 (s.size : Int)])) w)
    (R (.returned (.tuple #[.int .i64 41, .int .i64 p])) w)
def weirref4_here_H : Hints := []
set_option maxRecDepth 100000 in
theorem weirref4_here_of (s : ByteArray) (p : Int) (w : World) (R : Ending → World → Prop) (h : weirref4_here_VC s p w R) :
    Calls Tryd.prog 140 #[.string s, .int .i64 p] w R :=
  calls_of_wpc callOk mixedOk (H := weirref4_here_H) (args := [.string s, .int .i64 p]) (fn := Tryd.f140) (c := bodyOf Tryd.f140) Tryd.func140 rfl (Nat.le_of_ble_eq_true rfl)
    (Eq.mp (by kernel_rfl : weirref4_here_VC s p w R = wpc Tryd.prog callF Tryd.f140.ntmps weirref4_here_H 1 (bodyOf Tryd.f140) (argEnv 0 [.string s, .int .i64 p]) [] w (finish Tryd.prog callF Tryd.f140.results.toList R)) h)

set_option maxRecDepth 100000 in
def weirref4_decimal_L122 (R : Ending → World → Prop) (s : ByteArray) (q : Int) (most : Int) (n : Int) (i : Int) (w2 : World) (K122 : (Int × Int → World → Prop)) : Prop :=
  Br (decide (i < q))
    (StrIdxVC s i fun c1 =>
  K122 (IntKind.i64.wrap (IntKind.i64.wrap (10 * n) + IntKind.i64.wrap (IntKind.u8.wrap (c1 - 48))), IntKind.i64.wrap (i + 1)) w2)
    (Br (decide (most < n))
    (R (.returned (.int .i64 (-1))) w2)
    (R (.returned (.int .i64 n)) w2))
set_option maxRecDepth 100000 in
def weirref4_decimal_J3 (R : Ending → World → Prop) (s : ByteArray) (p : Int) (q : Int) (most : Int)  (w1 : World) : Prop :=
  LoopVC (S := Int × Int) (fun s_ w2 K122 => weirref4_decimal_L122 R s q most s_.1 s_.2 w2 K122) (0, p) w1
set_option maxRecDepth 100000 in
def weirref4_decimal_VC (s : ByteArray) (p : Int) (q : Int) (most : Int) (w : World) (R : Ending → World → Prop) : Prop :=
  JoinVC (S := Unit) (fun J3 =>
      Br (decide ((3 : Int) < IntKind.i64.wrap (q - p)))
        (R (.returned (.int .i64 (-1))) w)
        (Br (decide ((1 : Int) < IntKind.i64.wrap (q - p)))
          (StrIdxVC s p fun c =>
          Br (decide (c = 48))
        (R (.returned (.int .i64 (-1))) w)
        (J3 () w))
          (J3 () w)))
    (fun _ w1 => weirref4_decimal_J3 R s p q most w1)
def weirref4_decimal_H : Hints := [(3, []), (122, [(9, .int .i64), (10, .int .i64)])]
set_option maxRecDepth 100000 in
theorem weirref4_decimal_of (s : ByteArray) (p : Int) (q : Int) (most : Int) (w : World) (R : Ending → World → Prop) (h : weirref4_decimal_VC s p q most w R) :
    Calls Tryd.prog 141 #[.string s, .int .i64 p, .int .i64 q, .int .i64 most] w R :=
  calls_of_wpc callOk mixedOk (H := weirref4_decimal_H) (args := [.string s, .int .i64 p, .int .i64 q, .int .i64 most]) (fn := Tryd.f141) (c := bodyOf Tryd.f141) Tryd.func141 rfl (Nat.le_of_ble_eq_true rfl)
    (Eq.mp (by kernel_rfl : weirref4_decimal_VC s p q most w R = wpc Tryd.prog callF Tryd.f141.ntmps weirref4_decimal_H 1 (bodyOf Tryd.f141) (argEnv 0 [.string s, .int .i64 p, .int .i64 q, .int .i64 most]) [] w (finish Tryd.prog callF Tryd.f141.results.toList R)) h)

set_option maxRecDepth 100000 in
def weirref4_width_VC (ip_V : Int) (ip_A0_ : Int) (ip_A1_ : Int) (ip_A2_ : Int) (ip_A3_ : Int) (ip_A4_ : Int) (ip_A5_ : Int) (ip_A6_ : Int) (ip_A7_ : Int) (ip_A8_ : Int) (ip_A9_ : Int) (ip_A10_ : Int) (ip_A11_ : Int) (ip_A12_ : Int) (ip_A13_ : Int) (ip_A14_ : Int) (ip_A15_ : Int) (w : World) (R : Ending → World → Prop) : Prop :=
  NewVC w (.cells #[.int .i64 ip_V, .int .u8 ip_A0_, .int .u8 ip_A1_, .int .u8 ip_A2_, .int .u8 ip_A3_, .int .u8 ip_A4_, .int .u8 ip_A5_, .int .u8 ip_A6_, .int .u8 ip_A7_, .int .u8 ip_A8_, .int .u8 ip_A9_, .int .u8 ip_A10_, .int .u8 ip_A11_, .int .u8 ip_A12_, .int .u8 ip_A13_, .int .u8 ip_A14_, .int .u8 ip_A15_] 31) fun g1 w1 =>
  ∃ x : Int, w1.cell? ⟨g1, 0, none⟩ = some (.int .i64 x) ∧
  Br (decide (x = 4))
    (R (.returned (.int .i64 32)) w1)
    (R (.returned (.int .i64 128)) w1)
def weirref4_width_H : Hints := []
set_option maxRecDepth 100000 in
theorem weirref4_width_of (ip_V : Int) (ip_A0_ : Int) (ip_A1_ : Int) (ip_A2_ : Int) (ip_A3_ : Int) (ip_A4_ : Int) (ip_A5_ : Int) (ip_A6_ : Int) (ip_A7_ : Int) (ip_A8_ : Int) (ip_A9_ : Int) (ip_A10_ : Int) (ip_A11_ : Int) (ip_A12_ : Int) (ip_A13_ : Int) (ip_A14_ : Int) (ip_A15_ : Int) (w : World) (R : Ending → World → Prop) (h : weirref4_width_VC ip_V ip_A0_ ip_A1_ ip_A2_ ip_A3_ ip_A4_ ip_A5_ ip_A6_ ip_A7_ ip_A8_ ip_A9_ ip_A10_ ip_A11_ ip_A12_ ip_A13_ ip_A14_ ip_A15_ w R) :
    Calls Tryd.prog 142 #[.agg #[.int .i64 ip_V, .int .u8 ip_A0_, .int .u8 ip_A1_, .int .u8 ip_A2_, .int .u8 ip_A3_, .int .u8 ip_A4_, .int .u8 ip_A5_, .int .u8 ip_A6_, .int .u8 ip_A7_, .int .u8 ip_A8_, .int .u8 ip_A9_, .int .u8 ip_A10_, .int .u8 ip_A11_, .int .u8 ip_A12_, .int .u8 ip_A13_, .int .u8 ip_A14_, .int .u8 ip_A15_]] w R :=
  calls_of_wpc callOk mixedOk (H := weirref4_width_H) (args := [.agg #[.int .i64 ip_V, .int .u8 ip_A0_, .int .u8 ip_A1_, .int .u8 ip_A2_, .int .u8 ip_A3_, .int .u8 ip_A4_, .int .u8 ip_A5_, .int .u8 ip_A6_, .int .u8 ip_A7_, .int .u8 ip_A8_, .int .u8 ip_A9_, .int .u8 ip_A10_, .int .u8 ip_A11_, .int .u8 ip_A12_, .int .u8 ip_A13_, .int .u8 ip_A14_, .int .u8 ip_A15_]]) (fn := Tryd.f142) (c := bodyOf Tryd.f142) Tryd.func142 rfl (Nat.le_of_ble_eq_true rfl)
    (Eq.mp (by kernel_rfl : weirref4_width_VC ip_V ip_A0_ ip_A1_ ip_A2_ ip_A3_ ip_A4_ ip_A5_ ip_A6_ ip_A7_ ip_A8_ ip_A9_ ip_A10_ ip_A11_ ip_A12_ ip_A13_ ip_A14_ ip_A15_ w R = wpc Tryd.prog callF Tryd.f142.ntmps weirref4_width_H 1 (bodyOf Tryd.f142) (argEnv 0 [.agg #[.int .i64 ip_V, .int .u8 ip_A0_, .int .u8 ip_A1_, .int .u8 ip_A2_, .int .u8 ip_A3_, .int .u8 ip_A4_, .int .u8 ip_A5_, .int .u8 ip_A6_, .int .u8 ip_A7_, .int .u8 ip_A8_, .int .u8 ip_A9_, .int .u8 ip_A10_, .int .u8 ip_A11_, .int .u8 ip_A12_, .int .u8 ip_A13_, .int .u8 ip_A14_, .int .u8 ip_A15_]]) [] w (finish Tryd.prog callF Tryd.f142.results.toList R)) h)

set_option maxRecDepth 100000 in
def weirref4_ValidPrefix_L506 (R : Ending → World → Prop) (g1 : Nat) (x18 : Int) (i : Int) (w4 : World) (K506 : (Int → World → Prop)) : Prop :=
  Br (decide (i < x18))
    (∃ x02 : Int, ∃ x110 : Int, ∃ x23 : Int, ∃ x32 : Int, ∃ x42 : Int, ∃ x52 : Int, ∃ x62 : Int, ∃ x72 : Int, ∃ x82 : Int, ∃ x92 : Int, ∃ x102 : Int, ∃ x112 : Int, ∃ x122 : Int, ∃ x132 : Int, ∃ x142 : Int, ∃ x152 : Int, ∃ x162 : Int, CellsAt w4 ⟨g1, 0, none⟩ 0 [.int .i64 x02, .int .u8 x110, .int .u8 x23, .int .u8 x32, .int .u8 x42, .int .u8 x52, .int .u8 x62, .int .u8 x72, .int .u8 x82, .int .u8 x92, .int .u8 x102, .int .u8 x112, .int .u8 x122, .int .u8 x132, .int .u8 x142, .int .u8 x152, .int .u8 x162] ∧
  Calls Tryd.prog 144 #[.agg #[.int .i64 x02, .int .u8 x110, .int .u8 x23, .int .u8 x32, .int .u8 x42, .int .u8 x52, .int .u8 x62, .int .u8 x72, .int .u8 x82, .int .u8 x92, .int .u8 x102, .int .u8 x112, .int .u8 x122, .int .u8 x132, .int .u8 x142, .int .u8 x152, .int .u8 x162], .int .i64 i] w4 (onRet (fun r_2 w5 => ∃ x24 : Int, r_2 = .int .i64 x24 ∧
  Br (decide (x24 = 1))
    (R (.returned (.int .i64 46)) w5)
    (K506 (IntKind.i64.wrap (i + 1)) w5))
    (fun ch2 w5 => R (.panicked ch2) w5)))
    (R (.returned (.int .i64 0)) w4)
set_option maxRecDepth 100000 in
def weirref4_ValidPrefix_VC (p_IPV : Int) (p_IPA0_ : Int) (p_IPA1_ : Int) (p_IPA2_ : Int) (p_IPA3_ : Int) (p_IPA4_ : Int) (p_IPA5_ : Int) (p_IPA6_ : Int) (p_IPA7_ : Int) (p_IPA8_ : Int) (p_IPA9_ : Int) (p_IPA10_ : Int) (p_IPA11_ : Int) (p_IPA12_ : Int) (p_IPA13_ : Int) (p_IPA14_ : Int) (p_IPA15_ : Int) (p_Len : Int) (w : World) (R : Ending → World → Prop) : Prop :=
  NewVC w (.cells #[.int .i64 p_IPV, .int .u8 p_IPA0_, .int .u8 p_IPA1_, .int .u8 p_IPA2_, .int .u8 p_IPA3_, .int .u8 p_IPA4_, .int .u8 p_IPA5_, .int .u8 p_IPA6_, .int .u8 p_IPA7_, .int .u8 p_IPA8_, .int .u8 p_IPA9_, .int .u8 p_IPA10_, .int .u8 p_IPA11_, .int .u8 p_IPA12_, .int .u8 p_IPA13_, .int .u8 p_IPA14_, .int .u8 p_IPA15_, .int .i64 p_Len] 170) fun g1 w1 =>
  ∃ x0 : Int, ∃ x1 : Int, ∃ x2 : Int, ∃ x3 : Int, ∃ x4 : Int, ∃ x5 : Int, ∃ x6 : Int, ∃ x7 : Int, ∃ x8 : Int, ∃ x9 : Int, ∃ x10 : Int, ∃ x11 : Int, ∃ x12 : Int, ∃ x13 : Int, ∃ x14 : Int, ∃ x15 : Int, ∃ x16 : Int, CellsAt w1 ⟨g1, 0, none⟩ 0 [.int .i64 x0, .int .u8 x1, .int .u8 x2, .int .u8 x3, .int .u8 x4, .int .u8 x5, .int .u8 x6, .int .u8 x7, .int .u8 x8, .int .u8 x9, .int .u8 x10, .int .u8 x11, .int .u8 x12, .int .u8 x13, .int .u8 x14, .int .u8 x15, .int .u8 x16] ∧
  Calls Tryd.prog 103 #[.agg #[.int .i64 x0, .int .u8 x1, .int .u8 x2, .int .u8 x3, .int .u8 x4, .int .u8 x5, .int .u8 x6, .int .u8 x7, .int .u8 x8, .int .u8 x9, .int .u8 x10, .int .u8 x11, .int .u8 x12, .int .u8 x13, .int .u8 x14, .int .u8 x15, .int .u8 x16]] w1 (onRet (fun r_ w2 => ∃ x : Bool, r_ = .bool x ∧
  Br (!x)
    (R (.returned (.int .i64 40)) w2)
    (∃ x01 : Int, ∃ x17 : Int, ∃ x21 : Int, ∃ x31 : Int, ∃ x41 : Int, ∃ x51 : Int, ∃ x61 : Int, ∃ x71 : Int, ∃ x81 : Int, ∃ x91 : Int, ∃ x101 : Int, ∃ x111 : Int, ∃ x121 : Int, ∃ x131 : Int, ∃ x141 : Int, ∃ x151 : Int, ∃ x161 : Int, CellsAt w2 ⟨g1, 0, none⟩ 0 [.int .i64 x01, .int .u8 x17, .int .u8 x21, .int .u8 x31, .int .u8 x41, .int .u8 x51, .int .u8 x61, .int .u8 x71, .int .u8 x81, .int .u8 x91, .int .u8 x101, .int .u8 x111, .int .u8 x121, .int .u8 x131, .int .u8 x141, .int .u8 x151, .int .u8 x161] ∧
  Calls Tryd.prog 142 #[.agg #[.int .i64 x01, .int .u8 x17, .int .u8 x21, .int .u8 x31, .int .u8 x41, .int .u8 x51, .int .u8 x61, .int .u8 x71, .int .u8 x81, .int .u8 x91, .int .u8 x101, .int .u8 x111, .int .u8 x121, .int .u8 x131, .int .u8 x141, .int .u8 x151, .int .u8 x161]] w2 (onRet (fun r_1 w3 => ∃ x18 : Int, r_1 = .int .i64 x18 ∧
  ∃ x19 : Int, w3.cell? ⟨g1, 17, none⟩ = some (.int .i64 x19) ∧
  Br (decide (x19 < 0))
    (R (.returned (.int .i64 45)) w3)
    (∃ x20 : Int, w3.cell? ⟨g1, 17, none⟩ = some (.int .i64 x20) ∧
    Br (decide (x18 < x20))
    (R (.returned (.int .i64 45)) w3)
    (∃ x22 : Int, w3.cell? ⟨g1, 17, none⟩ = some (.int .i64 x22) ∧
  LoopVC (S := Int) (fun s_ w4 K506 => weirref4_ValidPrefix_L506 R g1 x18 s_ w4 K506) x22 w3)))
    (fun ch1 w3 => R (.panicked ch1) w3))))
    (fun ch w2 => R (.panicked ch) w2))
def weirref4_ValidPrefix_H : Hints := [(506, [(5, .int .i64)])]
set_option maxRecDepth 100000 in
theorem weirref4_ValidPrefix_of (p_IPV : Int) (p_IPA0_ : Int) (p_IPA1_ : Int) (p_IPA2_ : Int) (p_IPA3_ : Int) (p_IPA4_ : Int) (p_IPA5_ : Int) (p_IPA6_ : Int) (p_IPA7_ : Int) (p_IPA8_ : Int) (p_IPA9_ : Int) (p_IPA10_ : Int) (p_IPA11_ : Int) (p_IPA12_ : Int) (p_IPA13_ : Int) (p_IPA14_ : Int) (p_IPA15_ : Int) (p_Len : Int) (w : World) (R : Ending → World → Prop) (h : weirref4_ValidPrefix_VC p_IPV p_IPA0_ p_IPA1_ p_IPA2_ p_IPA3_ p_IPA4_ p_IPA5_ p_IPA6_ p_IPA7_ p_IPA8_ p_IPA9_ p_IPA10_ p_IPA11_ p_IPA12_ p_IPA13_ p_IPA14_ p_IPA15_ p_Len w R) :
    Calls Tryd.prog 143 #[.agg #[.int .i64 p_IPV, .int .u8 p_IPA0_, .int .u8 p_IPA1_, .int .u8 p_IPA2_, .int .u8 p_IPA3_, .int .u8 p_IPA4_, .int .u8 p_IPA5_, .int .u8 p_IPA6_, .int .u8 p_IPA7_, .int .u8 p_IPA8_, .int .u8 p_IPA9_, .int .u8 p_IPA10_, .int .u8 p_IPA11_, .int .u8 p_IPA12_, .int .u8 p_IPA13_, .int .u8 p_IPA14_, .int .u8 p_IPA15_, .int .i64 p_Len]] w R :=
  calls_of_wpc callOk mixedOk (H := weirref4_ValidPrefix_H) (args := [.agg #[.int .i64 p_IPV, .int .u8 p_IPA0_, .int .u8 p_IPA1_, .int .u8 p_IPA2_, .int .u8 p_IPA3_, .int .u8 p_IPA4_, .int .u8 p_IPA5_, .int .u8 p_IPA6_, .int .u8 p_IPA7_, .int .u8 p_IPA8_, .int .u8 p_IPA9_, .int .u8 p_IPA10_, .int .u8 p_IPA11_, .int .u8 p_IPA12_, .int .u8 p_IPA13_, .int .u8 p_IPA14_, .int .u8 p_IPA15_, .int .i64 p_Len]]) (fn := Tryd.f143) (c := bodyOf Tryd.f143) Tryd.func143 rfl (Nat.le_of_ble_eq_true rfl)
    (Eq.mp (by kernel_rfl : weirref4_ValidPrefix_VC p_IPV p_IPA0_ p_IPA1_ p_IPA2_ p_IPA3_ p_IPA4_ p_IPA5_ p_IPA6_ p_IPA7_ p_IPA8_ p_IPA9_ p_IPA10_ p_IPA11_ p_IPA12_ p_IPA13_ p_IPA14_ p_IPA15_ p_Len w R = wpc Tryd.prog callF Tryd.f143.ntmps weirref4_ValidPrefix_H 1 (bodyOf Tryd.f143) (argEnv 0 [.agg #[.int .i64 p_IPV, .int .u8 p_IPA0_, .int .u8 p_IPA1_, .int .u8 p_IPA2_, .int .u8 p_IPA3_, .int .u8 p_IPA4_, .int .u8 p_IPA5_, .int .u8 p_IPA6_, .int .u8 p_IPA7_, .int .u8 p_IPA8_, .int .u8 p_IPA9_, .int .u8 p_IPA10_, .int .u8 p_IPA11_, .int .u8 p_IPA12_, .int .u8 p_IPA13_, .int .u8 p_IPA14_, .int .u8 p_IPA15_, .int .i64 p_Len]]) [] w (finish Tryd.prog callF Tryd.f143.results.toList R)) h)

set_option maxRecDepth 100000 in
def weirref4_bit_L58 (R : Ending → World → Prop)  (c : Int) (k : Int) (w2 : World) (K58 : (Int × Int → World → Prop)) : Prop :=
  Br (decide (k < 7))
    (K58 (IntKind.i64.wrap (Int.tdiv c 2), IntKind.i64.wrap (k + 1)) w2)
    (R (.returned (.int .i64 (Int.tmod c 2))) w2)
set_option maxRecDepth 100000 in
def weirref4_bit_VC (ip_V : Int) (ip_A0_ : Int) (ip_A1_ : Int) (ip_A2_ : Int) (ip_A3_ : Int) (ip_A4_ : Int) (ip_A5_ : Int) (ip_A6_ : Int) (ip_A7_ : Int) (ip_A8_ : Int) (ip_A9_ : Int) (ip_A10_ : Int) (ip_A11_ : Int) (ip_A12_ : Int) (ip_A13_ : Int) (ip_A14_ : Int) (ip_A15_ : Int) (i : Int) (w : World) (R : Ending → World → Prop) : Prop :=
  NewVC w (.cells #[.int .i64 ip_V, .int .u8 ip_A0_, .int .u8 ip_A1_, .int .u8 ip_A2_, .int .u8 ip_A3_, .int .u8 ip_A4_, .int .u8 ip_A5_, .int .u8 ip_A6_, .int .u8 ip_A7_, .int .u8 ip_A8_, .int .u8 ip_A9_, .int .u8 ip_A10_, .int .u8 ip_A11_, .int .u8 ip_A12_, .int .u8 ip_A13_, .int .u8 ip_A14_, .int .u8 ip_A15_] 31) fun g1 w1 =>
  IdxVC (some ⟨g1, 1, none⟩) 16 1 (IntKind.i64.wrap (Int.tdiv i 8)) fun a =>
  ∃ x : Int, w1.cell? a = some (.int .u8 x) ∧
  LoopVC (S := Int × Int) (fun s_ w2 K58 => weirref4_bit_L58 R s_.1 s_.2 w2 K58) (IntKind.i64.wrap x, Int.tmod i 8) w1
def weirref4_bit_H : Hints := [(58, [(5, .int .i64), (6, .int .i64)])]
set_option maxRecDepth 100000 in
theorem weirref4_bit_of (ip_V : Int) (ip_A0_ : Int) (ip_A1_ : Int) (ip_A2_ : Int) (ip_A3_ : Int) (ip_A4_ : Int) (ip_A5_ : Int) (ip_A6_ : Int) (ip_A7_ : Int) (ip_A8_ : Int) (ip_A9_ : Int) (ip_A10_ : Int) (ip_A11_ : Int) (ip_A12_ : Int) (ip_A13_ : Int) (ip_A14_ : Int) (ip_A15_ : Int) (i : Int) (w : World) (R : Ending → World → Prop) (h : weirref4_bit_VC ip_V ip_A0_ ip_A1_ ip_A2_ ip_A3_ ip_A4_ ip_A5_ ip_A6_ ip_A7_ ip_A8_ ip_A9_ ip_A10_ ip_A11_ ip_A12_ ip_A13_ ip_A14_ ip_A15_ i w R) :
    Calls Tryd.prog 144 #[.agg #[.int .i64 ip_V, .int .u8 ip_A0_, .int .u8 ip_A1_, .int .u8 ip_A2_, .int .u8 ip_A3_, .int .u8 ip_A4_, .int .u8 ip_A5_, .int .u8 ip_A6_, .int .u8 ip_A7_, .int .u8 ip_A8_, .int .u8 ip_A9_, .int .u8 ip_A10_, .int .u8 ip_A11_, .int .u8 ip_A12_, .int .u8 ip_A13_, .int .u8 ip_A14_, .int .u8 ip_A15_], .int .i64 i] w R :=
  calls_of_wpc callOk mixedOk (H := weirref4_bit_H) (args := [.agg #[.int .i64 ip_V, .int .u8 ip_A0_, .int .u8 ip_A1_, .int .u8 ip_A2_, .int .u8 ip_A3_, .int .u8 ip_A4_, .int .u8 ip_A5_, .int .u8 ip_A6_, .int .u8 ip_A7_, .int .u8 ip_A8_, .int .u8 ip_A9_, .int .u8 ip_A10_, .int .u8 ip_A11_, .int .u8 ip_A12_, .int .u8 ip_A13_, .int .u8 ip_A14_, .int .u8 ip_A15_], .int .i64 i]) (fn := Tryd.f144) (c := bodyOf Tryd.f144) Tryd.func144 rfl (Nat.le_of_ble_eq_true rfl)
    (Eq.mp (by kernel_rfl : weirref4_bit_VC ip_V ip_A0_ ip_A1_ ip_A2_ ip_A3_ ip_A4_ ip_A5_ ip_A6_ ip_A7_ ip_A8_ ip_A9_ ip_A10_ ip_A11_ ip_A12_ ip_A13_ ip_A14_ ip_A15_ i w R = wpc Tryd.prog callF Tryd.f144.ntmps weirref4_bit_H 1 (bodyOf Tryd.f144) (argEnv 0 [.agg #[.int .i64 ip_V, .int .u8 ip_A0_, .int .u8 ip_A1_, .int .u8 ip_A2_, .int .u8 ip_A3_, .int .u8 ip_A4_, .int .u8 ip_A5_, .int .u8 ip_A6_, .int .u8 ip_A7_, .int .u8 ip_A8_, .int .u8 ip_A9_, .int .u8 ip_A10_, .int .u8 ip_A11_, .int .u8 ip_A12_, .int .u8 ip_A13_, .int .u8 ip_A14_, .int .u8 ip_A15_], .int .i64 i]) [] w (finish Tryd.prog callF Tryd.f144.results.toList R)) h)

set_option maxRecDepth 100000 in
def weirref4_has_L26 (R : Ending → World → Prop) (s : ByteArray) (c : Int) (i : Int) (w1 : World) (K26 : (Int → World → Prop)) : Prop :=
  Br (decide (i < (s.size : Int)))
    (StrIdxVC s i fun c1 =>
  Br (decide (c1 = c))
    (R (.returned (.bool true)) w1)
    (K26 (IntKind.i64.wrap (i + 1)) w1))
    (R (.returned (.bool false)) w1)
set_option maxRecDepth 100000 in
def weirref4_has_VC (s : ByteArray) (c : Int) (w : World) (R : Ending → World → Prop) : Prop :=
  LoopVC (S := Int) (fun s_ w1 K26 => weirref4_has_L26 R s c s_ w1 K26) 0 w
def weirref4_has_H : Hints := [(26, [(5, .int .i64)])]
set_option maxRecDepth 100000 in
theorem weirref4_has_of (s : ByteArray) (c : Int) (w : World) (R : Ending → World → Prop) (h : weirref4_has_VC s c w R) :
    Calls Tryd.prog 152 #[.string s, .int .u8 c] w R :=
  calls_of_wpc callOk mixedOk (H := weirref4_has_H) (args := [.string s, .int .u8 c]) (fn := Tryd.f152) (c := bodyOf Tryd.f152) Tryd.func152 rfl (Nat.le_of_ble_eq_true rfl)
    (Eq.mp (by kernel_rfl : weirref4_has_VC s c w R = wpc Tryd.prog callF Tryd.f152.ntmps weirref4_has_H 1 (bodyOf Tryd.f152) (argEnv 0 [.string s, .int .u8 c]) [] w (finish Tryd.prog callF Tryd.f152.results.toList R)) h)

set_option maxRecDepth 100000 in
def weirref4_sixes_J8133 (R : Ending → World → Prop) (g3 : Nat) (K508 : (Bool → World → Prop)) (x2 : Bool) (t45_ : Bool) (w10 : World) : Prop :=
  Br t45_
    (Calls Tryd.prog 159 #[.pointer (some ⟨g3, 0, none⟩)] w10 (onRet (fun r_2 w11 => ∃ x4 : Bool, r_2 = .bool x4 ∧
    K508 x4 w11)
      (fun ch2 w11 => R (.panicked ch2) w11)))
    (K508 x2 w10)
set_option maxRecDepth 100000 in
def weirref4_sixes_L508 (R : Ending → World → Prop) (g3 : Nat) (J127 : (Unit → World → Prop)) (done1 : Bool) (w8 : World) (K508 : (Bool → World → Prop)) : Prop :=
  Br (!done1)
    (NilVC (some ⟨g3, 0, none⟩) fun p2 =>
    ∃ x1 : Int, w8.cell? (p2.add 4) = some (.int .i64 x1) ∧
    Br (decide (x1 = 0))
    (Calls Tryd.prog 158 #[.pointer (some ⟨g3, 0, none⟩)] w8 (onRet (fun r_1 w9 => ∃ x2 : Bool, r_1 = .bool x2 ∧
  JoinVC (S := Bool) (fun J8133 =>
      Br (!x2)
        (NilVC (some ⟨g3, 0, none⟩) fun p3 =>
        ∃ x3 : Int, w9.cell? (p3.add 4) = some (.int .i64 x3) ∧
        J8133 (decide (x3 = 0)) w9)
        (J8133 false w9))
    (fun s_ w10 => weirref4_sixes_J8133 R g3 K508 x2 s_ w10))
    (fun ch1 w9 => R (.panicked ch1) w9)))
    (J127 () w8))
    (J127 () w8)
set_option maxRecDepth 100000 in
def weirref4_sixes_J510 (R : Ending → World → Prop) (s : ByteArray) (g3 : Nat) (J255 : (Unit → World → Prop)) (t67_ : Bool) (w13 : World) : Prop :=
  Br t67_
    (Calls Tryd.prog 160 #[.pointer (some ⟨g3, 0, none⟩), .int .i64 42, .int .i64 (s.size : Int)] w13 (onRet (fun r_3 w14 => r_3 = .tuple #[] ∧
    J255 () w14)
      (fun ch3 w14 => R (.panicked ch3) w14)))
    (J255 () w13)
set_option maxRecDepth 100000 in
def weirref4_sixes_J261961 (g2 : Nat) (g3 : Nat) (i : Int) (K8186 : (Int → World → Prop)) (k : Int) (w34 : World) : Prop :=
  NilVC (some ⟨g3, 0, none⟩) fun p14 =>
  ∃ (xA3 : Option Addr) (xn3 xc3 : Nat), w34.cell? (p14.add 1) = some (.slice xA3 xn3 xc3) ∧
  IdxVC xA3 xn3 1 i fun a =>
  ∃ x20 : Int, w34.cell? a = some (.int .i64 x20) ∧
  IdxVC (some ⟨g2, 0, none⟩) 16 1 (IntKind.i64.wrap (2 * k)) fun a1 =>
  SetVC w34 a1 (.int .u8 (IntKind.u8.wrap (IntKind.i64.wrap (Int.tdiv x20 256)))) fun w35 =>
  NilVC (some ⟨g3, 0, none⟩) fun p15 =>
  ∃ (xA4 : Option Addr) (xn4 xc4 : Nat), w35.cell? (p15.add 1) = some (.slice xA4 xn4 xc4) ∧
  IdxVC xA4 xn4 1 i fun a2 =>
  ∃ x22 : Int, w35.cell? a2 = some (.int .i64 x22) ∧
  IdxVC (some ⟨g2, 0, none⟩) 16 1 (IntKind.i64.wrap (IntKind.i64.wrap (2 * k) + 1)) fun a3 =>
  SetVC w35 a3 (.int .u8 (IntKind.u8.wrap (Int.tmod x22 256))) fun w36 =>
  K8186 (IntKind.i64.wrap (i + 1)) w36
set_option maxRecDepth 100000 in
def weirref4_sixes_L8186 (R : Ending → World → Prop) (g1 : Nat) (g2 : Nat) (g3 : Nat) (i : Int) (w33 : World) (K8186 : (Int → World → Prop)) : Prop :=
  NilVC (some ⟨g3, 0, none⟩) fun p10 =>
  ∃ (xA1 : Option Addr) (xn1 xc1 : Nat), w33.cell? (p10.add 1) = some (.slice xA1 xn1 xc1) ∧
  Br (decide (i < (xn1 : Int)))
    (JoinVC (S := Int) (fun J261961 =>
      NilVC (some ⟨g3, 0, none⟩) fun p11 =>
      ∃ x18 : Int, w33.cell? (p11.add 2) = some (.int .i64 x18) ∧
      Br (decide ((0 : Int) ≤ x18))
        (NilVC (some ⟨g3, 0, none⟩) fun p12 =>
        ∃ x19 : Int, w33.cell? (p12.add 2) = some (.int .i64 x19) ∧
        Br (decide (x19 ≤ i))
        (NilVC (some ⟨g3, 0, none⟩) fun p13 =>
        ∃ (xA2 : Option Addr) (xn2 xc2 : Nat), w33.cell? (p13.add 1) = some (.slice xA2 xn2 xc2) ∧
        J261961 (IntKind.i64.wrap (IntKind.i64.wrap (8 - (xn2 : Int)) + i)) w33)
        (J261961 i w33))
        (J261961 i w33))
    (fun s_ w34 => weirref4_sixes_J261961 g2 g3 i K8186 s_ w34))
    (∃ x01 : Int, ∃ x110 : Int, ∃ x23 : Int, ∃ x32 : Int, ∃ x42 : Int, ∃ x52 : Int, ∃ x62 : Int, ∃ x72 : Int, ∃ x81 : Int, ∃ x91 : Int, ∃ x101 : Int, ∃ x112 : Int, ∃ x121 : Int, ∃ x131 : Int, ∃ x141 : Int, ∃ x151 : Int, CellsAt w33 ⟨g2, 0, none⟩ 0 [.int .u8 x01, .int .u8 x110, .int .u8 x23, .int .u8 x32, .int .u8 x42, .int .u8 x52, .int .u8 x62, .int .u8 x72, .int .u8 x81, .int .u8 x91, .int .u8 x101, .int .u8 x112, .int .u8 x121, .int .u8 x131, .int .u8 x141, .int .u8 x151] ∧
  SetVC w33 ⟨g1, 0, none⟩ (.int .u8 x01) fun w37 =>
  SetVC w37 ⟨g1, 1, none⟩ (.int .u8 x110) fun w38 =>
  SetVC w38 ⟨g1, 2, none⟩ (.int .u8 x23) fun w39 =>
  SetVC w39 ⟨g1, 3, none⟩ (.int .u8 x32) fun w40 =>
  SetVC w40 ⟨g1, 4, none⟩ (.int .u8 x42) fun w41 =>
  SetVC w41 ⟨g1, 5, none⟩ (.int .u8 x52) fun w42 =>
  SetVC w42 ⟨g1, 6, none⟩ (.int .u8 x62) fun w43 =>
  SetVC w43 ⟨g1, 7, none⟩ (.int .u8 x72) fun w44 =>
  SetVC w44 ⟨g1, 8, none⟩ (.int .u8 x81) fun w45 =>
  SetVC w45 ⟨g1, 9, none⟩ (.int .u8 x91) fun w46 =>
  SetVC w46 ⟨g1, 10, none⟩ (.int .u8 x101) fun w47 =>
  SetVC w47 ⟨g1, 11, none⟩ (.int .u8 x112) fun w48 =>
  SetVC w48 ⟨g1, 12, none⟩ (.int .u8 x121) fun w49 =>
  SetVC w49 ⟨g1, 13, none⟩ (.int .u8 x131) fun w50 =>
  SetVC w50 ⟨g1, 14, none⟩ (.int .u8 x141) fun w51 =>
  SetVC w51 ⟨g1, 15, none⟩ (.int .u8 x151) fun w52 =>
  ∃ res01 : Int, ∃ res16 : Int, ∃ res21 : Int, ∃ res31 : Int, ∃ res41 : Int, ∃ res51 : Int, ∃ res61 : Int, ∃ res71 : Int, ∃ res81 : Int, ∃ res91 : Int, ∃ res101 : Int, ∃ res111 : Int, ∃ res121 : Int, ∃ res131 : Int, ∃ res141 : Int, ∃ res151 : Int, CellsAt w52 ⟨g1, 0, none⟩ 0 [.int .u8 res01, .int .u8 res16, .int .u8 res21, .int .u8 res31, .int .u8 res41, .int .u8 res51, .int .u8 res61, .int .u8 res71, .int .u8 res81, .int .u8 res91, .int .u8 res101, .int .u8 res111, .int .u8 res121, .int .u8 res131, .int .u8 res141, .int .u8 res151] ∧
  R (.returned (.tuple #[.agg #[.int .u8 res01, .int .u8 res16, .int .u8 res21, .int .u8 res31, .int .u8 res41, .int .u8 res51, .int .u8 res61, .int .u8 res71, .int .u8 res81, .int .u8 res91, .int .u8 res101, .int .u8 res111, .int .u8 res121, .int .u8 res131, .int .u8 res141, .int .u8 res151], .int .i64 0, .int .i64 0])) w52)
set_option maxRecDepth 100000 in
def weirref4_sixes_J255 (R : Ending → World → Prop) (g1 : Nat) (g2 : Nat) (g3 : Nat)  (w15 : World) : Prop :=
  NilVC (some ⟨g3, 0, none⟩) fun p7 =>
  ∃ x7 : Int, w15.cell? (p7.add 4) = some (.int .i64 x7) ∧
  Br (decide (x7 ≠ 0))
    (DrawVC w15 fun S1 w16 =>
    ∃ x0 : Int, ∃ x11 : Int, ∃ x21 : Int, ∃ x31 : Int, ∃ x41 : Int, ∃ x51 : Int, ∃ x61 : Int, ∃ x71 : Int, ∃ x8 : Int, ∃ x9 : Int, ∃ x10 : Int, ∃ x111 : Int, ∃ x12 : Int, ∃ x13 : Int, ∃ x14 : Int, ∃ x15 : Int, (∀ w' : World, S1 w' → CellsAt w' ⟨g2, 0, none⟩ 0 [.int .u8 x0, .int .u8 x11, .int .u8 x21, .int .u8 x31, .int .u8 x41, .int .u8 x51, .int .u8 x61, .int .u8 x71, .int .u8 x8, .int .u8 x9, .int .u8 x10, .int .u8 x111, .int .u8 x12, .int .u8 x13, .int .u8 x14, .int .u8 x15]) ∧
    NilVC (some ⟨g3, 0, none⟩) fun p8 =>
    ∃ x16 : Int, (∀ w' : World, S1 w' → w'.cell? (p8.add 4) = some (.int .i64 x16)) ∧
    NilVC (some ⟨g3, 0, none⟩) fun p9 =>
    ∃ x17 : Int, (∀ w' : World, S1 w' → w'.cell? (p9.add 5) = some (.int .i64 x17)) ∧
    SetVC w16 ⟨g1, 0, none⟩ (.int .u8 x0) fun w17 =>
    SetVC w17 ⟨g1, 1, none⟩ (.int .u8 x11) fun w18 =>
    SetVC w18 ⟨g1, 2, none⟩ (.int .u8 x21) fun w19 =>
    SetVC w19 ⟨g1, 3, none⟩ (.int .u8 x31) fun w20 =>
    SetVC w20 ⟨g1, 4, none⟩ (.int .u8 x41) fun w21 =>
    SetVC w21 ⟨g1, 5, none⟩ (.int .u8 x51) fun w22 =>
    SetVC w22 ⟨g1, 6, none⟩ (.int .u8 x61) fun w23 =>
    SetVC w23 ⟨g1, 7, none⟩ (.int .u8 x71) fun w24 =>
    SetVC w24 ⟨g1, 8, none⟩ (.int .u8 x8) fun w25 =>
    SetVC w25 ⟨g1, 9, none⟩ (.int .u8 x9) fun w26 =>
    SetVC w26 ⟨g1, 10, none⟩ (.int .u8 x10) fun w27 =>
    SetVC w27 ⟨g1, 11, none⟩ (.int .u8 x111) fun w28 =>
    SetVC w28 ⟨g1, 12, none⟩ (.int .u8 x12) fun w29 =>
    SetVC w29 ⟨g1, 13, none⟩ (.int .u8 x13) fun w30 =>
    SetVC w30 ⟨g1, 14, none⟩ (.int .u8 x14) fun w31 =>
    SetVC w31 ⟨g1, 15, none⟩ (.int .u8 x15) fun w32 =>
    S1 w32 ∧
    ∃ res0 : Int, ∃ res1 : Int, ∃ res2 : Int, ∃ res3 : Int, ∃ res4 : Int, ∃ res5 : Int, ∃ res6 : Int, ∃ res7 : Int, ∃ res8 : Int, ∃ res9 : Int, ∃ res10 : Int, ∃ res11 : Int, ∃ res12 : Int, ∃ res13 : Int, ∃ res14 : Int, ∃ res15 : Int, CellsAt w32 ⟨g1, 0, none⟩ 0 [.int .u8 res0, .int .u8 res1, .int .u8 res2, .int .u8 res3, .int .u8 res4, .int .u8 res5, .int .u8 res6, .int .u8 res7, .int .u8 res8, .int .u8 res9, .int .u8 res10, .int .u8 res11, .int .u8 res12, .int .u8 res13, .int .u8 res14, .int .u8 res15] ∧
  R (.returned (.tuple #[.agg #[.int .u8 res0, .int .u8 res1, .int .u8 res2, .int .u8 res3, .int .u8 res4, .int .u8 res5, .int .u8 res6, .int .u8 res7, .int .u8 res8, .int .u8 res9, .int .u8 res10, .int .u8 res11, .int .u8 res12, .int .u8 res13, .int .u8 res14, .int .u8 res15], .int .i64 x16, .int .i64 x17])) w32)
    (LoopVC (S := Int) (fun s_ w33 K8186 => weirref4_sixes_L8186 R g1 g2 g3 s_ w33 K8186) 0 w15)
set_option maxRecDepth 100000 in
def weirref4_sixes_J127 (R : Ending → World → Prop) (s : ByteArray) (g1 : Nat) (g2 : Nat) (g3 : Nat)  (w12 : World) : Prop :=
  JoinVC (S := Unit) (fun J255 =>
      JoinVC (S := Bool) (fun J510 =>
          NilVC (some ⟨g3, 0, none⟩) fun p4 =>
          ∃ x5 : Int, w12.cell? (p4.add 4) = some (.int .i64 x5) ∧
          Br (decide (x5 = 0))
            (NilVC (some ⟨g3, 0, none⟩) fun p5 =>
            ∃ x6 : Int, w12.cell? (p5.add 2) = some (.int .i64 x6) ∧
            Br (decide (x6 < 0))
              (NilVC (some ⟨g3, 0, none⟩) fun p6 =>
              ∃ (xA : Option Addr) (xn xc : Nat), w12.cell? (p6.add 1) = some (.slice xA xn xc) ∧
              J510 (decide ((xn : Int) < 8)) w12)
              (J510 false w12))
            (J510 false w12))
        (fun s_ w13 => weirref4_sixes_J510 R s g3 J255 s_ w13))
    (fun _ w15 => weirref4_sixes_J255 R g1 g2 g3 w15)
set_option maxRecDepth 100000 in
def weirref4_sixes_J63 (R : Ending → World → Prop) (s : ByteArray) (g1 : Nat) (g2 : Nat) (g3 : Nat) (done : Bool) (w7 : World) : Prop :=
  JoinVC (S := Unit) (fun J127 =>
      LoopVC (S := Bool) (fun s_ w8 K508 => weirref4_sixes_L508 R g3 J127 s_ w8 K508) done w7)
    (fun _ w12 => weirref4_sixes_J127 R s g1 g2 g3 w12)
set_option maxRecDepth 100000 in
def weirref4_sixes_VC (s : ByteArray) (w : World) (R : Ending → World → Prop) : Prop :=
  NewVC w (.cells #[.int .u8 0, .int .u8 0, .int .u8 0, .int .u8 0, .int .u8 0, .int .u8 0, .int .u8 0, .int .u8 0, .int .u8 0, .int .u8 0, .int .u8 0, .int .u8 0, .int .u8 0, .int .u8 0, .int .u8 0, .int .u8 0] 29) fun g1 w1 =>
  NewVC w1 (.cells #[.int .u8 0, .int .u8 0, .int .u8 0, .int .u8 0, .int .u8 0, .int .u8 0, .int .u8 0, .int .u8 0, .int .u8 0, .int .u8 0, .int .u8 0, .int .u8 0, .int .u8 0, .int .u8 0, .int .u8 0, .int .u8 0] 29) fun g2 w2 =>
  NewVC w2 (.cells #[.string s, .slice none 0 0, .int .i64 (-1), .int .i64 0, .int .i64 0, .int .i64 0] 203) fun g3 w3 =>
  Calls Tryd.prog 157 #[.string s, .int .i64 0] w3 (onRet (fun r_ w4 => ∃ x : Bool, r_ = .bool x ∧
  JoinVC (S := Bool) (fun J63 =>
      Br x
        (NilVC (some ⟨g3, 0, none⟩) fun p =>
        SetVC w4 (p.add 2) (.int .i64 0) fun w5 =>
        NilVC (some ⟨g3, 0, none⟩) fun p1 =>
        SetVC w5 (p1.add 3) (.int .i64 2) fun w6 =>
        J63 (decide ((s.size : Int) = 2)) w6)
        (J63 false w4))
    (fun s_ w7 => weirref4_sixes_J63 R s g1 g2 g3 s_ w7))
    (fun ch w4 => R (.panicked ch) w4))
def weirref4_sixes_H : Hints := [(63, [(7, .bool)]), (508, [(7, .bool)]), (8133, [(45, .bool)]), (127, []), (510, [(67, .bool)]), (255, []), (8186, [(9, .int .i64)]), (261961, [(10, .int .i64)])]
set_option maxRecDepth 100000 in
theorem weirref4_sixes_of (s : ByteArray) (w : World) (R : Ending → World → Prop) (h : weirref4_sixes_VC s w R) :
    Calls Tryd.prog 153 #[.string s] w R :=
  calls_of_wpc callOk mixedOk (H := weirref4_sixes_H) (args := [.string s]) (fn := Tryd.f153) (c := bodyOf Tryd.f153) Tryd.func153 rfl (Nat.le_of_ble_eq_true rfl)
    (Eq.mp (by kernel_rfl : weirref4_sixes_VC s w R = wpc Tryd.prog callF Tryd.f153.ntmps weirref4_sixes_H 1 (bodyOf Tryd.f153) (argEnv 0 [.string s]) [] w (finish Tryd.prog callF Tryd.f153.results.toList R)) h)

set_option maxRecDepth 100000 in
def weirref4_dotted_L1812 (R : Ending → World → Prop) (s : ByteArray) (J453 : (Int → World → Prop)) (q1 : Int) (w2 : World) (K1812 : (Int → World → Prop)) : Prop :=
  Br (decide (q1 < (s.size : Int)))
    (StrIdxVC s q1 fun c =>
    Calls Tryd.prog 139 #[.int .u8 c] w2 (onRet (fun r_ w3 => ∃ x : Bool, r_ = .bool x ∧
    Br x
    (K1812 (IntKind.i64.wrap (q1 + 1)) w3)
    (J453 q1 w3))
      (fun ch w3 => R (.panicked ch) w3)))
    (J453 q1 w2)
set_option maxRecDepth 100000 in
def weirref4_dotted_J232444 (R : Ending → World → Prop) (s : ByteArray) (K28 : (Int × (Option Addr × Nat × Nat) → World → Prop)) (q : Int) (lA1 : Option Addr) (ln1 : Nat) (lc1 : Nat) (t66_ : Bool) (w9 : World) : Prop :=
  Br t66_
    (Calls Tryd.prog 140 #[.string s, .int .i64 q] w9 (onRet (fun r_3 w10 => ∃ x01 : Int, ∃ x11 : Int, r_3 = .tuple #[.int .i64 x01, .int .i64 x11] ∧
    R (.returned (.tuple #[.slice none 0 0, .int .i64 x01, .int .i64 x11])) w10)
      (fun ch3 w10 => R (.panicked ch3) w10)))
    (K28 (IntKind.i64.wrap (q + 1), (lA1, ln1, lc1)) w9)
set_option maxRecDepth 100000 in
def weirref4_dotted_J453 (R : Ending → World → Prop) (s : ByteArray) (p1 : Int) (lA : Option Addr) (ln : Nat) (lc : Nat) (K28 : (Int × (Option Addr × Nat × Nat) → World → Prop)) (q : Int) (w4 : World) : Prop :=
  Br (decide (q = p1))
    (Calls Tryd.prog 140 #[.string s, .int .i64 p1] w4 (onRet (fun r_1 w5 => ∃ x0 : Int, ∃ x1 : Int, r_1 = .tuple #[.int .i64 x0, .int .i64 x1] ∧
    R (.returned (.tuple #[.slice none 0 0, .int .i64 x0, .int .i64 x1])) w5)
      (fun ch1 w5 => R (.panicked ch1) w5)))
    (Calls Tryd.prog 141 #[.string s, .int .i64 p1, .int .i64 q, .int .i64 255] w4 (onRet (fun r_2 w6 => ∃ x2 : Int, r_2 = .int .i64 x2 ∧
  Br (decide (x2 < 0))
    (R (.returned (.tuple #[.slice none 0 0, .int .i64 43, .int .i64 p1])) w6)
    (NewVC w6 (.cells #[.int .u8 (IntKind.u8.wrap x2)] 5) fun g1 w7 =>
  AppVC Tryd.prog #[22, 22] 22 (.slice lA ln lc) (.slice (some ⟨g1, 0, none⟩) 1 1) w7 fun lA1 ln1 lc1 w8 =>
  Br (decide ((ln1 : Int) < 4))
    (JoinVC (S := Bool) (fun J232444 =>
        Br (decide ((s.size : Int) ≤ q))
          (J232444 true w8)
          (StrIdxVC s q fun c1 =>
          J232444 (decide (c1 ≠ 46)) w8))
      (fun s_ w9 => weirref4_dotted_J232444 R s K28 q lA1 ln1 lc1 s_ w9))
    (K28 (q, (lA1, ln1, lc1)) w8)))
    (fun ch2 w6 => R (.panicked ch2) w6)))
set_option maxRecDepth 100000 in
def weirref4_dotted_L28 (R : Ending → World → Prop) (s : ByteArray) (p1 : Int) (lA : Option Addr) (ln : Nat) (lc : Nat) (w1 : World) (K28 : (Int × (Option Addr × Nat × Nat) → World → Prop)) : Prop :=
  Br (decide ((ln : Int) < 4))
    (JoinVC (S := Int) (fun J453 =>
      LoopVC (S := Int) (fun s_ w2 K1812 => weirref4_dotted_L1812 R s J453 s_ w2 K1812) p1 w1)
    (fun s_ w4 => weirref4_dotted_J453 R s p1 lA ln lc K28 s_ w4))
    (Br (decide (p1 < (s.size : Int)))
    (R (.returned (.tuple #[.slice none 0 0, .int .i64 41, .int .i64 p1])) w1)
    (R (.returned (.tuple #[.slice lA ln lc, .int .i64 0, .int .i64 0])) w1))
set_option maxRecDepth 100000 in
def weirref4_dotted_VC (s : ByteArray) (p : Int) (w : World) (R : Ending → World → Prop) : Prop :=
  LoopVC (S := Int × (Option Addr × Nat × Nat)) (fun s_ w1 K28 => weirref4_dotted_L28 R s s_.1 s_.2.1 s_.2.2.1 s_.2.2.2 w1 K28) (p, (none, 0, 0)) w
def weirref4_dotted_H : Hints := [(28, [(1, .int .i64), (7, .slice)]), (1812, [(8, .int .i64)]), (453, [(8, .int .i64)]), (232444, [(66, .bool)])]
set_option maxRecDepth 100000 in
theorem weirref4_dotted_of (s : ByteArray) (p : Int) (w : World) (R : Ending → World → Prop) (h : weirref4_dotted_VC s p w R) :
    Calls Tryd.prog 154 #[.string s, .int .i64 p] w R :=
  calls_of_wpc callOk mixedOk (H := weirref4_dotted_H) (args := [.string s, .int .i64 p]) (fn := Tryd.f154) (c := bodyOf Tryd.f154) Tryd.func154 rfl (Nat.le_of_ble_eq_true rfl)
    (Eq.mp (by kernel_rfl : weirref4_dotted_VC s p w R = wpc Tryd.prog callF Tryd.f154.ntmps weirref4_dotted_H 1 (bodyOf Tryd.f154) (argEnv 0 [.string s, .int .i64 p]) [] w (finish Tryd.prog callF Tryd.f154.results.toList R)) h)

set_option maxRecDepth 100000 in
def weirref4_two_VC (s : ByteArray) (p : Int) (w : World) (R : Ending → World → Prop) : Prop :=
  Br (decide (IntKind.i64.wrap (p + 1) < (s.size : Int)))
    (StrIdxVC s p fun c =>
    Br (decide (c = 58))
      (StrIdxVC s (IntKind.i64.wrap (p + 1)) fun c1 =>
      R (.returned (.bool (decide (c1 = 58)))) w)
      (R (.returned (.bool false)) w))
    (R (.returned (.bool false)) w)
def weirref4_two_H : Hints := []
set_option maxRecDepth 100000 in
theorem weirref4_two_of (s : ByteArray) (p : Int) (w : World) (R : Ending → World → Prop) (h : weirref4_two_VC s p w R) :
    Calls Tryd.prog 157 #[.string s, .int .i64 p] w R :=
  calls_of_wpc callOk mixedOk (H := weirref4_two_H) (args := [.string s, .int .i64 p]) (fn := Tryd.f157) (c := bodyOf Tryd.f157) Tryd.func157 rfl (Nat.le_of_ble_eq_true rfl)
    (Eq.mp (by kernel_rfl : weirref4_two_VC s p w R = wpc Tryd.prog callF Tryd.f157.ntmps weirref4_two_H 1 (bodyOf Tryd.f157) (argEnv 0 [.string s, .int .i64 p]) [] w (finish Tryd.prog callF Tryd.f157.results.toList R)) h)

set_option maxRecDepth 100000 in
def weirref4_six_group_L60 (R : Ending → World → Prop) (r : Option Addr) (J15 : (Int × Int → World → Prop)) (q1 : Int) (n1 : Int) (w1 : World) (K60 : (Int × Int → World → Prop)) : Prop :=
  NilVC r fun p1 =>
  ∃ x1 : ByteArray, w1.cell? p1 = some (.string x1) ∧
  Br (decide (q1 < (x1.size : Int)))
    (NilVC r fun p2 =>
    ∃ x2 : ByteArray, w1.cell? p2 = some (.string x2) ∧
    StrIdxVC x2 q1 fun c =>
    Calls Tryd.prog 164 #[.int .u8 c] w1 (onRet (fun r_ w2 => ∃ x3 : Int, r_ = .int .i64 x3 ∧
    Br (decide ((0 : Int) ≤ x3))
    (NilVC r fun p3 =>
  ∃ x4 : Int, w2.cell? (p3.add 3) = some (.int .i64 x4) ∧
  Br (decide (IntKind.i64.wrap (q1 - x4) < 4))
    (NilVC r fun p4 =>
    ∃ x5 : ByteArray, w2.cell? p4 = some (.string x5) ∧
    StrIdxVC x5 q1 fun c1 =>
    Calls Tryd.prog 164 #[.int .u8 c1] w2 (onRet (fun r_1 w3 => ∃ x6 : Int, r_1 = .int .i64 x6 ∧
    K60 (IntKind.i64.wrap (q1 + 1), IntKind.i64.wrap (IntKind.i64.wrap (16 * n1) + x6)) w3)
      (fun ch1 w3 => R (.panicked ch1) w3)))
    (K60 (IntKind.i64.wrap (q1 + 1), n1) w2))
    (J15 (q1, n1) w2))
      (fun ch w2 => R (.panicked ch) w2)))
    (J15 (q1, n1) w1)
set_option maxRecDepth 100000 in
def weirref4_six_group_J255 (R : Ending → World → Prop) (r : Option Addr) (q : Int) (n : Int) (tail : Bool) (more : Int) (w9 : World) : Prop :=
  DrawVC w9 fun S2 w10 =>
  NilVC r fun p11 =>
  ∃ (xA : Option Addr) (xn xc : Nat), (∀ w' : World, S2 w' → w'.cell? (p11.add 1) = some (.slice xA xn xc)) ∧
  Calls Tryd.prog 165 #[.pointer r] w10 (onRet (fun r_4 w11 => ∃ x14 : Int, r_4 = .int .i64 x14 ∧
  S2 w11 ∧
  Br (decide (x14 < IntKind.i64.wrap ((xn : Int) + more)))
    (NilVC r fun p12 =>
    ∃ x15 : Int, w11.cell? (p12.add 3) = some (.int .i64 x15) ∧
    Calls Tryd.prog 160 #[.pointer r, .int .i64 44, .int .i64 x15] w11 (onRet (fun r_5 w12 => r_5 = .tuple #[] ∧
    R (.returned (.bool true)) w12)
      (fun ch5 w12 => R (.panicked ch5) w12)))
    (Br tail
    (DrawVC w11 fun S3 w13 =>
    NilVC r fun p13 =>
    ∃ x16 : ByteArray, (∀ w' : World, S3 w' → w'.cell? p13 = some (.string x16)) ∧
    NilVC r fun p14 =>
    ∃ x17 : Int, (∀ w' : World, S3 w' → w'.cell? (p14.add 3) = some (.int .i64 x17)) ∧
    Calls Tryd.prog 154 #[.string x16, .int .i64 x17] w13 (onRet (fun r_6 w14 => ∃ (x0A : Option Addr) (x0n x0c : Nat), ∃ x18 : Int, ∃ x21 : Int, r_6 = .tuple #[.slice x0A x0n x0c, .int .i64 x18, .int .i64 x21] ∧
    S3 w14 ∧
    Br (decide (x18 ≠ 0))
      (Calls Tryd.prog 160 #[.pointer r, .int .i64 x18, .int .i64 x21] w14 (onRet (fun r_7 w15 => r_7 = .tuple #[] ∧
      R (.returned (.bool true)) w15)
        (fun ch7 w15 => R (.panicked ch7) w15)))
      (DrawVC w14 fun S4 w16 =>
    NilVC r fun p15 =>
    ∃ (xA1 : Option Addr) (xn1 xc1 : Nat), (∀ w' : World, S4 w' → w'.cell? (p15.add 1) = some (.slice xA1 xn1 xc1)) ∧
    IdxVC x0A x0n 1 0 fun a =>
    ∃ x19 : Int, (∀ w' : World, S4 w' → w'.cell? a = some (.int .u8 x19)) ∧
    IdxVC x0A x0n 1 1 fun a1 =>
    ∃ x20 : Int, (∀ w' : World, S4 w' → w'.cell? a1 = some (.int .u8 x20)) ∧
    IdxVC x0A x0n 1 2 fun a2 =>
    ∃ x22 : Int, (∀ w' : World, S4 w' → w'.cell? a2 = some (.int .u8 x22)) ∧
    IdxVC x0A x0n 1 3 fun a3 =>
    ∃ x23 : Int, (∀ w' : World, S4 w' → w'.cell? a3 = some (.int .u8 x23)) ∧
    NewVC w16 (.cells #[.int .i64 (IntKind.i64.wrap (IntKind.i64.wrap (256 * IntKind.i64.wrap x19) + IntKind.i64.wrap x20)), .int .i64 (IntKind.i64.wrap (IntKind.i64.wrap (256 * IntKind.i64.wrap x22) + IntKind.i64.wrap x23))] 3) fun g1 w17 =>
    S4 w17 ∧
    AppVC Tryd.prog #[108, 108] 108 (.slice xA1 xn1 xc1) (.slice (some ⟨g1, 0, none⟩) 2 2) w17 fun lA ln lc w18 =>
    S4 w18 ∧
    NilVC r fun p16 =>
    SetVC w18 (p16.add 1) (.slice lA ln lc) fun w19 =>
    NilVC r fun p17 =>
    ∃ x24 : ByteArray, w19.cell? p17 = some (.string x24) ∧
    NilVC r fun p18 =>
    SetVC w19 (p18.add 3) (.int .i64 (x24.size : Int)) fun w20 =>
    R (.returned (.bool true)) w20))
      (fun _ _ => False)))
    (NilVC r fun p19 =>
  ∃ x25 : Int, w11.cell? (p19.add 3) = some (.int .i64 x25) ∧
  Br (decide ((4 : Int) < IntKind.i64.wrap (q - x25)))
    (NilVC r fun p20 =>
    ∃ x26 : Int, w11.cell? (p20.add 3) = some (.int .i64 x26) ∧
    Calls Tryd.prog 160 #[.pointer r, .int .i64 43, .int .i64 x26] w11 (onRet (fun r_8 w21 => r_8 = .tuple #[] ∧
    R (.returned (.bool true)) w21)
      (fun ch8 w21 => R (.panicked ch8) w21)))
    (NilVC r fun p21 =>
  ∃ (xA2 : Option Addr) (xn2 xc2 : Nat), w11.cell? (p21.add 1) = some (.slice xA2 xn2 xc2) ∧
  NewVC w11 (.cells #[.int .i64 n] 3) fun g2 w22 =>
  AppVC Tryd.prog #[108, 108] 108 (.slice xA2 xn2 xc2) (.slice (some ⟨g2, 0, none⟩) 1 1) w22 fun lA1 ln1 lc1 w23 =>
  NilVC r fun p22 =>
  SetVC w23 (p22.add 1) (.slice lA1 ln1 lc1) fun w24 =>
  NilVC r fun p23 =>
  SetVC w24 (p23.add 3) (.int .i64 q) fun w25 =>
  NilVC r fun p24 =>
  ∃ x27 : ByteArray, w25.cell? p24 = some (.string x27) ∧
  R (.returned (.bool (decide (q = (x27.size : Int))))) w25))))
    (fun _ _ => False))
set_option maxRecDepth 100000 in
def weirref4_six_group_J63 (R : Ending → World → Prop) (r : Option Addr) (q : Int) (n : Int) (tail : Bool) (w8 : World) : Prop :=
  JoinVC (S := Int) (fun J255 =>
      Br tail
        (J255 2 w8)
        (J255 1 w8))
    (fun s_ w9 => weirref4_six_group_J255 R r q n tail s_ w9)
set_option maxRecDepth 100000 in
def weirref4_six_group_J15 (R : Ending → World → Prop) (r : Option Addr) (q : Int) (n : Int) (w4 : World) : Prop :=
  NilVC r fun p5 =>
  ∃ x7 : Int, w4.cell? (p5.add 3) = some (.int .i64 x7) ∧
  Br (decide (q = x7))
    (DrawVC w4 fun S1 w5 =>
    NilVC r fun p6 =>
    ∃ x8 : ByteArray, (∀ w' : World, S1 w' → w'.cell? p6 = some (.string x8)) ∧
    NilVC r fun p7 =>
    ∃ x9 : Int, (∀ w' : World, S1 w' → w'.cell? (p7.add 3) = some (.int .i64 x9)) ∧
    Calls Tryd.prog 140 #[.string x8, .int .i64 x9] w5 (onRet (fun r_2 w6 => ∃ x0 : Int, ∃ x11 : Int, r_2 = .tuple #[.int .i64 x0, .int .i64 x11] ∧
    S1 w6 ∧
    Calls Tryd.prog 160 #[.pointer r, .int .i64 x0, .int .i64 x11] w6 (onRet (fun r_3 w7 => r_3 = .tuple #[] ∧
    R (.returned (.bool true)) w7)
      (fun ch3 w7 => R (.panicked ch3) w7)))
      (fun _ _ => False)))
    (JoinVC (S := Bool) (fun J63 =>
      NilVC r fun p8 =>
      ∃ x10 : ByteArray, w4.cell? p8 = some (.string x10) ∧
      Br (decide (q < (x10.size : Int)))
        (NilVC r fun p9 =>
        ∃ x12 : ByteArray, w4.cell? p9 = some (.string x12) ∧
        StrIdxVC x12 q fun c2 =>
        Br (decide (c2 = 46))
          (NilVC r fun p10 =>
          ∃ x13 : Int, w4.cell? (p10.add 3) = some (.int .i64 x13) ∧
          J63 (decide ((0 : Int) < x13)) w4)
          (J63 false w4))
        (J63 false w4))
    (fun s_ w8 => weirref4_six_group_J63 R r q n s_ w8))
set_option maxRecDepth 100000 in
def weirref4_six_group_VC (r : Option Addr) (w : World) (R : Ending → World → Prop) : Prop :=
  NilVC r fun p =>
  ∃ x : Int, w.cell? (p.add 3) = some (.int .i64 x) ∧
  JoinVC (S := Int × Int) (fun J15 =>
      LoopVC (S := Int × Int) (fun s_ w1 K60 => weirref4_six_group_L60 R r J15 s_.1 s_.2 w1 K60) (x, 0) w)
    (fun s_ w4 => weirref4_six_group_J15 R r s_.1 s_.2 w4)
def weirref4_six_group_H : Hints := [(60, [(3, .int .i64), (4, .int .i64)]), (15, [(3, .int .i64), (4, .int .i64)]), (63, [(7, .bool)]), (255, [(8, .int .i64)])]
set_option maxRecDepth 100000 in
theorem weirref4_six_group_of (r : Option Addr) (w : World) (R : Ending → World → Prop) (h : weirref4_six_group_VC r w R) :
    Calls Tryd.prog 158 #[.pointer r] w R :=
  calls_of_wpc callOk mixedOk (H := weirref4_six_group_H) (args := [.pointer r]) (fn := Tryd.f158) (c := bodyOf Tryd.f158) Tryd.func158 rfl (Nat.le_of_ble_eq_true rfl)
    (Eq.mp (by kernel_rfl : weirref4_six_group_VC r w R = wpc Tryd.prog callF Tryd.f158.ntmps weirref4_six_group_H 1 (bodyOf Tryd.f158) (argEnv 0 [.pointer r]) [] w (finish Tryd.prog callF Tryd.f158.results.toList R)) h)

set_option maxRecDepth 100000 in
def weirref4_six_between_J28 (R : Ending → World → Prop) (r : Option Addr) (x2 : Bool) (t19_ : Bool) (w3 : World) : Prop :=
  Br t19_
    (NilVC r fun p4 =>
    ∃ x4 : Int, w3.cell? (p4.add 3) = some (.int .i64 x4) ∧
    Calls Tryd.prog 160 #[.pointer r, .int .i64 44, .int .i64 x4] w3 (onRet (fun r_1 w4 => r_1 = .tuple #[] ∧
    R (.returned (.bool false)) w4)
      (fun ch1 w4 => R (.panicked ch1) w4)))
    (Br x2
      (NilVC r fun p5 =>
      ∃ (xA1 : Option Addr) (xn1 xc1 : Nat), w3.cell? (p5.add 1) = some (.slice xA1 xn1 xc1) ∧
      NilVC r fun p6 =>
      SetVC w3 (p6.add 2) (.int .i64 (xn1 : Int)) fun w5 =>
      NilVC r fun p7 =>
      ∃ x5 : Int, w5.cell? (p7.add 3) = some (.int .i64 x5) ∧
      NilVC r fun p8 =>
      SetVC w5 (p8.add 3) (.int .i64 (IntKind.i64.wrap (x5 + 2))) fun w6 =>
      DrawVC w6 fun S2 w7 =>
      NilVC r fun p9 =>
      ∃ x6 : Int, (∀ w' : World, S2 w' → w'.cell? (p9.add 3) = some (.int .i64 x6)) ∧
      NilVC r fun p10 =>
      ∃ x7 : ByteArray, (∀ w' : World, S2 w' → w'.cell? p10 = some (.string x7)) ∧
      R (.returned (.bool (decide (x6 = (x7.size : Int))))) w7)
      (DrawVC w3 fun S3 w8 =>
      NilVC r fun p11 =>
      ∃ x8 : ByteArray, (∀ w' : World, S3 w' → w'.cell? p11 = some (.string x8)) ∧
      NilVC r fun p12 =>
      ∃ x9 : Int, (∀ w' : World, S3 w' → w'.cell? (p12.add 3) = some (.int .i64 x9)) ∧
      StrIdxVC x8 x9 fun c =>
      Br (decide (c = 58))
        (NilVC r fun p13 =>
        ∃ x10 : Int, w8.cell? (p13.add 3) = some (.int .i64 x10) ∧
        NilVC r fun p14 =>
        SetVC w8 (p14.add 3) (.int .i64 (IntKind.i64.wrap (x10 + 1))) fun w9 =>
        R (.returned (.bool false)) w9)
        (NilVC r fun p15 =>
        ∃ x11 : Int, w8.cell? (p15.add 3) = some (.int .i64 x11) ∧
        Calls Tryd.prog 160 #[.pointer r, .int .i64 41, .int .i64 x11] w8 (onRet (fun r_2 w10 => r_2 = .tuple #[] ∧
        R (.returned (.bool false)) w10)
          (fun ch2 w10 => R (.panicked ch2) w10)))))
set_option maxRecDepth 100000 in
def weirref4_six_between_VC (r : Option Addr) (w : World) (R : Ending → World → Prop) : Prop :=
  DrawVC w fun S1 w1 =>
  NilVC r fun p =>
  ∃ x : ByteArray, (∀ w' : World, S1 w' → w'.cell? p = some (.string x)) ∧
  NilVC r fun p1 =>
  ∃ x1 : Int, (∀ w' : World, S1 w' → w'.cell? (p1.add 3) = some (.int .i64 x1)) ∧
  Calls Tryd.prog 157 #[.string x, .int .i64 x1] w1 (onRet (fun r_ w2 => ∃ x2 : Bool, r_ = .bool x2 ∧
  S1 w2 ∧
  JoinVC (S := Bool) (fun J28 =>
      Br x2
        (NilVC r fun p2 =>
        ∃ x3 : Int, w2.cell? (p2.add 2) = some (.int .i64 x3) ∧
        Br (decide ((0 : Int) ≤ x3))
          (J28 true w2)
          (NilVC r fun p3 =>
          ∃ (xA : Option Addr) (xn xc : Nat), w2.cell? (p3.add 1) = some (.slice xA xn xc) ∧
          J28 (decide ((xn : Int) = 8)) w2))
        (J28 false w2))
    (fun s_ w3 => weirref4_six_between_J28 R r x2 s_ w3))
    (fun _ _ => False))
def weirref4_six_between_H : Hints := [(28, [(19, .bool)])]
set_option maxRecDepth 100000 in
theorem weirref4_six_between_of (r : Option Addr) (w : World) (R : Ending → World → Prop) (h : weirref4_six_between_VC r w R) :
    Calls Tryd.prog 159 #[.pointer r] w R :=
  calls_of_wpc callOk mixedOk (H := weirref4_six_between_H) (args := [.pointer r]) (fn := Tryd.f159) (c := bodyOf Tryd.f159) Tryd.func159 rfl (Nat.le_of_ble_eq_true rfl)
    (Eq.mp (by kernel_rfl : weirref4_six_between_VC r w R = wpc Tryd.prog callF Tryd.f159.ntmps weirref4_six_between_H 1 (bodyOf Tryd.f159) (argEnv 0 [.pointer r]) [] w (finish Tryd.prog callF Tryd.f159.results.toList R)) h)

set_option maxRecDepth 100000 in
def weirref4_worth_J7 (R : Ending → World → Prop) (c : Int)  (w2 : World) : Prop :=
  Br (decide ((65 : Int) ≤ c))
    (Br (decide (c ≤ 70))
    (R (.returned (.int .i64 (IntKind.i64.wrap (IntKind.i64.wrap (IntKind.u8.wrap (c - 65)) + 10)))) w2)
    (R (.returned (.int .i64 (-1))) w2))
    (R (.returned (.int .i64 (-1))) w2)
set_option maxRecDepth 100000 in
def weirref4_worth_VC (c : Int) (w : World) (R : Ending → World → Prop) : Prop :=
  Calls Tryd.prog 139 #[.int .u8 c] w (onRet (fun r_ w1 => ∃ x : Bool, r_ = .bool x ∧
  Br x
    (R (.returned (.int .i64 (IntKind.i64.wrap (IntKind.u8.wrap (c - 48))))) w1)
    (JoinVC (S := Unit) (fun J7 =>
      Br (decide ((97 : Int) ≤ c))
        (Br (decide (c ≤ 102))
        (R (.returned (.int .i64 (IntKind.i64.wrap (IntKind.i64.wrap (IntKind.u8.wrap (c - 97)) + 10)))) w1)
        (J7 () w1))
        (J7 () w1))
    (fun _ w2 => weirref4_worth_J7 R c w2)))
    (fun ch w1 => R (.panicked ch) w1))
def weirref4_worth_H : Hints := [(7, [])]
set_option maxRecDepth 100000 in
theorem weirref4_worth_of (c : Int) (w : World) (R : Ending → World → Prop) (h : weirref4_worth_VC c w R) :
    Calls Tryd.prog 164 #[.int .u8 c] w R :=
  calls_of_wpc callOk mixedOk (H := weirref4_worth_H) (args := [.int .u8 c]) (fn := Tryd.f164) (c := bodyOf Tryd.f164) Tryd.func164 rfl (Nat.le_of_ble_eq_true rfl)
    (Eq.mp (by kernel_rfl : weirref4_worth_VC c w R = wpc Tryd.prog callF Tryd.f164.ntmps weirref4_worth_H 1 (bodyOf Tryd.f164) (argEnv 0 [.int .u8 c]) [] w (finish Tryd.prog callF Tryd.f164.results.toList R)) h)

set_option maxRecDepth 100000 in
def weirref4_six_room_VC (r : Option Addr) (w : World) (R : Ending → World → Prop) : Prop :=
  NilVC r fun p =>
  ∃ x : Int, w.cell? (p.add 2) = some (.int .i64 x) ∧
  Br (decide ((0 : Int) ≤ x))
    (R (.returned (.int .i64 7)) w)
    (R (.returned (.int .i64 8)) w)
def weirref4_six_room_H : Hints := []
set_option maxRecDepth 100000 in
theorem weirref4_six_room_of (r : Option Addr) (w : World) (R : Ending → World → Prop) (h : weirref4_six_room_VC r w R) :
    Calls Tryd.prog 165 #[.pointer r] w R :=
  calls_of_wpc callOk mixedOk (H := weirref4_six_room_H) (args := [.pointer r]) (fn := Tryd.f165) (c := bodyOf Tryd.f165) Tryd.func165 rfl (Nat.le_of_ble_eq_true rfl)
    (Eq.mp (by kernel_rfl : weirref4_six_room_VC r w R = wpc Tryd.prog callF Tryd.f165.ntmps weirref4_six_room_H 1 (bodyOf Tryd.f165) (argEnv 0 [.pointer r]) [] w (finish Tryd.prog callF Tryd.f165.results.toList R)) h)
end Nd
end Go.Proofs.YtjngdcilnipjcaaDoor
/- Layer 4's Class (the program's): Valid, the masks, the table of nets. -/
namespace Go.Eng
open Go Go.RowKit
def setsVC (g : Nat) : Nat → List Value → World → (World → Prop) → Prop
  | _, [], w, K => K w
  | i, v :: vs, w, K => SetVC w ⟨g, i, none⟩ v fun w1 => setsVC g (i + 1) vs w1 K
/-- A block of sixteen cells is written from end to end. -/
theorem setAll {g : Nat} {t : TypeId} : ∀ (vs : List Value) (i : Nat) (w : World) (cs : List Value) (K : World → Prop), Blk w g t cs → i + vs.length = cs.length →
    (∀ w', w'.heap.size = w.heap.size → Mod (fun k => k = g) w w' → Blk w' g t (cs.take i ++ vs) → K w') → setsVC g i vs w K
  | [], i, w, cs, K, hb, hl, h => h w rfl (Mod.refl _ _) (by simp at hl; rw [List.append_nil, List.take_of_length_le (by omega)]; exact hb)
  | v :: vs, i, w, cs, K, hb, hl, h => by
    unfold setsVC
    have hl' : i + (vs.length + 1) = cs.length := by simpa using hl
    refine SetVC.blk hb (by omega) fun w1 z1 m1 h1 => ?_
    refine setAll vs (i + 1) w1 _ K h1 (by simp; omega) fun w2 z2 m2 h2 => h w2 (by omega) (m1.trans m2) ?_
    have e : (cs.set i v).take (i + 1) ++ vs = cs.take i ++ v :: vs := by
      rw [List.take_succ_eq_append_getElem (by simp; omega)]
      simp [List.take_set_of_le]
    rw [← e]; exact h2
def IPV.arr (p : IPV) : Value := .agg #[.int .u8 p.a0, .int .u8 p.a1, .int .u8 p.a2, .int .u8 p.a3, .int .u8 p.a4, .int .u8 p.a5, .int .u8 p.a6, .int .u8 p.a7, .int .u8 p.a8, .int .u8 p.a9, .int .u8 p.a10, .int .u8 p.a11, .int .u8 p.a12, .int .u8 p.a13, .int .u8 p.a14, .int .u8 p.a15]
def IPV.row (p : IPV) : List Value := [.int .u8 p.a0, .int .u8 p.a1, .int .u8 p.a2, .int .u8 p.a3, .int .u8 p.a4, .int .u8 p.a5, .int .u8 p.a6, .int .u8 p.a7, .int .u8 p.a8, .int .u8 p.a9, .int .u8 p.a10, .int .u8 p.a11, .int .u8 p.a12, .int .u8 p.a13, .int .u8 p.a14, .int .u8 p.a15]
/-- The first n bits of the i-th byte. -/
def maskB (a n i : Int) : Int := bitv .and .u8 a (IntKind.u8.wrap (Int.fdiv 65280 (2 ^ (min ((IntKind.u64.wrap (if (if 0 < IntKind.i64.wrap (n - IntKind.i64.wrap (8 * i)) then IntKind.i64.wrap (n - IntKind.i64.wrap (8 * i)) else 0) < 8 then (if 0 < IntKind.i64.wrap (n - IntKind.i64.wrap (8 * i)) then IntKind.i64.wrap (n - IntKind.i64.wrap (8 * i)) else 0) else 8)).toNat) 64))))
def maskS (p : IPV) (n : Int) : IPV := ⟨p.v, maskB p.a0 n 0, maskB p.a1 n 1, maskB p.a2 n 2, maskB p.a3 n 3, maskB p.a4 n 4, maskB p.a5 n 5, maskB p.a6 n 6, maskB p.a7 n 7, maskB p.a8 n 8, maskB p.a9 n 9, maskB p.a10 n 10, maskB p.a11 n 11, maskB p.a12 n 12, maskB p.a13 n 13, maskB p.a14 n 14, maskB p.a15 n 15⟩
def sameA (p q : IPV) : Bool := ((decide (p.a0 = q.a0)) && ((decide (p.a1 = q.a1)) && ((decide (p.a2 = q.a2)) && ((decide (p.a3 = q.a3)) && ((decide (p.a4 = q.a4)) && ((decide (p.a5 = q.a5)) && ((decide (p.a6 = q.a6)) && ((decide (p.a7 = q.a7)) && ((decide (p.a8 = q.a8)) && ((decide (p.a9 = q.a9)) && ((decide (p.a10 = q.a10)) && ((decide (p.a11 = q.a11)) && ((decide (p.a12 = q.a12)) && ((decide (p.a13 = q.a13)) && ((decide (p.a14 = q.a14)) && ((decide (p.a15 = q.a15)) && true))))))))))))))))
structure NetV where
  p : IPV
  b : Int
  c : Int
def NetV.cells (n : NetV) : List Value := [.int .i64 n.p.v, .int .u8 n.p.a0, .int .u8 n.p.a1, .int .u8 n.p.a2, .int .u8 n.p.a3, .int .u8 n.p.a4, .int .u8 n.p.a5, .int .u8 n.p.a6, .int .u8 n.p.a7, .int .u8 n.p.a8, .int .u8 n.p.a9, .int .u8 n.p.a10, .int .u8 n.p.a11, .int .u8 n.p.a12, .int .u8 n.p.a13, .int .u8 n.p.a14, .int .u8 n.p.a15, .int .i64 n.b, .int .i64 n.c]
def netsV : List NetV := [⟨⟨4, 0, 0, 0, 0, 0, 0, 0, 0, 0, 0, 0, 0, 0, 0, 0, 0⟩, 32, 1⟩,
  ⟨⟨6, 0, 0, 0, 0, 0, 0, 0, 0, 0, 0, 0, 0, 0, 0, 0, 0⟩, 128, 1⟩,
  ⟨⟨4, 127, 0, 0, 0, 0, 0, 0, 0, 0, 0, 0, 0, 0, 0, 0, 0⟩, 8, 2⟩,
  ⟨⟨6, 0, 0, 0, 0, 0, 0, 0, 0, 0, 0, 0, 0, 0, 0, 0, 1⟩, 128, 2⟩,
  ⟨⟨4, 224, 0, 0, 0, 0, 0, 0, 0, 0, 0, 0, 0, 0, 0, 0, 0⟩, 4, 3⟩,
  ⟨⟨6, 255, 0, 0, 0, 0, 0, 0, 0, 0, 0, 0, 0, 0, 0, 0, 0⟩, 8, 3⟩,
  ⟨⟨4, 169, 254, 0, 0, 0, 0, 0, 0, 0, 0, 0, 0, 0, 0, 0, 0⟩, 16, 4⟩,
  ⟨⟨6, 254, 128, 0, 0, 0, 0, 0, 0, 0, 0, 0, 0, 0, 0, 0, 0⟩, 10, 4⟩,
  ⟨⟨4, 255, 255, 255, 255, 0, 0, 0, 0, 0, 0, 0, 0, 0, 0, 0, 0⟩, 32, 5⟩,
  ⟨⟨4, 0, 0, 0, 0, 0, 0, 0, 0, 0, 0, 0, 0, 0, 0, 0, 0⟩, 8, 6⟩,
  ⟨⟨4, 240, 0, 0, 0, 0, 0, 0, 0, 0, 0, 0, 0, 0, 0, 0, 0⟩, 4, 6⟩,
  ⟨⟨6, 0, 0, 0, 0, 0, 0, 0, 0, 0, 0, 0, 0, 0, 0, 0, 0⟩, 8, 6⟩]
/-- What the table's memory reads. -/
def netsL : List Value := [.int .i64 4, .int .u8 0, .int .u8 0, .int .u8 0, .int .u8 0, .int .u8 0, .int .u8 0, .int .u8 0, .int .u8 0, .int .u8 0, .int .u8 0, .int .u8 0, .int .u8 0, .int .u8 0, .int .u8 0, .int .u8 0, .int .u8 0, .int .i64 32, .int .i64 1, .int .i64 6, .int .u8 0, .int .u8 0, .int .u8 0, .int .u8 0, .int .u8 0, .int .u8 0, .int .u8 0, .int .u8 0, .int .u8 0, .int .u8 0, .int .u8 0, .int .u8 0, .int .u8 0, .int .u8 0, .int .u8 0, .int .u8 0, .int .i64 128, .int .i64 1, .int .i64 4, .int .u8 127, .int .u8 0, .int .u8 0, .int .u8 0, .int .u8 0, .int .u8 0, .int .u8 0, .int .u8 0, .int .u8 0, .int .u8 0, .int .u8 0, .int .u8 0, .int .u8 0, .int .u8 0, .int .u8 0, .int .u8 0, .int .i64 8, .int .i64 2, .int .i64 6, .int .u8 0, .int .u8 0, .int .u8 0, .int .u8 0, .int .u8 0, .int .u8 0, .int .u8 0, .int .u8 0, .int .u8 0, .int .u8 0, .int .u8 0, .int .u8 0, .int .u8 0, .int .u8 0, .int .u8 0, .int .u8 1, .int .i64 128, .int .i64 2, .int .i64 4, .int .u8 224, .int .u8 0, .int .u8 0, .int .u8 0, .int .u8 0, .int .u8 0, .int .u8 0, .int .u8 0, .int .u8 0, .int .u8 0, .int .u8 0, .int .u8 0, .int .u8 0, .int .u8 0, .int .u8 0, .int .u8 0, .int .i64 4, .int .i64 3, .int .i64 6, .int .u8 255, .int .u8 0, .int .u8 0, .int .u8 0, .int .u8 0, .int .u8 0, .int .u8 0, .int .u8 0, .int .u8 0, .int .u8 0, .int .u8 0, .int .u8 0, .int .u8 0, .int .u8 0, .int .u8 0, .int .u8 0, .int .i64 8, .int .i64 3, .int .i64 4, .int .u8 169, .int .u8 254, .int .u8 0, .int .u8 0, .int .u8 0, .int .u8 0, .int .u8 0, .int .u8 0, .int .u8 0, .int .u8 0, .int .u8 0, .int .u8 0, .int .u8 0, .int .u8 0, .int .u8 0, .int .u8 0, .int .i64 16, .int .i64 4, .int .i64 6, .int .u8 254, .int .u8 128, .int .u8 0, .int .u8 0, .int .u8 0, .int .u8 0, .int .u8 0, .int .u8 0, .int .u8 0, .int .u8 0, .int .u8 0, .int .u8 0, .int .u8 0, .int .u8 0, .int .u8 0, .int .u8 0, .int .i64 10, .int .i64 4, .int .i64 4, .int .u8 255, .int .u8 255, .int .u8 255, .int .u8 255, .int .u8 0, .int .u8 0, .int .u8 0, .int .u8 0, .int .u8 0, .int .u8 0, .int .u8 0, .int .u8 0, .int .u8 0, .int .u8 0, .int .u8 0, .int .u8 0, .int .i64 32, .int .i64 5, .int .i64 4, .int .u8 0, .int .u8 0, .int .u8 0, .int .u8 0, .int .u8 0, .int .u8 0, .int .u8 0, .int .u8 0, .int .u8 0, .int .u8 0, .int .u8 0, .int .u8 0, .int .u8 0, .int .u8 0, .int .u8 0, .int .u8 0, .int .i64 8, .int .i64 6, .int .i64 4, .int .u8 240, .int .u8 0, .int .u8 0, .int .u8 0, .int .u8 0, .int .u8 0, .int .u8 0, .int .u8 0, .int .u8 0, .int .u8 0, .int .u8 0, .int .u8 0, .int .u8 0, .int .u8 0, .int .u8 0, .int .u8 0, .int .i64 4, .int .i64 6, .int .i64 6, .int .u8 0, .int .u8 0, .int .u8 0, .int .u8 0, .int .u8 0, .int .u8 0, .int .u8 0, .int .u8 0, .int .u8 0, .int .u8 0, .int .u8 0, .int .u8 0, .int .u8 0, .int .u8 0, .int .u8 0, .int .u8 0, .int .i64 8, .int .i64 6]
def matchS (p : IPV) (n : NetV) : Bool := decide (n.p.v = p.v) && sameA (maskS p n.b) n.p
def sizeS (p : IPV) : Int := if p.v = 6 then 128 else if p.v ≠ 4 then 0 else if ((decide (p.a4 = 0)) && ((decide (p.a5 = 0)) && ((decide (p.a6 = 0)) && ((decide (p.a7 = 0)) && ((decide (p.a8 = 0)) && ((decide (p.a9 = 0)) && ((decide (p.a10 = 0)) && ((decide (p.a11 = 0)) && ((decide (p.a12 = 0)) && ((decide (p.a13 = 0)) && ((decide (p.a14 = 0)) && ((decide (p.a15 = 0)) && true)))))))))))) then 32 else 0
def classP (p : IPV) : Int := if 0 < sizeS p then (match netsV.find? (matchS p) with | some n => n.c | none => 7) else 0
theorem nets_len : netsV.length = 12 := rfl
theorem nets_at : ∀ i : Nat, (h : i < 12) → (netsL.drop (i * 19)).take 19 = (netsV[i]'(by rw [nets_len]; exact h)).cells
  | 0, _ => rfl
  | 1, _ => rfl
  | 2, _ => rfl
  | 3, _ => rfl
  | 4, _ => rfl
  | 5, _ => rfl
  | 6, _ => rfl
  | 7, _ => rfl
  | 8, _ => rfl
  | 9, _ => rfl
  | 10, _ => rfl
  | 11, _ => rfl
  | i + 12, h => absurd h (by omega)
theorem find_step {p : IPV} {i : Nat} (hi : i < 12) (hno : ∀ j, j < i → matchS p (netsV.getD j ⟨⟨0, 0, 0, 0, 0, 0, 0, 0, 0, 0, 0, 0, 0, 0, 0, 0, 0⟩, 0, 0⟩) = false) (h : matchS p (netsV[i]'(by rw [nets_len]; exact hi)) = true) :
    netsV.find? (matchS p) = some (netsV[i]'(by rw [nets_len]; exact hi)) := by
  rw [List.find?_eq_some_iff_getElem]
  refine ⟨h, i, by rw [nets_len]; exact hi, rfl, fun j hj => ?_⟩
  have := hno j hj
  rw [List.getD_eq_getElem?_getD, List.getElem?_eq_getElem (by rw [nets_len]; omega)] at this
  simpa using this
theorem find_none {p : IPV} (hno : ∀ j, j < 12 → matchS p (netsV.getD j ⟨⟨0, 0, 0, 0, 0, 0, 0, 0, 0, 0, 0, 0, 0, 0, 0, 0, 0⟩, 0, 0⟩) = false) : netsV.find? (matchS p) = none := by
  rw [List.find?_eq_none]
  intro x hx
  obtain ⟨j, hj, rfl⟩ := List.mem_iff_getElem.1 hx
  have := hno j (by rw [nets_len] at hj; exact hj)
  rw [List.getD_eq_getElem?_getD, List.getElem?_eq_getElem hj] at this
  simpa using this
end Go.Eng
namespace Go.Proofs.YtjngdcilnipjcaaDoor
namespace Nd
open Go.Eng Go.RowKit
def Tab (w : World) : Prop := CellsAt w ⟨2, 0, none⟩ 0 netsL
theorem Tab.ext {w w' : World} (h : Tab w) (hE : Ext w w') : Tab w' := CellsAt.ext hE h
section
variable {w : World}
theorem size_spec (p : IPV) : Calls Tryd.prog 122 #[p.val] w fun e w' => Ext w w' ∧ e = .returned (.int .i64 (sizeS p)) := by
  refine addr_size_of p.v p.a0 p.a1 p.a2 p.a3 p.a4 p.a5 p.a6 p.a7 p.a8 p.a9 p.a10 p.a11 p.a12 p.a13 p.a14 p.a15 w _ ?_
  unfold addr_size_VC
  refine NewVC.blk fun g1 w1 hg1 hz1 hE1 hb1 => ?_
  have hb1 : Blk w1 g1 _ p.cells := hb1
  refine ⟨_, hb1.cell 0, Br.dec (fun h => ⟨hE1, ?_⟩) fun h => ?_⟩
  · unfold sizeS; rw [if_pos h]
  refine ⟨_, hb1.cell 0, Br.dec (fun h4 => ⟨hE1, ?_⟩) fun h4 => ?_⟩
  · unfold sizeS; rw [if_neg h, if_pos h4]
  refine ⟨by decide, by decide, ?_⟩
  refine ⟨by decide, _, rfl, ?_⟩
  refine ⟨_, _, _, _, _, _, _, _, _, _, _, _, CellsAt.part (g := g1) hb1 5 (ds := p.cells.drop 5) (es := []) rfl, ?_⟩
  have e : sizeS p = if ((decide (p.a4 = 0)) && ((decide (p.a5 = 0)) && ((decide (p.a6 = 0)) && ((decide (p.a7 = 0)) && ((decide (p.a8 = 0)) && ((decide (p.a9 = 0)) && ((decide (p.a10 = 0)) && ((decide (p.a11 = 0)) && ((decide (p.a12 = 0)) && ((decide (p.a13 = 0)) && ((decide (p.a14 = 0)) && ((decide (p.a15 = 0)) && true)))))))))))) then 32 else 0 := by unfold sizeS; rw [if_neg h, if_neg h4]
  cases hc : ((decide (p.a4 = 0)) && ((decide (p.a5 = 0)) && ((decide (p.a6 = 0)) && ((decide (p.a7 = 0)) && ((decide (p.a8 = 0)) && ((decide (p.a9 = 0)) && ((decide (p.a10 = 0)) && ((decide (p.a11 = 0)) && ((decide (p.a12 = 0)) && ((decide (p.a13 = 0)) && ((decide (p.a14 = 0)) && ((decide (p.a15 = 0)) && true)))))))))))) with
  | true => exact Br.f (by rfl) ⟨hE1, by rw [e, if_pos hc]⟩
  | false => exact Br.t (by rfl) ⟨hE1, by rw [e, if_neg (by rw [hc]; decide)]⟩
theorem Valid_spec (p : IPV) : Calls Tryd.prog 98 #[p.val] w fun e w' => Ext w w' ∧ e = .returned (.bool (decide (0 < sizeS p))) := by
  refine addr_Valid_of p.v p.a0 p.a1 p.a2 p.a3 p.a4 p.a5 p.a6 p.a7 p.a8 p.a9 p.a10 p.a11 p.a12 p.a13 p.a14 p.a15 w _ ?_
  unfold addr_Valid_VC
  refine NewVC.blk fun g1 w1 hg1 hz1 hE1 hb1 => ?_
  refine ⟨_, _, _, _, _, _, _, _, _, _, _, _, _, _, _, _, _, CellsAt.blk hb1, ?_⟩
  refine (size_spec p).mono ?_
  rintro _ w2 ⟨hE2, rfl⟩
  exact ⟨_, rfl, hE1.ext hE2, rfl⟩
theorem masked_spec (p : IPV) (n : Int) (_ : 0 ≤ n ∧ n ≤ 128) : Calls Tryd.prog 99 #[p.arr, .int .i64 n] w fun e w' => Ext w w' ∧ e = .returned (maskS p n).arr := by
  refine addr_masked_of p.a0 p.a1 p.a2 p.a3 p.a4 p.a5 p.a6 p.a7 p.a8 p.a9 p.a10 p.a11 p.a12 p.a13 p.a14 p.a15 n w _ ?_
  unfold addr_masked_VC
  refine NewVC.blk fun g1 w1 hg1 hz1 hE1 hb1 => NewVC.blk fun g2 w2 hg2 hz2 hE2 hb2 => NewVC.blk fun g3 w3 hg3 hz3 hE3 hb3 => ?_
  have hb1 : Cells w3 (some ⟨g1, 0, none⟩) (p.bytes.map (.int .u8)) := ((Cells.of_blk hb1 0).ext hE2).ext hE3
  have hb2 := hb2.ext hE3
  have hE := (hE1.ext hE2).ext hE3
  refine LoopVC.of (fun s w' => Mod (fun k => k = g3) w3 w' ∧ ∃ i : Nat, s = (i : Int) ∧ i ≤ 16 ∧ Blk w' g3 29 ((maskS p n).row.take i ++ List.replicate (16 - i) (.int .u8 0))) (fun s _ => (16 - s).toNat) ?_ ?_
  · exact ⟨Mod.refl _ _, 0, rfl, by omega, hb3⟩
  rintro _ w4 ⟨hm4, i, rfl, hi, hb4⟩
  show addr_masked_L58 _ n g1 g2 g3 (i : Int) w4 _
  unfold addr_masked_L58
  have hlen : ((maskS p n).row.take i ++ List.replicate (16 - i) (Value.int .u8 0)).length = 16 := by simp [IPV.row]; omega
  refine Br.dec (fun hlt => ?_) (fun hge => ?_)
  · have hlt : i < 16 := by omega
    refine IdxVC.int (hb1.mod hm4 fun a ha _ => by cases ha; show ¬ g1 = g3; omega) (by omega) (by omega) rfl fun a ha => ⟨_, ha, ?_⟩
    refine ⟨by rw [u64_eq]; omega, ?_⟩
    refine IdxVC.blk (by omega) (by omega) ?_
    refine SetVC.blk hb4 (by omega) fun w5 z5 m5 hb5 => ?_
    have e1 : IntKind.i64.wrap ((i : Int) + 1) = ((i + 1 : Nat) : Int) := by rw [w64 (by omega) (by omega)]; omega
    rw [e1]
    refine ⟨⟨hm4.trans m5, i + 1, rfl, by omega, ?_⟩, by omega⟩
    have e2 : ((maskS p n).row.take i ++ List.replicate (16 - i) (Value.int .u8 0)).set i (Value.int .u8 (maskB (p.bytes.getD i 0) n i)) = (maskS p n).row.take (i + 1) ++ List.replicate (16 - (i + 1)) (.int .u8 0) := by
      match i, hlt with
      | 0, _ => rfl
      | 1, _ => rfl
      | 2, _ => rfl
      | 3, _ => rfl
      | 4, _ => rfl
      | 5, _ => rfl
      | 6, _ => rfl
      | 7, _ => rfl
      | 8, _ => rfl
      | 9, _ => rfl
      | 10, _ => rfl
      | 11, _ => rfl
      | 12, _ => rfl
      | 13, _ => rfl
      | 14, _ => rfl
      | 15, _ => rfl
      | k + 16, h => exact absurd h (by omega)
    rw [← e2]
    exact hb5
  · have he : i = 16 := by omega
    subst he
    have hb4 : Blk w4 g3 _ (maskS p n).row := hb4
    refine ⟨_, _, _, _, _, _, _, _, _, _, _, _, _, _, _, _, CellsAt.blk hb4, ?_⟩
    refine setAll (maskS p n).row 0 w4 _ _ ((hb2.mod hm4 (by show ¬ g2 = g3; omega))) rfl fun w' hz hm hb' => ?_
    exact ⟨_, _, _, _, _, _, _, _, _, _, _, _, _, _, _, _, CellsAt.blk hb', (hE.set hm4 (by omega)).set hm (by omega), rfl⟩
set_option maxRecDepth 20000 in
set_option maxHeartbeats 2000000 in
theorem Class_loop (p : IPV) {g1 : Nat} {w1 : World} {R : Ending → World → Prop} (hb1 : Blk w1 g1 31 p.cells) (hs : 0 < sizeS p) (hR : ∀ w', Ext w1 w' → R (.returned (.int .i64 (classP p))) w') :
    LoopVC (S := Int) (fun s w3 K58 => addr_Class_L58 R g1 4 0 0 0 0 0 0 0 0 0 0 0 0 0 0 0 0 32 1 6 0 0 0 0 0 0 0 0 0 0 0 0 0 0 0 0 128 1 4 127 0 0 0 0 0 0 0 0 0 0 0 0 0 0 0 8 2 6 0 0 0 0 0 0 0 0 0 0 0 0 0 0 0 1 128 2 4 224 0 0 0 0 0 0 0 0 0 0 0 0 0 0 0 4 3 6 255 0 0 0 0 0 0 0 0 0 0 0 0 0 0 0 8 3 4 169 254 0 0 0 0 0 0 0 0 0 0 0 0 0 0 16 4 6 254 128 0 0 0 0 0 0 0 0 0 0 0 0 0 0 10 4 4 255 255 255 255 0 0 0 0 0 0 0 0 0 0 0 0 32 5 4 0 0 0 0 0 0 0 0 0 0 0 0 0 0 0 0 8 6 4 240 0 0 0 0 0 0 0 0 0 0 0 0 0 0 0 4 6 6 0 0 0 0 0 0 0 0 0 0 0 0 0 0 0 0 8 6 s w3 K58) 0 w1 := by
  refine LoopVC.of (fun s w' => Ext w1 w' ∧ ∃ i : Nat, s = (i : Int) ∧ i ≤ 12 ∧ ∀ j, j < i → matchS p (netsV.getD j ⟨⟨0, 0, 0, 0, 0, 0, 0, 0, 0, 0, 0, 0, 0, 0, 0, 0, 0⟩, 0, 0⟩) = false) (fun s _ => (12 - s).toNat) ⟨Mod.refl _ _, 0, rfl, by omega, fun _ h => absurd h (by omega)⟩ ?_
  rintro _ w3 ⟨hE3, i, rfl, hi, hno⟩
  unfold addr_Class_L58
  have hcl : classP p = (match netsV.find? (matchS p) with | some n => n.c | none => 7) := by unfold classP; rw [if_pos hs]
  refine Br.dec (fun hlt => ?_) (fun hge => ?_)
  · have hlt : i < 12 := by omega
    obtain ⟨N, hN⟩ : ∃ N, N = (netsV[i]'(by rw [nets_len]; exact hlt)) := ⟨_, rfl⟩
    have hat := nets_at i hlt
    rw [← hN] at hat
    have hgd : netsV.getD i ⟨⟨0, 0, 0, 0, 0, 0, 0, 0, 0, 0, 0, 0, 0, 0, 0, 0, 0⟩, 0, 0⟩ = N := by
      rw [List.getD_eq_getElem?_getD, List.getElem?_eq_getElem (by rw [nets_len]; omega), hN]; rfl
    have hbits : 0 ≤ N.b ∧ N.b ≤ 128 := by
      have : ∀ n ∈ netsV, 0 ≤ n.b ∧ n.b ≤ 128 := by decide
      exact this N (by rw [hN]; exact List.getElem_mem _)
    have next : ∀ w', Ext w1 w' → matchS p N = false → (Ext w1 w' ∧ ∃ i' : Nat, IntKind.i64.wrap ((i : Int) + 1) = (i' : Int) ∧ i' ≤ 12 ∧ ∀ j, j < i' → matchS p (netsV.getD j ⟨⟨0, 0, 0, 0, 0, 0, 0, 0, 0, 0, 0, 0, 0, 0, 0, 0, 0⟩, 0, 0⟩) = false) ∧ (12 - IntKind.i64.wrap ((i : Int) + 1)).toNat < (12 - (i : Int)).toNat := fun w' hE' hm => by
      have e1 : IntKind.i64.wrap ((i : Int) + 1) = ((i + 1 : Nat) : Int) := by rw [w64 (by omega) (by omega)]; omega
      rw [e1]
      refine ⟨⟨hE', i + 1, rfl, by omega, fun j hj => ?_⟩, by omega⟩
      rcases Nat.lt_or_ge j i with h | h
      · exact hno j h
      · have : j = i := by omega
        subst this
        rw [hgd]; exact hm
    refine ⟨N.p.v, N.p.a0, N.p.a1, N.p.a2, N.p.a3, N.p.a4, N.p.a5, N.p.a6, N.p.a7, N.p.a8, N.p.a9, N.p.a10, N.p.a11, N.p.a12, N.p.a13, N.p.a14, N.p.a15, N.b, N.c, ⟨by omega, by omega, hat⟩, ?_⟩
    refine NewVC.blk fun g2 w4 hg2 hz4 hE4 hb4 => ?_
    have s3 := hE3.size
    have hg1 := hb1.lt
    refine setAll N.cells 0 w4 _ _ hb4 rfl fun w5 hz5 hm5 hb5 => ?_
    have hb5 : Blk w5 g2 _ N.cells := hb5
    have hE5 : Ext w1 w5 := (hE3.ext hE4).set hm5 (by omega)
    have hb15 := hb1.ext hE5
    refine DrawVC.of (fun w' => Ext w5 w') fun w6 hE6 _ => ⟨hE6, ?_⟩
    refine ⟨_, fun w' h => (hb5.ext h).cell 0, _, fun w' h => (hb15.ext h).cell 0, Br.dec (fun hv => ?_) (fun hv => ?_)⟩
    · refine ⟨_, _, _, _, _, _, _, _, _, _, _, _, _, _, _, _, fun w' h => CellsAt.part (hb15.ext h) 1 (ds := p.row) (es := []) rfl, _, fun w' h => (hb5.ext h).cell 17, _, _, _, _, _, _, _, _, _, _, _, _, _, _, _, _, fun w' h => CellsAt.part (hb5.ext h) 1 (ds := N.p.row) (es := N.cells.drop 17) rfl, ?_⟩
      refine (masked_spec p N.b hbits).mono ?_
      rintro _ w7 ⟨hE7, rfl⟩
      refine ⟨_, _, _, _, _, _, _, _, _, _, _, _, _, _, _, _, rfl, hE6.ext hE7, ?_⟩
      have hEn := hE5.ext (hE6.ext hE7)
      have hm : matchS p N = sameA (maskS p N.b) N.p := by unfold matchS; rw [decide_eq_true hv, Bool.true_and]
      cases hsame : sameA (maskS p N.b) N.p with
      | true =>
        refine Br.t hsame ⟨_, (hb5.ext (hE6.ext hE7)).cell 18, ?_⟩
        have := hR w7 hEn
        rw [hcl, find_step hlt hno (by rw [← hN, hm, hsame])] at this
        rw [hN]; exact this
      | false => exact Br.f hsame (next w7 hEn (by rw [hm, hsame]))
    · exact next w6 (hE5.ext hE6) (by unfold matchS; rw [decide_eq_false hv, Bool.false_and])
  · have : i = 12 := by omega
    subst this
    have := hR w3 hE3
    rw [hcl, find_none hno] at this
    exact this
set_option maxRecDepth 20000 in
set_option maxHeartbeats 1000000 in
theorem Class_spec (p : IPV) (hT : Tab w) : Calls Tryd.prog 72 #[p.val] w fun e w' => Ext w w' ∧ e = .returned (.int .i64 (classP p)) := by
  refine addr_Class_of p.v p.a0 p.a1 p.a2 p.a3 p.a4 p.a5 p.a6 p.a7 p.a8 p.a9 p.a10 p.a11 p.a12 p.a13 p.a14 p.a15 w _ ?_
  unfold addr_Class_VC
  refine NewVC.blk fun g1 w1 hg1 hz1 hE1 hb1 => ?_
  have hb1 : Blk w1 g1 31 p.cells := hb1
  refine ⟨_, _, _, _, _, _, _, _, _, _, _, _, _, _, _, _, _, CellsAt.blk hb1, ?_⟩
  refine (Valid_spec p).mono ?_
  rintro _ w2 ⟨hE2, rfl⟩
  have hE := hE1.ext hE2
  refine ⟨_, rfl, ?_⟩
  by_cases hs : 0 < sizeS p
  · refine Br.f (by simp [hs]) ?_
    refine ⟨4, 0, 0, 0, 0, 0, 0, 0, 0, 0, 0, 0, 0, 0, 0, 0, 0, 32, 1, 6, 0, 0, 0, 0, 0, 0, 0, 0, 0, 0, 0, 0, 0, 0, 0, 0, 128, 1, 4, 127, 0, 0, 0, 0, 0, 0, 0, 0, 0, 0, 0, 0, 0, 0, 0, 8, 2, 6, 0, 0, 0, 0, 0, 0, 0, 0, 0, 0, 0, 0, 0, 0, 0, 1, 128, 2, 4, 224, 0, 0, 0, 0, 0, 0, 0, 0, 0, 0, 0, 0, 0, 0, 0, 4, 3, 6, 255, 0, 0, 0, 0, 0, 0, 0, 0, 0, 0, 0, 0, 0, 0, 0, 8, 3, 4, 169, 254, 0, 0, 0, 0, 0, 0, 0, 0, 0, 0, 0, 0, 0, 0, 16, 4, 6, 254, 128, 0, 0, 0, 0, 0, 0, 0, 0, 0, 0, 0, 0, 0, 0, 10, 4, 4, 255, 255, 255, 255, 0, 0, 0, 0, 0, 0, 0, 0, 0, 0, 0, 0, 32, 5, 4, 0, 0, 0, 0, 0, 0, 0, 0, 0, 0, 0, 0, 0, 0, 0, 0, 8, 6, 4, 240, 0, 0, 0, 0, 0, 0, 0, 0, 0, 0, 0, 0, 0, 0, 0, 4, 6, 6, 0, 0, 0, 0, 0, 0, 0, 0, 0, 0, 0, 0, 0, 0, 0, 0, 8, 6, hT.ext hE, ?_⟩
    exact Class_loop p (hb1.ext hE2) hs fun w' hE' => ⟨hE.ext hE', rfl⟩
  · refine Br.t (by simp [hs]) ⟨hE, ?_⟩
    unfold classP; rw [if_neg hs]
end
end Nd
end Go.Proofs.YtjngdcilnipjcaaDoor
