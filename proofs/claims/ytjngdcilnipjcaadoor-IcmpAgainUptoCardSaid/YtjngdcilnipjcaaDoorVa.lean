/- WRITTEN BY a program of this session (vc.py): for each Go function the condition that is enough for its contract, and the theorem that it is. -/
import Derived.Test.YtjngdcilnipjcaaDoorProg
import Derived.Test.YtjngdcilnipjcaaDoorEngC
import Derived.Test.YtjngdcilnipjcaaDoorV
import Derived.Test.YtjngdcilnipjcaaDoorVc
import Derived.Test.YtjngdcilnipjcaaDoorVn
namespace Go.Proofs.YtjngdcilnipjcaaDoor
open Go.Eng
namespace Nd

set_option maxRecDepth 100000 in
def weirlaw8_IcmpAgain_D64078 (R : Ending → World → Prop) (x18 : Int) (x115 : Int) (w37 : World) (g5 : Nat) (g6 : Nat) (g1 : Nat) (g2 : Nat) (g3 : Nat) (g4 : Nat) (xA1 : Option Addr) (xn1 : Nat) (xc1 : Nat) (xA5 : Option Addr) (xn5 : Nat) (xc5 : Nat) (i : Int) (turnsn : Nat) (turnsA : Option Addr) (K250 : (Int → World → Prop)) : Prop :=
  Br (decide (x18 ≠ x115))
    (R (.returned (.bool false)) w37)
    (∃ x06 : Int, ∃ x116 : Int, ∃ x25 : Int, ∃ x35 : Int, ∃ (x4A1 : Option Addr) (x4n1 x4c1 : Nat), CellsAt w37 ⟨g5, 0, none⟩ 0 [.int .i64 x06, .int .i64 x116, .int .i64 x25, .int .i64 x35, .slice x4A1 x4n1 x4c1] ∧
    ∃ x07 : Int, ∃ x117 : Int, ∃ x26 : Int, ∃ x36 : Int, ∃ (x4A2 : Option Addr) (x4n2 x4c2 : Nat), CellsAt w37 ⟨g6, 0, none⟩ 0 [.int .i64 x07, .int .i64 x117, .int .i64 x26, .int .i64 x36, .slice x4A2 x4n2 x4c2] ∧
    Calls Tryd.prog 21 #[.agg #[.int .i64 x06, .int .i64 x116, .int .i64 x25, .int .i64 x35, .slice x4A1 x4n1 x4c1], .agg #[.int .i64 x07, .int .i64 x117, .int .i64 x26, .int .i64 x36, .slice x4A2 x4n2 x4c2]] w37 (onRet (fun r_11 w38 => ∃ x20 : Bool, r_11 = .bool x20 ∧
    Br (!x20)
    (R (.returned (.bool false)) w38)
    (∃ x08 : Int, ∃ x118 : Int, ∃ x27 : Int, ∃ x37 : Int, ∃ x44 : Int, ∃ x54 : Int, ∃ x64 : Int, ∃ x74 : Int, ∃ x84 : Int, ∃ x94 : Int, ∃ x104 : Int, ∃ x119 : Int, ∃ x125 : Int, ∃ x134 : Int, ∃ x144 : Int, ∃ x154 : Int, ∃ x164 : Int, CellsAt w38 ⟨g1, 0, none⟩ 0 [.int .i64 x08, .int .u8 x118, .int .u8 x27, .int .u8 x37, .int .u8 x44, .int .u8 x54, .int .u8 x64, .int .u8 x74, .int .u8 x84, .int .u8 x94, .int .u8 x104, .int .u8 x119, .int .u8 x125, .int .u8 x134, .int .u8 x144, .int .u8 x154, .int .u8 x164] ∧
  ∃ x09 : Int, ∃ x120 : Int, ∃ x28 : Int, ∃ x38 : Int, ∃ x45 : Int, ∃ x55 : Int, ∃ x65 : Int, ∃ x75 : Int, ∃ x85 : Int, ∃ x95 : Int, ∃ x105 : Int, ∃ x1110 : Int, ∃ x126 : Int, ∃ x135 : Int, ∃ x145 : Int, ∃ x155 : Int, ∃ x165 : Int, CellsAt w38 ⟨g2, 0, none⟩ 0 [.int .i64 x09, .int .u8 x120, .int .u8 x28, .int .u8 x38, .int .u8 x45, .int .u8 x55, .int .u8 x65, .int .u8 x75, .int .u8 x85, .int .u8 x95, .int .u8 x105, .int .u8 x1110, .int .u8 x126, .int .u8 x135, .int .u8 x145, .int .u8 x155, .int .u8 x165] ∧
  ∃ x010 : Int, ∃ x127 : Int, ∃ x29 : Int, ∃ x39 : Int, ∃ (x4A3 : Option Addr) (x4n3 x4c3 : Nat), CellsAt w38 ⟨g3, 0, none⟩ 0 [.int .i64 x010, .int .i64 x127, .int .i64 x29, .int .i64 x39, .slice x4A3 x4n3 x4c3] ∧
  Calls Tryd.prog 26 #[.agg #[.int .i64 x08, .int .u8 x118, .int .u8 x27, .int .u8 x37, .int .u8 x44, .int .u8 x54, .int .u8 x64, .int .u8 x74, .int .u8 x84, .int .u8 x94, .int .u8 x104, .int .u8 x119, .int .u8 x125, .int .u8 x134, .int .u8 x144, .int .u8 x154, .int .u8 x164], .agg #[.int .i64 x09, .int .u8 x120, .int .u8 x28, .int .u8 x38, .int .u8 x45, .int .u8 x55, .int .u8 x65, .int .u8 x75, .int .u8 x85, .int .u8 x95, .int .u8 x105, .int .u8 x1110, .int .u8 x126, .int .u8 x135, .int .u8 x145, .int .u8 x155, .int .u8 x165], .agg #[.int .i64 x010, .int .i64 x127, .int .i64 x29, .int .i64 x39, .slice x4A3 x4n3 x4c3]] w38 (onRet (fun r_12 w39 => ∃ (x0A : Option Addr) (x0n x0c : Nat), ∃ x128 : Int, r_12 = .tuple #[.slice x0A x0n x0c, .int .i64 x128] ∧
  ∃ x013 : Int, ∃ x129 : Int, ∃ x210 : Int, ∃ x310 : Int, ∃ x46 : Int, ∃ x56 : Int, ∃ x66 : Int, ∃ x76 : Int, ∃ x86 : Int, ∃ x96 : Int, ∃ x106 : Int, ∃ x1111 : Int, ∃ x1210 : Int, ∃ x136 : Int, ∃ x146 : Int, ∃ x156 : Int, ∃ x166 : Int, CellsAt w39 ⟨g1, 0, none⟩ 0 [.int .i64 x013, .int .u8 x129, .int .u8 x210, .int .u8 x310, .int .u8 x46, .int .u8 x56, .int .u8 x66, .int .u8 x76, .int .u8 x86, .int .u8 x96, .int .u8 x106, .int .u8 x1111, .int .u8 x1210, .int .u8 x136, .int .u8 x146, .int .u8 x156, .int .u8 x166] ∧
  ∃ x014 : Int, ∃ x130 : Int, ∃ x211 : Int, ∃ x311 : Int, ∃ x47 : Int, ∃ x57 : Int, ∃ x67 : Int, ∃ x77 : Int, ∃ x87 : Int, ∃ x97 : Int, ∃ x107 : Int, ∃ x1112 : Int, ∃ x1211 : Int, ∃ x137 : Int, ∃ x147 : Int, ∃ x157 : Int, ∃ x167 : Int, CellsAt w39 ⟨g2, 0, none⟩ 0 [.int .i64 x014, .int .u8 x130, .int .u8 x211, .int .u8 x311, .int .u8 x47, .int .u8 x57, .int .u8 x67, .int .u8 x77, .int .u8 x87, .int .u8 x97, .int .u8 x107, .int .u8 x1112, .int .u8 x1211, .int .u8 x137, .int .u8 x147, .int .u8 x157, .int .u8 x167] ∧
  ∃ x015 : Int, ∃ x138 : Int, ∃ x212 : Int, ∃ x312 : Int, ∃ (x4A4 : Option Addr) (x4n4 x4c4 : Nat), CellsAt w39 ⟨g4, 0, none⟩ 0 [.int .i64 x015, .int .i64 x138, .int .i64 x212, .int .i64 x312, .slice x4A4 x4n4 x4c4] ∧
  Calls Tryd.prog 27 #[.agg #[.int .i64 x013, .int .u8 x129, .int .u8 x210, .int .u8 x310, .int .u8 x46, .int .u8 x56, .int .u8 x66, .int .u8 x76, .int .u8 x86, .int .u8 x96, .int .u8 x106, .int .u8 x1111, .int .u8 x1210, .int .u8 x136, .int .u8 x146, .int .u8 x156, .int .u8 x166], .agg #[.int .i64 x014, .int .u8 x130, .int .u8 x211, .int .u8 x311, .int .u8 x47, .int .u8 x57, .int .u8 x67, .int .u8 x77, .int .u8 x87, .int .u8 x97, .int .u8 x107, .int .u8 x1112, .int .u8 x1211, .int .u8 x137, .int .u8 x147, .int .u8 x157, .int .u8 x167], .agg #[.int .i64 x015, .int .i64 x138, .int .i64 x212, .int .i64 x312, .slice x4A4 x4n4 x4c4]] w39 (onRet (fun r_13 w40 => ∃ (x0A1 : Option Addr) (x0n1 x0c1 : Nat), ∃ x139 : Int, r_13 = .tuple #[.slice x0A1 x0n1 x0c1, .int .i64 x139] ∧
  DrawVC w40 fun S3 w41 =>
  Br (decide (x128 ≠ x139))
    (R (.returned (.bool false)) w41)
    (Calls Tryd.prog 18 #[.slice x0A x0n x0c, .slice x0A1 x0n1 x0c1] w41 (onRet (fun r_14 w42 => ∃ x30 : Bool, r_14 = .bool x30 ∧
    S3 w42 ∧
    Br (!x30)
      (R (.returned (.bool false)) w42)
      (∃ x016 : Int, ∃ x140 : Int, ∃ x213 : Int, ∃ x313 : Int, ∃ (x4A5 : Option Addr) (x4n5 x4c5 : Nat), (∀ w' : World, S3 w' → CellsAt w' ⟨g3, 0, none⟩ 0 [.int .i64 x016, .int .i64 x140, .int .i64 x213, .int .i64 x313, .slice x4A5 x4n5 x4c5]) ∧
      ∃ x017 : Int, ∃ x148 : Int, ∃ x214 : Int, ∃ x314 : Int, ∃ (x4A6 : Option Addr) (x4n6 x4c6 : Nat), (∀ w' : World, S3 w' → CellsAt w' ⟨g4, 0, none⟩ 0 [.int .i64 x017, .int .i64 x148, .int .i64 x214, .int .i64 x314, .slice x4A6 x4n6 x4c6]) ∧
      Calls Tryd.prog 24 #[.agg #[.int .i64 x016, .int .i64 x140, .int .i64 x213, .int .i64 x313, .slice x4A5 x4n5 x4c5]] w42 (onRet (fun r_15 w43 => ∃ x40 : Int, r_15 = .int .i64 x40 ∧
      S3 w43 ∧
      Calls Tryd.prog 28 #[.agg #[.int .i64 x017, .int .i64 x148, .int .i64 x214, .int .i64 x314, .slice x4A6 x4n6 x4c6]] w43 (onRet (fun r_16 w44 => ∃ x48 : Int, r_16 = .int .i64 x48 ∧
      S3 w44 ∧
      Br (decide (x40 ≠ x48))
    (R (.returned (.bool false)) w44)
    (∃ x018 : Int, ∃ x149 : Int, ∃ x215 : Int, ∃ x315 : Int, ∃ (x4A7 : Option Addr) (x4n7 x4c7 : Nat), CellsAt w44 ⟨g3, 0, none⟩ 0 [.int .i64 x018, .int .i64 x149, .int .i64 x215, .int .i64 x315, .slice x4A7 x4n7 x4c7] ∧
  Calls Tryd.prog 16 #[.agg #[.int .i64 x018, .int .i64 x149, .int .i64 x215, .int .i64 x315, .slice x4A7 x4n7 x4c7]] w44 (onRet (fun r_17 w45 => ∃ x002 : Int, ∃ x019 : Int, ∃ x023 : Int, ∃ x032 : Int, ∃ x041 : Int, ∃ x051 : Int, ∃ x061 : Int, ∃ x071 : Int, ∃ x081 : Int, ∃ x091 : Int, ∃ x0101 : Int, ∃ x0111 : Int, ∃ x0121 : Int, ∃ x0131 : Int, ∃ x0141 : Int, ∃ x0151 : Int, ∃ x0161 : Int, ∃ x0171 : Int, ∃ x0181 : Bool, ∃ x0191 : Bool, ∃ x020 : Bool, ∃ x0211 : Bool, ∃ x0221 : Int, ∃ x0231 : Int, ∃ x024 : Int, ∃ x025 : Int, ∃ x026 : Int, ∃ x027 : Int, ∃ x150 : Int, r_17 = .tuple #[.agg #[.int .i64 x002, .int .i64 x019, .int .u8 x023, .int .u8 x032, .int .u8 x041, .int .u8 x051, .int .u8 x061, .int .u8 x071, .int .u8 x081, .int .u8 x091, .int .u8 x0101, .int .u8 x0111, .int .u8 x0121, .int .u8 x0131, .int .u8 x0141, .int .u8 x0151, .int .u8 x0161, .int .u8 x0171, .bool x0181, .bool x0191, .bool x020, .bool x0211, .int .u8 x0221, .int .u8 x0231, .int .u8 x024, .int .u8 x025, .int .u8 x026, .int .u8 x027], .int .i64 x150] ∧
  NewVC w45 (.cells #[.int .i64 0, .int .i64 0, .int .u8 0, .int .u8 0, .int .u8 0, .int .u8 0, .int .u8 0, .int .u8 0, .int .u8 0, .int .u8 0, .int .u8 0, .int .u8 0, .int .u8 0, .int .u8 0, .int .u8 0, .int .u8 0, .int .u8 0, .int .u8 0, .bool false, .bool false, .bool false, .bool false, .int .u8 0, .int .u8 0, .int .u8 0, .int .u8 0, .int .u8 0, .int .u8 0] 35) fun g7 w46 =>
  SetVC w46 ⟨g7, 0, none⟩ (.int .i64 x002) fun w47 =>
  SetVC w47 ⟨g7, 1, none⟩ (.int .i64 x019) fun w48 =>
  SetVC w48 ⟨g7, 2, none⟩ (.int .u8 x023) fun w49 =>
  SetVC w49 ⟨g7, 3, none⟩ (.int .u8 x032) fun w50 =>
  SetVC w50 ⟨g7, 4, none⟩ (.int .u8 x041) fun w51 =>
  SetVC w51 ⟨g7, 5, none⟩ (.int .u8 x051) fun w52 =>
  SetVC w52 ⟨g7, 6, none⟩ (.int .u8 x061) fun w53 =>
  SetVC w53 ⟨g7, 7, none⟩ (.int .u8 x071) fun w54 =>
  SetVC w54 ⟨g7, 8, none⟩ (.int .u8 x081) fun w55 =>
  SetVC w55 ⟨g7, 9, none⟩ (.int .u8 x091) fun w56 =>
  SetVC w56 ⟨g7, 10, none⟩ (.int .u8 x0101) fun w57 =>
  SetVC w57 ⟨g7, 11, none⟩ (.int .u8 x0111) fun w58 =>
  SetVC w58 ⟨g7, 12, none⟩ (.int .u8 x0121) fun w59 =>
  SetVC w59 ⟨g7, 13, none⟩ (.int .u8 x0131) fun w60 =>
  SetVC w60 ⟨g7, 14, none⟩ (.int .u8 x0141) fun w61 =>
  SetVC w61 ⟨g7, 15, none⟩ (.int .u8 x0151) fun w62 =>
  SetVC w62 ⟨g7, 16, none⟩ (.int .u8 x0161) fun w63 =>
  SetVC w63 ⟨g7, 17, none⟩ (.int .u8 x0171) fun w64 =>
  SetVC w64 ⟨g7, 18, none⟩ (.bool x0181) fun w65 =>
  SetVC w65 ⟨g7, 19, none⟩ (.bool x0191) fun w66 =>
  SetVC w66 ⟨g7, 20, none⟩ (.bool x020) fun w67 =>
  SetVC w67 ⟨g7, 21, none⟩ (.bool x0211) fun w68 =>
  SetVC w68 ⟨g7, 22, none⟩ (.int .u8 x0221) fun w69 =>
  SetVC w69 ⟨g7, 23, none⟩ (.int .u8 x0231) fun w70 =>
  SetVC w70 ⟨g7, 24, none⟩ (.int .u8 x024) fun w71 =>
  SetVC w71 ⟨g7, 25, none⟩ (.int .u8 x025) fun w72 =>
  SetVC w72 ⟨g7, 26, none⟩ (.int .u8 x026) fun w73 =>
  SetVC w73 ⟨g7, 27, none⟩ (.int .u8 x027) fun w74 =>
  ∃ x028 : Int, ∃ x158 : Int, ∃ x216 : Int, ∃ x316 : Int, ∃ (x4A8 : Option Addr) (x4n8 x4c8 : Nat), CellsAt w74 ⟨g4, 0, none⟩ 0 [.int .i64 x028, .int .i64 x158, .int .i64 x216, .int .i64 x316, .slice x4A8 x4n8 x4c8] ∧
  Calls Tryd.prog 17 #[.agg #[.int .i64 x028, .int .i64 x158, .int .i64 x216, .int .i64 x316, .slice x4A8 x4n8 x4c8]] w74 (onRet (fun r_18 w75 => ∃ x003 : Int, ∃ x0110 : Int, ∃ x029 : Int, ∃ x033 : Int, ∃ x042 : Int, ∃ x052 : Int, ∃ x062 : Int, ∃ x072 : Int, ∃ x082 : Int, ∃ x092 : Int, ∃ x0102 : Int, ∃ x0112 : Int, ∃ x0122 : Int, ∃ x0132 : Int, ∃ x0142 : Int, ∃ x0152 : Int, ∃ x0162 : Int, ∃ x0172 : Int, ∃ x0182 : Bool, ∃ x0192 : Bool, ∃ x0201 : Bool, ∃ x0212 : Bool, ∃ x0222 : Int, ∃ x0232 : Int, ∃ x0241 : Int, ∃ x0251 : Int, ∃ x0261 : Int, ∃ x0271 : Int, ∃ x159 : Int, r_18 = .tuple #[.agg #[.int .i64 x003, .int .i64 x0110, .int .u8 x029, .int .u8 x033, .int .u8 x042, .int .u8 x052, .int .u8 x062, .int .u8 x072, .int .u8 x082, .int .u8 x092, .int .u8 x0102, .int .u8 x0112, .int .u8 x0122, .int .u8 x0132, .int .u8 x0142, .int .u8 x0152, .int .u8 x0162, .int .u8 x0172, .bool x0182, .bool x0192, .bool x0201, .bool x0212, .int .u8 x0222, .int .u8 x0232, .int .u8 x0241, .int .u8 x0251, .int .u8 x0261, .int .u8 x0271], .int .i64 x159] ∧
  NewVC w75 (.cells #[.int .i64 0, .int .i64 0, .int .u8 0, .int .u8 0, .int .u8 0, .int .u8 0, .int .u8 0, .int .u8 0, .int .u8 0, .int .u8 0, .int .u8 0, .int .u8 0, .int .u8 0, .int .u8 0, .int .u8 0, .int .u8 0, .int .u8 0, .int .u8 0, .bool false, .bool false, .bool false, .bool false, .int .u8 0, .int .u8 0, .int .u8 0, .int .u8 0, .int .u8 0, .int .u8 0] 35) fun g8 w76 =>
  SetVC w76 ⟨g8, 0, none⟩ (.int .i64 x003) fun w77 =>
  SetVC w77 ⟨g8, 1, none⟩ (.int .i64 x0110) fun w78 =>
  SetVC w78 ⟨g8, 2, none⟩ (.int .u8 x029) fun w79 =>
  SetVC w79 ⟨g8, 3, none⟩ (.int .u8 x033) fun w80 =>
  SetVC w80 ⟨g8, 4, none⟩ (.int .u8 x042) fun w81 =>
  SetVC w81 ⟨g8, 5, none⟩ (.int .u8 x052) fun w82 =>
  SetVC w82 ⟨g8, 6, none⟩ (.int .u8 x062) fun w83 =>
  SetVC w83 ⟨g8, 7, none⟩ (.int .u8 x072) fun w84 =>
  SetVC w84 ⟨g8, 8, none⟩ (.int .u8 x082) fun w85 =>
  SetVC w85 ⟨g8, 9, none⟩ (.int .u8 x092) fun w86 =>
  SetVC w86 ⟨g8, 10, none⟩ (.int .u8 x0102) fun w87 =>
  SetVC w87 ⟨g8, 11, none⟩ (.int .u8 x0112) fun w88 =>
  SetVC w88 ⟨g8, 12, none⟩ (.int .u8 x0122) fun w89 =>
  SetVC w89 ⟨g8, 13, none⟩ (.int .u8 x0132) fun w90 =>
  SetVC w90 ⟨g8, 14, none⟩ (.int .u8 x0142) fun w91 =>
  SetVC w91 ⟨g8, 15, none⟩ (.int .u8 x0152) fun w92 =>
  SetVC w92 ⟨g8, 16, none⟩ (.int .u8 x0162) fun w93 =>
  SetVC w93 ⟨g8, 17, none⟩ (.int .u8 x0172) fun w94 =>
  SetVC w94 ⟨g8, 18, none⟩ (.bool x0182) fun w95 =>
  SetVC w95 ⟨g8, 19, none⟩ (.bool x0192) fun w96 =>
  SetVC w96 ⟨g8, 20, none⟩ (.bool x0201) fun w97 =>
  SetVC w97 ⟨g8, 21, none⟩ (.bool x0212) fun w98 =>
  SetVC w98 ⟨g8, 22, none⟩ (.int .u8 x0222) fun w99 =>
  SetVC w99 ⟨g8, 23, none⟩ (.int .u8 x0232) fun w100 =>
  SetVC w100 ⟨g8, 24, none⟩ (.int .u8 x0241) fun w101 =>
  SetVC w101 ⟨g8, 25, none⟩ (.int .u8 x0251) fun w102 =>
  SetVC w102 ⟨g8, 26, none⟩ (.int .u8 x0261) fun w103 =>
  SetVC w103 ⟨g8, 27, none⟩ (.int .u8 x0271) fun w104 =>
  Br (decide (x150 ≠ x159))
    (R (.returned (.bool false)) w104)
    (∃ x030 : Int, ∃ x160 : Int, ∃ x217 : Int, ∃ x317 : Int, ∃ x49 : Int, ∃ x58 : Int, ∃ x68 : Int, ∃ x78 : Int, ∃ x88 : Int, ∃ x98 : Int, ∃ x108 : Int, ∃ x1113 : Int, ∃ x1212 : Int, ∃ x1310 : Int, ∃ x1410 : Int, ∃ x1510 : Int, ∃ x168 : Int, ∃ x171 : Int, ∃ x181 : Bool, ∃ x191 : Bool, ∃ x201 : Bool, ∃ x218 : Bool, ∃ x221 : Int, ∃ x231 : Int, ∃ x241 : Int, ∃ x251 : Int, ∃ x261 : Int, ∃ x271 : Int, CellsAt w104 ⟨g7, 0, none⟩ 0 [.int .i64 x030, .int .i64 x160, .int .u8 x217, .int .u8 x317, .int .u8 x49, .int .u8 x58, .int .u8 x68, .int .u8 x78, .int .u8 x88, .int .u8 x98, .int .u8 x108, .int .u8 x1113, .int .u8 x1212, .int .u8 x1310, .int .u8 x1410, .int .u8 x1510, .int .u8 x168, .int .u8 x171, .bool x181, .bool x191, .bool x201, .bool x218, .int .u8 x221, .int .u8 x231, .int .u8 x241, .int .u8 x251, .int .u8 x261, .int .u8 x271] ∧
    ∃ x034 : Int, ∃ x169 : Int, ∃ x219 : Int, ∃ x318 : Int, ∃ x410 : Int, ∃ x59 : Int, ∃ x69 : Int, ∃ x79 : Int, ∃ x89 : Int, ∃ x99 : Int, ∃ x109 : Int, ∃ x1114 : Int, ∃ x1213 : Int, ∃ x1311 : Int, ∃ x1411 : Int, ∃ x1511 : Int, ∃ x1610 : Int, ∃ x172 : Int, ∃ x182 : Bool, ∃ x192 : Bool, ∃ x202 : Bool, ∃ x2110 : Bool, ∃ x222 : Int, ∃ x232 : Int, ∃ x242 : Int, ∃ x252 : Int, ∃ x262 : Int, ∃ x272 : Int, CellsAt w104 ⟨g8, 0, none⟩ 0 [.int .i64 x034, .int .i64 x169, .int .u8 x219, .int .u8 x318, .int .u8 x410, .int .u8 x59, .int .u8 x69, .int .u8 x79, .int .u8 x89, .int .u8 x99, .int .u8 x109, .int .u8 x1114, .int .u8 x1213, .int .u8 x1311, .int .u8 x1411, .int .u8 x1511, .int .u8 x1610, .int .u8 x172, .bool x182, .bool x192, .bool x202, .bool x2110, .int .u8 x222, .int .u8 x232, .int .u8 x242, .int .u8 x252, .int .u8 x262, .int .u8 x272] ∧
    Br (!(((decide (x030 = x034)) && (((decide (x160 = x169)) && (((decide (x217 = x219)) && ((decide (x317 = x318)) && ((decide (x49 = x410)) && ((decide (x58 = x59)) && ((decide (x68 = x69)) && ((decide (x78 = x79)) && ((decide (x88 = x89)) && ((decide (x98 = x99)) && ((decide (x108 = x109)) && ((decide (x1113 = x1114)) && ((decide (x1212 = x1213)) && ((decide (x1310 = x1311)) && ((decide (x1410 = x1411)) && ((decide (x1510 = x1511)) && ((decide (x168 = x1610)) && ((decide (x171 = x172)) && true)))))))))))))))) && true)) && ((x181 == x182) && ((x191 == x192) && ((x201 == x202) && ((x218 == x2110) && (((decide (x221 = x222)) && ((decide (x231 = x232)) && ((decide (x241 = x242)) && ((decide (x251 = x252)) && ((decide (x261 = x262)) && ((decide (x271 = x272)) && true)))))) && true)))))))))
      (R (.returned (.bool false)) w104)
      (Calls Tryd.prog 33 #[.slice xA1 xn1 xc1, .slice xA5 xn5 xc5] w104 (onRet (fun r_19 w105 => ∃ x50 : Bool, r_19 = .bool x50 ∧
      Br (!x50)
        (R (.returned (.bool false)) w105)
        (∃ (xA9 : Option Addr) (xn9 xc9 : Nat), w105.cell? ⟨g3, 4, none⟩ = some (.slice xA9 xn9 xc9) ∧
        ∃ (xA10 : Option Addr) (xn10 xc10 : Nat), w105.cell? ⟨g4, 4, none⟩ = some (.slice xA10 xn10 xc10) ∧
        Calls Tryd.prog 33 #[.slice xA9 xn9 xc9, .slice xA10 xn10 xc10] w105 (onRet (fun r_20 w106 => ∃ x60 : Bool, r_20 = .bool x60 ∧
        Br (!x60)
    (R (.returned (.bool false)) w106)
    (Br (decide (i < (turnsn : Int)))
    (DrawVC w106 fun S4 w107 =>
    IdxVC turnsA turnsn 3 i fun a =>
    ∃ x70 : Int, (∀ w' : World, S4 w' → w'.cell? a = some (.int .i64 x70)) ∧
    IdxVC turnsA turnsn 3 i fun a1 =>
    ∃ x80 : Int, (∀ w' : World, S4 w' → w'.cell? (a1.add 2) = some (.int .i64 x80)) ∧
    Calls Tryd.prog 34 #[.slice xA1 xn1 xc1, .int .i64 x70, .int .i64 x80] w107 (onRet (fun r_21 w108 => r_21 = .tuple #[] ∧
    DrawVC w108 fun S5 w109 =>
    ∃ (xA11 : Option Addr) (xn11 xc11 : Nat), (∀ w' : World, S5 w' → w'.cell? ⟨g3, 4, none⟩ = some (.slice xA11 xn11 xc11)) ∧
    IdxVC turnsA turnsn 3 i fun a2 =>
    ∃ x90 : Int, (∀ w' : World, S5 w' → w'.cell? a2 = some (.int .i64 x90)) ∧
    IdxVC turnsA turnsn 3 i fun a3 =>
    ∃ x100 : Int, (∀ w' : World, S5 w' → w'.cell? (a3.add 2) = some (.int .i64 x100)) ∧
    Calls Tryd.prog 34 #[.slice xA11 xn11 xc11, .int .i64 x90, .int .i64 x100] w109 (onRet (fun r_22 w110 => r_22 = .tuple #[] ∧
    K250 (IntKind.i64.wrap (i + 1)) w110)
      (fun _ _ => False)))
      (fun _ _ => False)))
    (K250 (IntKind.i64.wrap (i + 1)) w106)))
          (fun ch20 w106 => R (.panicked ch20) w106))))
        (fun ch19 w105 => R (.panicked ch19) w105)))))
    (fun ch18 w75 => R (.panicked ch18) w75)))
    (fun ch17 w45 => R (.panicked ch17) w45))))
        (fun _ _ => False)))
        (fun _ _ => False))))
      (fun _ _ => False))))
    (fun ch13 w40 => R (.panicked ch13) w40)))
    (fun ch12 w39 => R (.panicked ch12) w39))))
      (fun ch11 w38 => R (.panicked ch11) w38)))
set_option maxRecDepth 100000 in
def weirlaw8_IcmpAgain_D8008 (R : Ending → World → Prop) (w19 : World) (g3 : Nat) (g4 : Nat) (g1 : Nat) (g2 : Nat) (v_ : Int) (xA1 : Option Addr) (xn1 : Nat) (xc1 : Nat) (xA5 : Option Addr) (xn5 : Nat) (xc5 : Nat) (i : Int) (turnsn : Nat) (turnsA : Option Addr) (K250 : (Int → World → Prop)) : Prop :=
  ∃ (xA6 : Option Addr) (xn6 xc6 : Nat), w19.cell? ⟨g3, 4, none⟩ = some (.slice xA6 xn6 xc6) ∧
  Calls Tryd.prog 15 #[.slice xA6 xn6 xc6] w19 (onRet (fun r_7 w20 => ∃ (xA7 : Option Addr) (xn7 xc7 : Nat), r_7 = .slice xA7 xn7 xc7 ∧
  SetVC w20 ⟨g4, 4, none⟩ (.slice xA7 xn7 xc7) fun w21 =>
  ∃ x01 : Int, ∃ x12 : Int, ∃ x21 : Int, ∃ x31 : Int, ∃ x4 : Int, ∃ x5 : Int, ∃ x6 : Int, ∃ x7 : Int, ∃ x8 : Int, ∃ x9 : Int, ∃ x10 : Int, ∃ x111 : Int, ∃ x121 : Int, ∃ x13 : Int, ∃ x14 : Int, ∃ x15 : Int, ∃ x16 : Int, CellsAt w21 ⟨g1, 0, none⟩ 0 [.int .i64 x01, .int .u8 x12, .int .u8 x21, .int .u8 x31, .int .u8 x4, .int .u8 x5, .int .u8 x6, .int .u8 x7, .int .u8 x8, .int .u8 x9, .int .u8 x10, .int .u8 x111, .int .u8 x121, .int .u8 x13, .int .u8 x14, .int .u8 x15, .int .u8 x16] ∧
  ∃ x02 : Int, ∃ x17 : Int, ∃ x22 : Int, ∃ x32 : Int, ∃ x41 : Int, ∃ x51 : Int, ∃ x61 : Int, ∃ x71 : Int, ∃ x81 : Int, ∃ x91 : Int, ∃ x101 : Int, ∃ x112 : Int, ∃ x122 : Int, ∃ x131 : Int, ∃ x141 : Int, ∃ x151 : Int, ∃ x161 : Int, CellsAt w21 ⟨g2, 0, none⟩ 0 [.int .i64 x02, .int .u8 x17, .int .u8 x22, .int .u8 x32, .int .u8 x41, .int .u8 x51, .int .u8 x61, .int .u8 x71, .int .u8 x81, .int .u8 x91, .int .u8 x101, .int .u8 x112, .int .u8 x122, .int .u8 x131, .int .u8 x141, .int .u8 x151, .int .u8 x161] ∧
  Calls Tryd.prog 29 #[.int .i64 v_, .agg #[.int .i64 x01, .int .u8 x12, .int .u8 x21, .int .u8 x31, .int .u8 x4, .int .u8 x5, .int .u8 x6, .int .u8 x7, .int .u8 x8, .int .u8 x9, .int .u8 x10, .int .u8 x111, .int .u8 x121, .int .u8 x13, .int .u8 x14, .int .u8 x15, .int .u8 x16], .agg #[.int .i64 x02, .int .u8 x17, .int .u8 x22, .int .u8 x32, .int .u8 x41, .int .u8 x51, .int .u8 x61, .int .u8 x71, .int .u8 x81, .int .u8 x91, .int .u8 x101, .int .u8 x112, .int .u8 x122, .int .u8 x131, .int .u8 x141, .int .u8 x151, .int .u8 x161], .slice xA1 xn1 xc1] w21 (onRet (fun r_8 w22 => ∃ x00 : Int, ∃ x011 : Int, ∃ x021 : Int, ∃ x03 : Int, ∃ (x04A : Option Addr) (x04n x04c : Nat), ∃ x18 : Int, r_8 = .tuple #[.agg #[.int .i64 x00, .int .i64 x011, .int .i64 x021, .int .i64 x03, .slice x04A x04n x04c], .int .i64 x18] ∧
  NewVC w22 (.cells #[.int .i64 0, .int .i64 0, .int .i64 0, .int .i64 0, .slice none 0 0] 24) fun g5 w23 =>
  SetVC w23 ⟨g5, 0, none⟩ (.int .i64 x00) fun w24 =>
  SetVC w24 ⟨g5, 1, none⟩ (.int .i64 x011) fun w25 =>
  SetVC w25 ⟨g5, 2, none⟩ (.int .i64 x021) fun w26 =>
  SetVC w26 ⟨g5, 3, none⟩ (.int .i64 x03) fun w27 =>
  SetVC w27 ⟨g5, 4, none⟩ (.slice x04A x04n x04c) fun w28 =>
  DrawVC w28 fun S2 w29 =>
  ∃ x04 : Int, ∃ x19 : Int, ∃ x23 : Int, ∃ x33 : Int, ∃ x42 : Int, ∃ x52 : Int, ∃ x62 : Int, ∃ x72 : Int, ∃ x82 : Int, ∃ x92 : Int, ∃ x102 : Int, ∃ x113 : Int, ∃ x123 : Int, ∃ x132 : Int, ∃ x142 : Int, ∃ x152 : Int, ∃ x162 : Int, (∀ w' : World, S2 w' → CellsAt w' ⟨g1, 0, none⟩ 0 [.int .i64 x04, .int .u8 x19, .int .u8 x23, .int .u8 x33, .int .u8 x42, .int .u8 x52, .int .u8 x62, .int .u8 x72, .int .u8 x82, .int .u8 x92, .int .u8 x102, .int .u8 x113, .int .u8 x123, .int .u8 x132, .int .u8 x142, .int .u8 x152, .int .u8 x162]) ∧
  ∃ x05 : Int, ∃ x110 : Int, ∃ x24 : Int, ∃ x34 : Int, ∃ x43 : Int, ∃ x53 : Int, ∃ x63 : Int, ∃ x73 : Int, ∃ x83 : Int, ∃ x93 : Int, ∃ x103 : Int, ∃ x114 : Int, ∃ x124 : Int, ∃ x133 : Int, ∃ x143 : Int, ∃ x153 : Int, ∃ x163 : Int, (∀ w' : World, S2 w' → CellsAt w' ⟨g2, 0, none⟩ 0 [.int .i64 x05, .int .u8 x110, .int .u8 x24, .int .u8 x34, .int .u8 x43, .int .u8 x53, .int .u8 x63, .int .u8 x73, .int .u8 x83, .int .u8 x93, .int .u8 x103, .int .u8 x114, .int .u8 x124, .int .u8 x133, .int .u8 x143, .int .u8 x153, .int .u8 x163]) ∧
  (Calls Tryd.prog 15 #[.slice xA1 xn1 xc1] w29 (onRet (fun r_9 w30 => ∃ (xA8 : Option Addr) (xn8 xc8 : Nat), r_9 = .slice xA8 xn8 xc8 ∧
  S2 w30 ∧
  (Calls Tryd.prog 30 #[.int .i64 v_, .agg #[.int .i64 x04, .int .u8 x19, .int .u8 x23, .int .u8 x33, .int .u8 x42, .int .u8 x52, .int .u8 x62, .int .u8 x72, .int .u8 x82, .int .u8 x92, .int .u8 x102, .int .u8 x113, .int .u8 x123, .int .u8 x132, .int .u8 x142, .int .u8 x152, .int .u8 x162], .agg #[.int .i64 x05, .int .u8 x110, .int .u8 x24, .int .u8 x34, .int .u8 x43, .int .u8 x53, .int .u8 x63, .int .u8 x73, .int .u8 x83, .int .u8 x93, .int .u8 x103, .int .u8 x114, .int .u8 x124, .int .u8 x133, .int .u8 x143, .int .u8 x153, .int .u8 x163], .slice xA8 xn8 xc8] w30 (onRet (fun r_10 w31 => ∃ x001 : Int, ∃ x012 : Int, ∃ x022 : Int, ∃ x031 : Int, ∃ (x04A1 : Option Addr) (x04n1 x04c1 : Nat), ∃ x115 : Int, r_10 = .tuple #[.agg #[.int .i64 x001, .int .i64 x012, .int .i64 x022, .int .i64 x031, .slice x04A1 x04n1 x04c1], .int .i64 x115] ∧
  S2 w31 ∧
  NewVC w31 (.cells #[.int .i64 0, .int .i64 0, .int .i64 0, .int .i64 0, .slice none 0 0] 24) fun g6 w32 =>
  S2 w32 ∧
  SetVC w32 ⟨g6, 0, none⟩ (.int .i64 x001) fun w33 =>
  SetVC w33 ⟨g6, 1, none⟩ (.int .i64 x012) fun w34 =>
  SetVC w34 ⟨g6, 2, none⟩ (.int .i64 x022) fun w35 =>
  SetVC w35 ⟨g6, 3, none⟩ (.int .i64 x031) fun w36 =>
  SetVC w36 ⟨g6, 4, none⟩ (.slice x04A1 x04n1 x04c1) fun w37 =>
  S2 w37 ∧
  weirlaw8_IcmpAgain_D64078 R x18 x115 w37 g5 g6 g1 g2 g3 g4 xA1 xn1 xc1 xA5 xn5 xc5 i turnsn turnsA K250)
    (fun _ _ => False))) ∧
  (NewVC w30 (.cells #[.int .i64 0, .int .i64 0, .int .i64 0, .int .i64 0, .slice none 0 0] 24) fun g9 w111 =>
  S2 w111 ∧
  Calls Tryd.prog 30 #[.int .i64 v_, .agg #[.int .i64 x04, .int .u8 x19, .int .u8 x23, .int .u8 x33, .int .u8 x42, .int .u8 x52, .int .u8 x62, .int .u8 x72, .int .u8 x82, .int .u8 x92, .int .u8 x102, .int .u8 x113, .int .u8 x123, .int .u8 x132, .int .u8 x142, .int .u8 x152, .int .u8 x162], .agg #[.int .i64 x05, .int .u8 x110, .int .u8 x24, .int .u8 x34, .int .u8 x43, .int .u8 x53, .int .u8 x63, .int .u8 x73, .int .u8 x83, .int .u8 x93, .int .u8 x103, .int .u8 x114, .int .u8 x124, .int .u8 x133, .int .u8 x143, .int .u8 x153, .int .u8 x163], .slice xA8 xn8 xc8] w111 (onRet (fun r_23 w112 => ∃ x004 : Int, ∃ x0113 : Int, ∃ x0210 : Int, ∃ x035 : Int, ∃ (x04A2 : Option Addr) (x04n2 x04c2 : Nat), ∃ x170 : Int, r_23 = .tuple #[.agg #[.int .i64 x004, .int .i64 x0113, .int .i64 x0210, .int .i64 x035, .slice x04A2 x04n2 x04c2], .int .i64 x170] ∧
  S2 w112 ∧
  SetVC w112 ⟨g9, 0, none⟩ (.int .i64 x004) fun w113 =>
  SetVC w113 ⟨g9, 1, none⟩ (.int .i64 x0113) fun w114 =>
  SetVC w114 ⟨g9, 2, none⟩ (.int .i64 x0210) fun w115 =>
  SetVC w115 ⟨g9, 3, none⟩ (.int .i64 x035) fun w116 =>
  SetVC w116 ⟨g9, 4, none⟩ (.slice x04A2 x04n2 x04c2) fun w117 =>
  S2 w117 ∧
  weirlaw8_IcmpAgain_D64078 R x18 x170 w117 g5 g9 g1 g2 g3 g4 xA1 xn1 xc1 xA5 xn5 xc5 i turnsn turnsA K250)
    (fun _ _ => False))))
    (fun _ _ => False))) ∧
  (NewVC w29 (.cells #[.int .i64 0, .int .i64 0, .int .i64 0, .int .i64 0, .slice none 0 0] 24) fun g12 w191 =>
  S2 w191 ∧
  Calls Tryd.prog 15 #[.slice xA1 xn1 xc1] w191 (onRet (fun r_36 w192 => ∃ (xA15 : Option Addr) (xn15 xc15 : Nat), r_36 = .slice xA15 xn15 xc15 ∧
  S2 w192 ∧
  Calls Tryd.prog 30 #[.int .i64 v_, .agg #[.int .i64 x04, .int .u8 x19, .int .u8 x23, .int .u8 x33, .int .u8 x42, .int .u8 x52, .int .u8 x62, .int .u8 x72, .int .u8 x82, .int .u8 x92, .int .u8 x102, .int .u8 x113, .int .u8 x123, .int .u8 x132, .int .u8 x142, .int .u8 x152, .int .u8 x162], .agg #[.int .i64 x05, .int .u8 x110, .int .u8 x24, .int .u8 x34, .int .u8 x43, .int .u8 x53, .int .u8 x63, .int .u8 x73, .int .u8 x83, .int .u8 x93, .int .u8 x103, .int .u8 x114, .int .u8 x124, .int .u8 x133, .int .u8 x143, .int .u8 x153, .int .u8 x163], .slice xA15 xn15 xc15] w192 (onRet (fun r_37 w193 => ∃ x007 : Int, ∃ x0118 : Int, ∃ x0217 : Int, ∃ x0312 : Int, ∃ (x04A3 : Option Addr) (x04n3 x04c3 : Nat), ∃ x1100 : Int, r_37 = .tuple #[.agg #[.int .i64 x007, .int .i64 x0118, .int .i64 x0217, .int .i64 x0312, .slice x04A3 x04n3 x04c3], .int .i64 x1100] ∧
  S2 w193 ∧
  SetVC w193 ⟨g12, 0, none⟩ (.int .i64 x007) fun w194 =>
  SetVC w194 ⟨g12, 1, none⟩ (.int .i64 x0118) fun w195 =>
  SetVC w195 ⟨g12, 2, none⟩ (.int .i64 x0217) fun w196 =>
  SetVC w196 ⟨g12, 3, none⟩ (.int .i64 x0312) fun w197 =>
  SetVC w197 ⟨g12, 4, none⟩ (.slice x04A3 x04n3 x04c3) fun w198 =>
  S2 w198 ∧
  weirlaw8_IcmpAgain_D64078 R x18 x1100 w198 g5 g12 g1 g2 g3 g4 xA1 xn1 xc1 xA5 xn5 xc5 i turnsn turnsA K250)
    (fun _ _ => False)))
    (fun _ _ => False))))
    (fun ch8 w22 => R (.panicked ch8) w22)))
    (fun ch7 w20 => R (.panicked ch7) w20))
set_option maxRecDepth 100000 in
def weirlaw8_IcmpAgain_L250 (R : Ending → World → Prop) (v_ : Int) (turnsA : Option Addr) (turnsn : Nat) (g1 : Nat) (g2 : Nat) (g3 : Nat) (xA1 : Option Addr) (xn1 : Nat) (xc1 : Nat) (J31 : (Unit → World → Prop)) (i : Int) (w11 : World) (K250 : (Int → World → Prop)) : Prop :=
  Br (decide (i ≤ (turnsn : Int)))
    (Br (decide (i ≤ 12))
    (DrawVC w11 fun S1 w12 =>
  ∃ x0 : Int, ∃ x11 : Int, ∃ x2 : Int, ∃ x3 : Int, ∃ (x4A : Option Addr) (x4n x4c : Nat), (∀ w' : World, S1 w' → CellsAt w' ⟨g3, 0, none⟩ 0 [.int .i64 x0, .int .i64 x11, .int .i64 x2, .int .i64 x3, .slice x4A x4n x4c]) ∧
  (Calls Tryd.prog 15 #[.slice xA1 xn1 xc1] w12 (onRet (fun r_6 w13 => ∃ (xA5 : Option Addr) (xn5 xc5 : Nat), r_6 = .slice xA5 xn5 xc5 ∧
  S1 w13 ∧
  NewVC w13 (.cells #[.int .i64 0, .int .i64 0, .int .i64 0, .int .i64 0, .slice none 0 0] 24) fun g4 w14 =>
  S1 w14 ∧
  SetVC w14 ⟨g4, 0, none⟩ (.int .i64 x0) fun w15 =>
  SetVC w15 ⟨g4, 1, none⟩ (.int .i64 x11) fun w16 =>
  SetVC w16 ⟨g4, 2, none⟩ (.int .i64 x2) fun w17 =>
  SetVC w17 ⟨g4, 3, none⟩ (.int .i64 x3) fun w18 =>
  SetVC w18 ⟨g4, 4, none⟩ (.slice x4A x4n x4c) fun w19 =>
  weirlaw8_IcmpAgain_D8008 R w19 g3 g4 g1 g2 v_ xA1 xn1 xc1 xA5 xn5 xc5 i turnsn turnsA K250)
    (fun _ _ => False))) ∧
  (NewVC w12 (.cells #[.int .i64 0, .int .i64 0, .int .i64 0, .int .i64 0, .slice none 0 0] 24) fun g15 w272 =>
  S1 w272 ∧
  Calls Tryd.prog 15 #[.slice xA1 xn1 xc1] w272 (onRet (fun r_50 w273 => ∃ (xA19 : Option Addr) (xn19 xc19 : Nat), r_50 = .slice xA19 xn19 xc19 ∧
  S1 w273 ∧
  SetVC w273 ⟨g15, 0, none⟩ (.int .i64 x0) fun w274 =>
  SetVC w274 ⟨g15, 1, none⟩ (.int .i64 x11) fun w275 =>
  SetVC w275 ⟨g15, 2, none⟩ (.int .i64 x2) fun w276 =>
  SetVC w276 ⟨g15, 3, none⟩ (.int .i64 x3) fun w277 =>
  SetVC w277 ⟨g15, 4, none⟩ (.slice x4A x4n x4c) fun w278 =>
  weirlaw8_IcmpAgain_D8008 R w278 g3 g15 g1 g2 v_ xA1 xn1 xc1 xA19 xn19 xc19 i turnsn turnsA K250)
    (fun _ _ => False))))
    (J31 () w11))
    (J31 () w11)
set_option maxRecDepth 100000 in
def weirlaw8_IcmpAgain_J31 (R : Ending → World → Prop)   (w531 : World) : Prop :=
  Calls Tryd.prog 25 #[] w531 (onRet (fun r_94 w532 => ∃ x406 : Bool, r_94 = .bool x406 ∧
  R (.returned (.bool x406)) w532)
    (fun ch94 w532 => R (.panicked ch94) w532))
set_option maxRecDepth 100000 in
def weirlaw8_IcmpAgain_VC (v_ : Int) (src_V : Int) (src_A0_ : Int) (src_A1_ : Int) (src_A2_ : Int) (src_A3_ : Int) (src_A4_ : Int) (src_A5_ : Int) (src_A6_ : Int) (src_A7_ : Int) (src_A8_ : Int) (src_A9_ : Int) (src_A10_ : Int) (src_A11_ : Int) (src_A12_ : Int) (src_A13_ : Int) (src_A14_ : Int) (src_A15_ : Int) (dst_V : Int) (dst_A0_ : Int) (dst_A1_ : Int) (dst_A2_ : Int) (dst_A3_ : Int) (dst_A4_ : Int) (dst_A5_ : Int) (dst_A6_ : Int) (dst_A7_ : Int) (dst_A8_ : Int) (dst_A9_ : Int) (dst_A10_ : Int) (dst_A11_ : Int) (dst_A12_ : Int) (dst_A13_ : Int) (dst_A14_ : Int) (dst_A15_ : Int) (bA : Option Addr) (bn : Nat) (bc : Nat) (m_V : Int) (m_Type : Int) (m_Code : Int) (m_Rest : Int) (m_DataA : Option Addr) (m_Datan : Nat) (m_Datac : Nat) (turnsA : Option Addr) (turnsn : Nat) (_turnsc : Nat) (w : World) (R : Ending → World → Prop) : Prop :=
  NewVC w (.cells #[.int .i64 src_V, .int .u8 src_A0_, .int .u8 src_A1_, .int .u8 src_A2_, .int .u8 src_A3_, .int .u8 src_A4_, .int .u8 src_A5_, .int .u8 src_A6_, .int .u8 src_A7_, .int .u8 src_A8_, .int .u8 src_A9_, .int .u8 src_A10_, .int .u8 src_A11_, .int .u8 src_A12_, .int .u8 src_A13_, .int .u8 src_A14_, .int .u8 src_A15_] 31) fun g1 w1 =>
  NewVC w1 (.cells #[.int .i64 dst_V, .int .u8 dst_A0_, .int .u8 dst_A1_, .int .u8 dst_A2_, .int .u8 dst_A3_, .int .u8 dst_A4_, .int .u8 dst_A5_, .int .u8 dst_A6_, .int .u8 dst_A7_, .int .u8 dst_A8_, .int .u8 dst_A9_, .int .u8 dst_A10_, .int .u8 dst_A11_, .int .u8 dst_A12_, .int .u8 dst_A13_, .int .u8 dst_A14_, .int .u8 dst_A15_] 31) fun g2 w2 =>
  NewVC w2 (.cells #[.int .i64 m_V, .int .i64 m_Type, .int .i64 m_Code, .int .i64 m_Rest, .slice m_DataA m_Datan m_Datac] 24) fun g3 w3 =>
  Calls Tryd.prog 25 #[] w3 (onRet (fun r_ w4 => ∃ x : Bool, r_ = .bool x ∧
  Br (!x)
    (R (.returned (.bool false)) w4)
    (Calls Tryd.prog 13 #[] w4 (onRet (fun r_1 w5 => ∃ x1 : Bool, r_1 = .bool x1 ∧
    Br (!x1)
    (R (.returned (.bool false)) w5)
    (Calls Tryd.prog 32 #[.slice bA bn bc] w5 (onRet (fun r_2 w6 => ∃ (xA : Option Addr) (xn xc : Nat), r_2 = .slice xA xn xc ∧
  Calls Tryd.prog 31 #[.slice xA xn xc] w6 (onRet (fun r_3 w7 => ∃ (xA1 : Option Addr) (xn1 xc1 : Nat), r_3 = .slice xA1 xn1 xc1 ∧
  ∃ (xA2 : Option Addr) (xn2 xc2 : Nat), w7.cell? ⟨g3, 4, none⟩ = some (.slice xA2 xn2 xc2) ∧
  Calls Tryd.prog 32 #[.slice xA2 xn2 xc2] w7 (onRet (fun r_4 w8 => ∃ (xA3 : Option Addr) (xn3 xc3 : Nat), r_4 = .slice xA3 xn3 xc3 ∧
  Calls Tryd.prog 31 #[.slice xA3 xn3 xc3] w8 (onRet (fun r_5 w9 => ∃ (xA4 : Option Addr) (xn4 xc4 : Nat), r_5 = .slice xA4 xn4 xc4 ∧
  SetVC w9 ⟨g3, 4, none⟩ (.slice xA4 xn4 xc4) fun w10 =>
  JoinVC (S := Unit) (fun J31 =>
      LoopVC (S := Int) (fun s_ w11 K250 => weirlaw8_IcmpAgain_L250 R v_ turnsA turnsn g1 g2 g3 xA1 xn1 xc1 J31 s_ w11 K250) 0 w10)
    (fun _ w531 => weirlaw8_IcmpAgain_J31 R w531))
    (fun ch5 w9 => R (.panicked ch5) w9)))
    (fun ch4 w8 => R (.panicked ch4) w8)))
    (fun ch3 w7 => R (.panicked ch3) w7)))
    (fun ch2 w6 => R (.panicked ch2) w6))))
      (fun ch1 w5 => R (.panicked ch1) w5))))
    (fun ch w4 => R (.panicked ch) w4))
def weirlaw8_IcmpAgain_H : Hints := [(250, [(14, .int .i64)]), (31, [])]
set_option maxRecDepth 100000 in
theorem weirlaw8_IcmpAgain_of (v_ : Int) (src_V : Int) (src_A0_ : Int) (src_A1_ : Int) (src_A2_ : Int) (src_A3_ : Int) (src_A4_ : Int) (src_A5_ : Int) (src_A6_ : Int) (src_A7_ : Int) (src_A8_ : Int) (src_A9_ : Int) (src_A10_ : Int) (src_A11_ : Int) (src_A12_ : Int) (src_A13_ : Int) (src_A14_ : Int) (src_A15_ : Int) (dst_V : Int) (dst_A0_ : Int) (dst_A1_ : Int) (dst_A2_ : Int) (dst_A3_ : Int) (dst_A4_ : Int) (dst_A5_ : Int) (dst_A6_ : Int) (dst_A7_ : Int) (dst_A8_ : Int) (dst_A9_ : Int) (dst_A10_ : Int) (dst_A11_ : Int) (dst_A12_ : Int) (dst_A13_ : Int) (dst_A14_ : Int) (dst_A15_ : Int) (bA : Option Addr) (bn : Nat) (bc : Nat) (m_V : Int) (m_Type : Int) (m_Code : Int) (m_Rest : Int) (m_DataA : Option Addr) (m_Datan : Nat) (m_Datac : Nat) (turnsA : Option Addr) (turnsn : Nat) (turnsc : Nat) (w : World) (R : Ending → World → Prop) (h : weirlaw8_IcmpAgain_VC v_ src_V src_A0_ src_A1_ src_A2_ src_A3_ src_A4_ src_A5_ src_A6_ src_A7_ src_A8_ src_A9_ src_A10_ src_A11_ src_A12_ src_A13_ src_A14_ src_A15_ dst_V dst_A0_ dst_A1_ dst_A2_ dst_A3_ dst_A4_ dst_A5_ dst_A6_ dst_A7_ dst_A8_ dst_A9_ dst_A10_ dst_A11_ dst_A12_ dst_A13_ dst_A14_ dst_A15_ bA bn bc m_V m_Type m_Code m_Rest m_DataA m_Datan m_Datac turnsA turnsn turnsc w R) :
    Calls Tryd.prog 9 #[.int .i64 v_, .agg #[.int .i64 src_V, .int .u8 src_A0_, .int .u8 src_A1_, .int .u8 src_A2_, .int .u8 src_A3_, .int .u8 src_A4_, .int .u8 src_A5_, .int .u8 src_A6_, .int .u8 src_A7_, .int .u8 src_A8_, .int .u8 src_A9_, .int .u8 src_A10_, .int .u8 src_A11_, .int .u8 src_A12_, .int .u8 src_A13_, .int .u8 src_A14_, .int .u8 src_A15_], .agg #[.int .i64 dst_V, .int .u8 dst_A0_, .int .u8 dst_A1_, .int .u8 dst_A2_, .int .u8 dst_A3_, .int .u8 dst_A4_, .int .u8 dst_A5_, .int .u8 dst_A6_, .int .u8 dst_A7_, .int .u8 dst_A8_, .int .u8 dst_A9_, .int .u8 dst_A10_, .int .u8 dst_A11_, .int .u8 dst_A12_, .int .u8 dst_A13_, .int .u8 dst_A14_, .int .u8 dst_A15_], .slice bA bn bc, .agg #[.int .i64 m_V, .int .i64 m_Type, .int .i64 m_Code, .int .i64 m_Rest, .slice m_DataA m_Datan m_Datac], .slice turnsA turnsn turnsc] w R :=
  calls_of_wpc callOk mixedOk (H := weirlaw8_IcmpAgain_H) (args := [.int .i64 v_, .agg #[.int .i64 src_V, .int .u8 src_A0_, .int .u8 src_A1_, .int .u8 src_A2_, .int .u8 src_A3_, .int .u8 src_A4_, .int .u8 src_A5_, .int .u8 src_A6_, .int .u8 src_A7_, .int .u8 src_A8_, .int .u8 src_A9_, .int .u8 src_A10_, .int .u8 src_A11_, .int .u8 src_A12_, .int .u8 src_A13_, .int .u8 src_A14_, .int .u8 src_A15_], .agg #[.int .i64 dst_V, .int .u8 dst_A0_, .int .u8 dst_A1_, .int .u8 dst_A2_, .int .u8 dst_A3_, .int .u8 dst_A4_, .int .u8 dst_A5_, .int .u8 dst_A6_, .int .u8 dst_A7_, .int .u8 dst_A8_, .int .u8 dst_A9_, .int .u8 dst_A10_, .int .u8 dst_A11_, .int .u8 dst_A12_, .int .u8 dst_A13_, .int .u8 dst_A14_, .int .u8 dst_A15_], .slice bA bn bc, .agg #[.int .i64 m_V, .int .i64 m_Type, .int .i64 m_Code, .int .i64 m_Rest, .slice m_DataA m_Datan m_Datac], .slice turnsA turnsn turnsc]) (fn := Tryd.f9) (c := bodyOf Tryd.f9) Tryd.func9 rfl (Nat.le_of_ble_eq_true rfl)
    (Eq.mp (by kernel_rfl : weirlaw8_IcmpAgain_VC v_ src_V src_A0_ src_A1_ src_A2_ src_A3_ src_A4_ src_A5_ src_A6_ src_A7_ src_A8_ src_A9_ src_A10_ src_A11_ src_A12_ src_A13_ src_A14_ src_A15_ dst_V dst_A0_ dst_A1_ dst_A2_ dst_A3_ dst_A4_ dst_A5_ dst_A6_ dst_A7_ dst_A8_ dst_A9_ dst_A10_ dst_A11_ dst_A12_ dst_A13_ dst_A14_ dst_A15_ bA bn bc m_V m_Type m_Code m_Rest m_DataA m_Datan m_Datac turnsA turnsn turnsc w R = wpc Tryd.prog callF Tryd.f9.ntmps weirlaw8_IcmpAgain_H 1 (bodyOf Tryd.f9) (argEnv 0 [.int .i64 v_, .agg #[.int .i64 src_V, .int .u8 src_A0_, .int .u8 src_A1_, .int .u8 src_A2_, .int .u8 src_A3_, .int .u8 src_A4_, .int .u8 src_A5_, .int .u8 src_A6_, .int .u8 src_A7_, .int .u8 src_A8_, .int .u8 src_A9_, .int .u8 src_A10_, .int .u8 src_A11_, .int .u8 src_A12_, .int .u8 src_A13_, .int .u8 src_A14_, .int .u8 src_A15_], .agg #[.int .i64 dst_V, .int .u8 dst_A0_, .int .u8 dst_A1_, .int .u8 dst_A2_, .int .u8 dst_A3_, .int .u8 dst_A4_, .int .u8 dst_A5_, .int .u8 dst_A6_, .int .u8 dst_A7_, .int .u8 dst_A8_, .int .u8 dst_A9_, .int .u8 dst_A10_, .int .u8 dst_A11_, .int .u8 dst_A12_, .int .u8 dst_A13_, .int .u8 dst_A14_, .int .u8 dst_A15_], .slice bA bn bc, .agg #[.int .i64 m_V, .int .i64 m_Type, .int .i64 m_Code, .int .i64 m_Rest, .slice m_DataA m_Datan m_Datac], .slice turnsA turnsn turnsc]) [] w (finish Tryd.prog callF Tryd.f9.results.toList R)) h)

set_option maxRecDepth 100000 in
def weirlaw2_Wide_L122 (R : Ending → World → Prop) (bn : Nat) (g1 : Nat) (i : Int) (w3 : World) (K122 : (Int → World → Prop)) : Prop :=
  Br (decide (i < ((IntKind.i64.wrap (IntKind.i64.wrap (2 * (bn : Int)) + 70)).toNat : Int)))
    (Calls Tryd.prog 67 #[.int .i64 (IntKind.i64.wrap (i - (bn : Int)))] w3 (onRet (fun r_ w4 => ∃ x : Int, r_ = .int .u8 x ∧
  IdxVC (some ⟨g1, 0, none⟩) ((IntKind.i64.wrap (IntKind.i64.wrap (2 * (bn : Int)) + 70)).toNat) 1 i fun a =>
  SetVC w4 a (.int .u8 x) fun w5 =>
  K122 (IntKind.i64.wrap (i + 1)) w5)
    (fun ch w4 => R (.panicked ch) w4)))
    (SliceVC (some ⟨g1, 0, none⟩) ((IntKind.i64.wrap (IntKind.i64.wrap (2 * (bn : Int)) + 70)).toNat) ((IntKind.i64.wrap (IntKind.i64.wrap (2 * (bn : Int)) + 70)).toNat) 1 none (some (bn : Int)) none fun sA sn sc =>
  R (.returned (.slice sA sn sc)) w3)
set_option maxRecDepth 100000 in
def weirlaw2_Wide_VC (bA : Option Addr) (bn : Nat) (bc : Nat) (w : World) (R : Ending → World → Prop) : Prop :=
  MakeVC w 5 1 [.int .u8 0] (IntKind.i64.wrap (IntKind.i64.wrap (2 * (bn : Int)) + 70)) (IntKind.i64.wrap (IntKind.i64.wrap (2 * (bn : Int)) + 70)) fun g1 w1 =>
  CopyVC Tryd.prog #[22, 22] 3 (.slice (some ⟨g1, 0, none⟩) ((IntKind.i64.wrap (IntKind.i64.wrap (2 * (bn : Int)) + 70)).toNat) ((IntKind.i64.wrap (IntKind.i64.wrap (2 * (bn : Int)) + 70)).toNat)) (.slice bA bn bc) w1 fun _m w2 =>
  LoopVC (S := Int) (fun s_ w3 K122 => weirlaw2_Wide_L122 R bn g1 s_ w3 K122) (bn : Int) w2
def weirlaw2_Wide_H : Hints := [(122, [(4, .int .i64)])]
set_option maxRecDepth 100000 in
theorem weirlaw2_Wide_of (bA : Option Addr) (bn : Nat) (bc : Nat) (w : World) (R : Ending → World → Prop) (h : weirlaw2_Wide_VC bA bn bc w R) :
    Calls Tryd.prog 31 #[.slice bA bn bc] w R :=
  calls_of_wpc callOk mixedOk (H := weirlaw2_Wide_H) (args := [.slice bA bn bc]) (fn := Tryd.f31) (c := bodyOf Tryd.f31) Tryd.func31 rfl (Nat.le_of_ble_eq_true rfl)
    (Eq.mp (by kernel_rfl : weirlaw2_Wide_VC bA bn bc w R = wpc Tryd.prog callF Tryd.f31.ntmps weirlaw2_Wide_H 1 (bodyOf Tryd.f31) (argEnv 0 [.slice bA bn bc]) [] w (finish Tryd.prog callF Tryd.f31.results.toList R)) h)

set_option maxRecDepth 100000 in
def weirlaw8_shorter_VC (bA : Option Addr) (bn : Nat) (bc : Nat) (w : World) (R : Ending → World → Prop) : Prop :=
  Br (decide ((66000 : Int) < (bn : Int)))
    (SliceVC bA bn bc 1 none (some 66000) none fun sA sn sc =>
    R (.returned (.slice sA sn sc)) w)
    (R (.returned (.slice bA bn bc)) w)
def weirlaw8_shorter_H : Hints := []
set_option maxRecDepth 100000 in
theorem weirlaw8_shorter_of (bA : Option Addr) (bn : Nat) (bc : Nat) (w : World) (R : Ending → World → Prop) (h : weirlaw8_shorter_VC bA bn bc w R) :
    Calls Tryd.prog 32 #[.slice bA bn bc] w R :=
  calls_of_wpc callOk mixedOk (H := weirlaw8_shorter_H) (args := [.slice bA bn bc]) (fn := Tryd.f32) (c := bodyOf Tryd.f32) Tryd.func32 rfl (Nat.le_of_ble_eq_true rfl)
    (Eq.mp (by kernel_rfl : weirlaw8_shorter_VC bA bn bc w R = wpc Tryd.prog callF Tryd.f32.ntmps weirlaw8_shorter_H 1 (bodyOf Tryd.f32) (argEnv 0 [.slice bA bn bc]) [] w (finish Tryd.prog callF Tryd.f32.results.toList R)) h)

set_option maxRecDepth 100000 in
def weirlaw2_WideStands_L122 (R : Ending → World → Prop) (bA : Option Addr) (bn : Nat) (sA : Option Addr) (sn : Nat) (i : Int) (w1 : World) (K122 : (Int → World → Prop)) : Prop :=
  Br (decide (i < (sn : Int)))
    (DrawVC w1 fun S1 w2 =>
  Br (decide (i < (bn : Int)))
    (IdxVC sA sn 1 i fun a =>
    ∃ x : Int, (∀ w' : World, S1 w' → w'.cell? a = some (.int .u8 x)) ∧
    IdxVC bA bn 1 i fun a1 =>
    ∃ x1 : Int, (∀ w' : World, S1 w' → w'.cell? a1 = some (.int .u8 x1)) ∧
    Br (decide (x ≠ x1))
      (R (.returned (.bool false)) w2)
      (Br (decide ((bn : Int) ≤ i))
        (IdxVC sA sn 1 i fun a2 =>
        ∃ x2 : Int, (∀ w' : World, S1 w' → w'.cell? a2 = some (.int .u8 x2)) ∧
        Calls Tryd.prog 67 #[.int .i64 (IntKind.i64.wrap (i - (bn : Int)))] w2 (onRet (fun r_ w3 => ∃ x3 : Int, r_ = .int .u8 x3 ∧
        S1 w3 ∧
        Br (decide (x2 ≠ x3))
    (R (.returned (.bool false)) w3)
    (K122 (IntKind.i64.wrap (i + 1)) w3))
          (fun _ _ => False)))
        (K122 (IntKind.i64.wrap (i + 1)) w2)))
    (Br (decide ((bn : Int) ≤ i))
      (IdxVC sA sn 1 i fun a3 =>
      ∃ x4 : Int, (∀ w' : World, S1 w' → w'.cell? a3 = some (.int .u8 x4)) ∧
      Calls Tryd.prog 67 #[.int .i64 (IntKind.i64.wrap (i - (bn : Int)))] w2 (onRet (fun r_1 w4 => ∃ x5 : Int, r_1 = .int .u8 x5 ∧
      S1 w4 ∧
      Br (decide (x4 ≠ x5))
    (R (.returned (.bool false)) w4)
    (K122 (IntKind.i64.wrap (i + 1)) w4))
        (fun _ _ => False)))
      (K122 (IntKind.i64.wrap (i + 1)) w2)))
    (R (.returned (.bool true)) w1)
set_option maxRecDepth 100000 in
def weirlaw2_WideStands_VC (wA : Option Addr) (wn : Nat) (wc : Nat) (bA : Option Addr) (bn : Nat) (_bc : Nat) (w : World) (R : Ending → World → Prop) : Prop :=
  Br (decide ((wn : Int) ≠ (bn : Int)))
    (R (.returned (.bool false)) w)
    (SliceVC wA wn wc 1 none (some (IntKind.i64.wrap (IntKind.i64.wrap (2 * (bn : Int)) + 70))) none fun sA sn _sc =>
  LoopVC (S := Int) (fun s_ w1 K122 => weirlaw2_WideStands_L122 R bA bn sA sn s_ w1 K122) 0 w)
def weirlaw2_WideStands_H : Hints := [(122, [(6, .int .i64)])]
set_option maxRecDepth 100000 in
theorem weirlaw2_WideStands_of (wA : Option Addr) (wn : Nat) (wc : Nat) (bA : Option Addr) (bn : Nat) (bc : Nat) (w : World) (R : Ending → World → Prop) (h : weirlaw2_WideStands_VC wA wn wc bA bn bc w R) :
    Calls Tryd.prog 33 #[.slice wA wn wc, .slice bA bn bc] w R :=
  calls_of_wpc callOk mixedOk (H := weirlaw2_WideStands_H) (args := [.slice wA wn wc, .slice bA bn bc]) (fn := Tryd.f33) (c := bodyOf Tryd.f33) Tryd.func33 rfl (Nat.le_of_ble_eq_true rfl)
    (Eq.mp (by kernel_rfl : weirlaw2_WideStands_VC wA wn wc bA bn bc w R = wpc Tryd.prog callF Tryd.f33.ntmps weirlaw2_WideStands_H 1 (bodyOf Tryd.f33) (argEnv 0 [.slice wA wn wc, .slice bA bn bc]) [] w (finish Tryd.prog callF Tryd.f33.results.toList R)) h)

set_option maxRecDepth 100000 in
def weirlaw8_put_VC (bA : Option Addr) (bn : Nat) (_bc : Nat) (at_ : Int) (by_ : Int) (w : World) (R : Ending → World → Prop) : Prop :=
  Br (decide ((0 : Int) < (bn : Int)))
    (Calls Tryd.prog 68 #[.int .i64 at_, .int .i64 (bn : Int)] w (onRet (fun r_ w1 => ∃ x : Int, r_ = .int .i64 x ∧
    IdxVC bA bn 1 x fun a =>
    SetVC w1 a (.int .u8 (IntKind.u8.wrap by_)) fun w2 =>
    R (.returned (.tuple #[])) w2)
      (fun ch w1 => R (.panicked ch) w1)))
    (R (.returned (.tuple #[])) w)
def weirlaw8_put_H : Hints := []
set_option maxRecDepth 100000 in
theorem weirlaw8_put_of (bA : Option Addr) (bn : Nat) (bc : Nat) (at_ : Int) (by_ : Int) (w : World) (R : Ending → World → Prop) (h : weirlaw8_put_VC bA bn bc at_ by_ w R) :
    Calls Tryd.prog 34 #[.slice bA bn bc, .int .i64 at_, .int .i64 by_] w R :=
  calls_of_wpc callOk mixedOk (H := weirlaw8_put_H) (args := [.slice bA bn bc, .int .i64 at_, .int .i64 by_]) (fn := Tryd.f34) (c := bodyOf Tryd.f34) Tryd.func34 rfl (Nat.le_of_ble_eq_true rfl)
    (Eq.mp (by kernel_rfl : weirlaw8_put_VC bA bn bc at_ by_ w R = wpc Tryd.prog callF Tryd.f34.ntmps weirlaw8_put_H 1 (bodyOf Tryd.f34) (argEnv 0 [.slice bA bn bc, .int .i64 at_, .int .i64 by_]) [] w (finish Tryd.prog callF Tryd.f34.results.toList R)) h)

set_option maxRecDepth 100000 in
def weirlaw2_behind_VC (i : Int) (w : World) (R : Ending → World → Prop) : Prop :=
  R (.returned (.int .u8 (IntKind.u8.wrap (IntKind.i64.wrap (203 - IntKind.i64.wrap (5 * i)))))) w
def weirlaw2_behind_H : Hints := []
set_option maxRecDepth 100000 in
theorem weirlaw2_behind_of (i : Int) (w : World) (R : Ending → World → Prop) (h : weirlaw2_behind_VC i w R) :
    Calls Tryd.prog 67 #[.int .i64 i] w R :=
  calls_of_wpc callOk mixedOk (H := weirlaw2_behind_H) (args := [.int .i64 i]) (fn := Tryd.f67) (c := bodyOf Tryd.f67) Tryd.func67 rfl (Nat.le_of_ble_eq_true rfl)
    (Eq.mp (by kernel_rfl : weirlaw2_behind_VC i w R = wpc Tryd.prog callF Tryd.f67.ntmps weirlaw2_behind_H 1 (bodyOf Tryd.f67) (argEnv 0 [.int .i64 i]) [] w (finish Tryd.prog callF Tryd.f67.results.toList R)) h)

set_option maxRecDepth 100000 in
def weirlaw2_Place_VC (i : Int) (n : Int) (w : World) (R : Ending → World → Prop) : Prop :=
  DivVC n (
  R (.returned (.int .i64 (Int.tmod (bitv .and .i64 i 1099511627775) n))) w)
def weirlaw2_Place_H : Hints := []
set_option maxRecDepth 100000 in
theorem weirlaw2_Place_of (i : Int) (n : Int) (w : World) (R : Ending → World → Prop) (h : weirlaw2_Place_VC i n w R) :
    Calls Tryd.prog 68 #[.int .i64 i, .int .i64 n] w R :=
  calls_of_wpc callOk mixedOk (H := weirlaw2_Place_H) (args := [.int .i64 i, .int .i64 n]) (fn := Tryd.f68) (c := bodyOf Tryd.f68) Tryd.func68 rfl (Nat.le_of_ble_eq_true rfl)
    (Eq.mp (by kernel_rfl : weirlaw2_Place_VC i n w R = wpc Tryd.prog callF Tryd.f68.ntmps weirlaw2_Place_H 1 (bodyOf Tryd.f68) (argEnv 0 [.int .i64 i, .int .i64 n]) [] w (finish Tryd.prog callF Tryd.f68.results.toList R)) h)
end Nd
end Go.Proofs.YtjngdcilnipjcaaDoor
