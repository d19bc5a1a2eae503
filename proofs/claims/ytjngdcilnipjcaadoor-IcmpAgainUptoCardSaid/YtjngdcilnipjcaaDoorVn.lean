/- WRITTEN BY a program of this session (vc.py): for each Go function the condition that is enough for its contract, and the theorem that it is. -/
import Derived.Test.YtjngdcilnipjcaaDoorProg
import Derived.Test.YtjngdcilnipjcaaDoorEngC
import Derived.Test.YtjngdcilnipjcaaDoorV
import Derived.Test.YtjngdcilnipjcaaDoorVc
namespace Go.Proofs.YtjngdcilnipjcaaDoor
open Go.Eng
namespace Nd

set_option maxRecDepth 100000 in
def weirlaw8_IcmpNds_VC (m_V : Int) (m_Type : Int) (m_Code : Int) (m_Rest : Int) (m_DataA : Option Addr) (m_Datan : Nat) (m_Datac : Nat) (w : World) (R : Ending → World → Prop) : Prop :=
  NewVC w (.cells #[.int .i64 m_V, .int .i64 m_Type, .int .i64 m_Code, .int .i64 m_Rest, .slice m_DataA m_Datan m_Datac] 24) fun g1 w1 =>
  Calls Tryd.prog 13 #[] w1 (onRet (fun r_ w2 => ∃ x : Bool, r_ = .bool x ∧
  Br (!x)
    (R (.returned (.bool false)) w2)
    (∃ (xA : Option Addr) (xn xc : Nat), w2.cell? ⟨g1, 4, none⟩ = some (.slice xA xn xc) ∧
  Calls Tryd.prog 14 #[.slice xA xn xc] w2 (onRet (fun r_1 w3 => ∃ (x0A : Option Addr) (x0n x0c : Nat), ∃ (x1A : Option Addr) (x1n x1c : Nat), r_1 = .tuple #[.slice x0A x0n x0c, .slice x1A x1n x1c] ∧
  Calls Tryd.prog 15 #[.slice x1A x1n x1c] w3 (onRet (fun r_2 w4 => ∃ (xA1 : Option Addr) (xn1 xc1 : Nat), r_2 = .slice xA1 xn1 xc1 ∧
  SetVC w4 ⟨g1, 4, none⟩ (.slice x0A x0n x0c) fun w5 =>
  ∃ x0 : Int, ∃ x1 : Int, ∃ x2 : Int, ∃ x3 : Int, ∃ (x4A : Option Addr) (x4n x4c : Nat), CellsAt w5 ⟨g1, 0, none⟩ 0 [.int .i64 x0, .int .i64 x1, .int .i64 x2, .int .i64 x3, .slice x4A x4n x4c] ∧
  Calls Tryd.prog 16 #[.agg #[.int .i64 x0, .int .i64 x1, .int .i64 x2, .int .i64 x3, .slice x4A x4n x4c]] w5 (onRet (fun r_3 w6 => ∃ x00 : Int, ∃ x01 : Int, ∃ x02 : Int, ∃ x03 : Int, ∃ x04 : Int, ∃ x05 : Int, ∃ x06 : Int, ∃ x07 : Int, ∃ x08 : Int, ∃ x09 : Int, ∃ x010 : Int, ∃ x011 : Int, ∃ x012 : Int, ∃ x013 : Int, ∃ x014 : Int, ∃ x015 : Int, ∃ x016 : Int, ∃ x017 : Int, ∃ x018 : Bool, ∃ x019 : Bool, ∃ x020 : Bool, ∃ x021 : Bool, ∃ x022 : Int, ∃ x023 : Int, ∃ x024 : Int, ∃ x025 : Int, ∃ x026 : Int, ∃ x027 : Int, ∃ x11 : Int, r_3 = .tuple #[.agg #[.int .i64 x00, .int .i64 x01, .int .u8 x02, .int .u8 x03, .int .u8 x04, .int .u8 x05, .int .u8 x06, .int .u8 x07, .int .u8 x08, .int .u8 x09, .int .u8 x010, .int .u8 x011, .int .u8 x012, .int .u8 x013, .int .u8 x014, .int .u8 x015, .int .u8 x016, .int .u8 x017, .bool x018, .bool x019, .bool x020, .bool x021, .int .u8 x022, .int .u8 x023, .int .u8 x024, .int .u8 x025, .int .u8 x026, .int .u8 x027], .int .i64 x11] ∧
  NewVC w6 (.cells #[.int .i64 0, .int .i64 0, .int .u8 0, .int .u8 0, .int .u8 0, .int .u8 0, .int .u8 0, .int .u8 0, .int .u8 0, .int .u8 0, .int .u8 0, .int .u8 0, .int .u8 0, .int .u8 0, .int .u8 0, .int .u8 0, .int .u8 0, .int .u8 0, .bool false, .bool false, .bool false, .bool false, .int .u8 0, .int .u8 0, .int .u8 0, .int .u8 0, .int .u8 0, .int .u8 0] 35) fun g2 w7 =>
  SetVC w7 ⟨g2, 0, none⟩ (.int .i64 x00) fun w8 =>
  SetVC w8 ⟨g2, 1, none⟩ (.int .i64 x01) fun w9 =>
  SetVC w9 ⟨g2, 2, none⟩ (.int .u8 x02) fun w10 =>
  SetVC w10 ⟨g2, 3, none⟩ (.int .u8 x03) fun w11 =>
  SetVC w11 ⟨g2, 4, none⟩ (.int .u8 x04) fun w12 =>
  SetVC w12 ⟨g2, 5, none⟩ (.int .u8 x05) fun w13 =>
  SetVC w13 ⟨g2, 6, none⟩ (.int .u8 x06) fun w14 =>
  SetVC w14 ⟨g2, 7, none⟩ (.int .u8 x07) fun w15 =>
  SetVC w15 ⟨g2, 8, none⟩ (.int .u8 x08) fun w16 =>
  SetVC w16 ⟨g2, 9, none⟩ (.int .u8 x09) fun w17 =>
  SetVC w17 ⟨g2, 10, none⟩ (.int .u8 x010) fun w18 =>
  SetVC w18 ⟨g2, 11, none⟩ (.int .u8 x011) fun w19 =>
  SetVC w19 ⟨g2, 12, none⟩ (.int .u8 x012) fun w20 =>
  SetVC w20 ⟨g2, 13, none⟩ (.int .u8 x013) fun w21 =>
  SetVC w21 ⟨g2, 14, none⟩ (.int .u8 x014) fun w22 =>
  SetVC w22 ⟨g2, 15, none⟩ (.int .u8 x015) fun w23 =>
  SetVC w23 ⟨g2, 16, none⟩ (.int .u8 x016) fun w24 =>
  SetVC w24 ⟨g2, 17, none⟩ (.int .u8 x017) fun w25 =>
  SetVC w25 ⟨g2, 18, none⟩ (.bool x018) fun w26 =>
  SetVC w26 ⟨g2, 19, none⟩ (.bool x019) fun w27 =>
  SetVC w27 ⟨g2, 20, none⟩ (.bool x020) fun w28 =>
  SetVC w28 ⟨g2, 21, none⟩ (.bool x021) fun w29 =>
  SetVC w29 ⟨g2, 22, none⟩ (.int .u8 x022) fun w30 =>
  SetVC w30 ⟨g2, 23, none⟩ (.int .u8 x023) fun w31 =>
  SetVC w31 ⟨g2, 24, none⟩ (.int .u8 x024) fun w32 =>
  SetVC w32 ⟨g2, 25, none⟩ (.int .u8 x025) fun w33 =>
  SetVC w33 ⟨g2, 26, none⟩ (.int .u8 x026) fun w34 =>
  SetVC w34 ⟨g2, 27, none⟩ (.int .u8 x027) fun w35 =>
  Calls Tryd.prog 15 #[.slice x0A x0n x0c] w35 (onRet (fun r_4 w36 => ∃ (xA2 : Option Addr) (xn2 xc2 : Nat), r_4 = .slice xA2 xn2 xc2 ∧
  SetVC w36 ⟨g1, 4, none⟩ (.slice xA2 xn2 xc2) fun w37 =>
  ∃ x028 : Int, ∃ x12 : Int, ∃ x21 : Int, ∃ x31 : Int, ∃ (x4A1 : Option Addr) (x4n1 x4c1 : Nat), CellsAt w37 ⟨g1, 0, none⟩ 0 [.int .i64 x028, .int .i64 x12, .int .i64 x21, .int .i64 x31, .slice x4A1 x4n1 x4c1] ∧
  Calls Tryd.prog 17 #[.agg #[.int .i64 x028, .int .i64 x12, .int .i64 x21, .int .i64 x31, .slice x4A1 x4n1 x4c1]] w37 (onRet (fun r_5 w38 => ∃ x001 : Int, ∃ x0110 : Int, ∃ x029 : Int, ∃ x031 : Int, ∃ x041 : Int, ∃ x051 : Int, ∃ x061 : Int, ∃ x071 : Int, ∃ x081 : Int, ∃ x091 : Int, ∃ x0101 : Int, ∃ x0111 : Int, ∃ x0121 : Int, ∃ x0131 : Int, ∃ x0141 : Int, ∃ x0151 : Int, ∃ x0161 : Int, ∃ x0171 : Int, ∃ x0181 : Bool, ∃ x0191 : Bool, ∃ x0201 : Bool, ∃ x0211 : Bool, ∃ x0221 : Int, ∃ x0231 : Int, ∃ x0241 : Int, ∃ x0251 : Int, ∃ x0261 : Int, ∃ x0271 : Int, ∃ x13 : Int, r_5 = .tuple #[.agg #[.int .i64 x001, .int .i64 x0110, .int .u8 x029, .int .u8 x031, .int .u8 x041, .int .u8 x051, .int .u8 x061, .int .u8 x071, .int .u8 x081, .int .u8 x091, .int .u8 x0101, .int .u8 x0111, .int .u8 x0121, .int .u8 x0131, .int .u8 x0141, .int .u8 x0151, .int .u8 x0161, .int .u8 x0171, .bool x0181, .bool x0191, .bool x0201, .bool x0211, .int .u8 x0221, .int .u8 x0231, .int .u8 x0241, .int .u8 x0251, .int .u8 x0261, .int .u8 x0271], .int .i64 x13] ∧
  NewVC w38 (.cells #[.int .i64 0, .int .i64 0, .int .u8 0, .int .u8 0, .int .u8 0, .int .u8 0, .int .u8 0, .int .u8 0, .int .u8 0, .int .u8 0, .int .u8 0, .int .u8 0, .int .u8 0, .int .u8 0, .int .u8 0, .int .u8 0, .int .u8 0, .int .u8 0, .bool false, .bool false, .bool false, .bool false, .int .u8 0, .int .u8 0, .int .u8 0, .int .u8 0, .int .u8 0, .int .u8 0] 35) fun g3 w39 =>
  SetVC w39 ⟨g3, 0, none⟩ (.int .i64 x001) fun w40 =>
  SetVC w40 ⟨g3, 1, none⟩ (.int .i64 x0110) fun w41 =>
  SetVC w41 ⟨g3, 2, none⟩ (.int .u8 x029) fun w42 =>
  SetVC w42 ⟨g3, 3, none⟩ (.int .u8 x031) fun w43 =>
  SetVC w43 ⟨g3, 4, none⟩ (.int .u8 x041) fun w44 =>
  SetVC w44 ⟨g3, 5, none⟩ (.int .u8 x051) fun w45 =>
  SetVC w45 ⟨g3, 6, none⟩ (.int .u8 x061) fun w46 =>
  SetVC w46 ⟨g3, 7, none⟩ (.int .u8 x071) fun w47 =>
  SetVC w47 ⟨g3, 8, none⟩ (.int .u8 x081) fun w48 =>
  SetVC w48 ⟨g3, 9, none⟩ (.int .u8 x091) fun w49 =>
  SetVC w49 ⟨g3, 10, none⟩ (.int .u8 x0101) fun w50 =>
  SetVC w50 ⟨g3, 11, none⟩ (.int .u8 x0111) fun w51 =>
  SetVC w51 ⟨g3, 12, none⟩ (.int .u8 x0121) fun w52 =>
  SetVC w52 ⟨g3, 13, none⟩ (.int .u8 x0131) fun w53 =>
  SetVC w53 ⟨g3, 14, none⟩ (.int .u8 x0141) fun w54 =>
  SetVC w54 ⟨g3, 15, none⟩ (.int .u8 x0151) fun w55 =>
  SetVC w55 ⟨g3, 16, none⟩ (.int .u8 x0161) fun w56 =>
  SetVC w56 ⟨g3, 17, none⟩ (.int .u8 x0171) fun w57 =>
  SetVC w57 ⟨g3, 18, none⟩ (.bool x0181) fun w58 =>
  SetVC w58 ⟨g3, 19, none⟩ (.bool x0191) fun w59 =>
  SetVC w59 ⟨g3, 20, none⟩ (.bool x0201) fun w60 =>
  SetVC w60 ⟨g3, 21, none⟩ (.bool x0211) fun w61 =>
  SetVC w61 ⟨g3, 22, none⟩ (.int .u8 x0221) fun w62 =>
  SetVC w62 ⟨g3, 23, none⟩ (.int .u8 x0231) fun w63 =>
  SetVC w63 ⟨g3, 24, none⟩ (.int .u8 x0241) fun w64 =>
  SetVC w64 ⟨g3, 25, none⟩ (.int .u8 x0251) fun w65 =>
  SetVC w65 ⟨g3, 26, none⟩ (.int .u8 x0261) fun w66 =>
  SetVC w66 ⟨g3, 27, none⟩ (.int .u8 x0271) fun w67 =>
  Br (decide (x11 = x13))
    (∃ x030 : Int, ∃ x14 : Int, ∃ x22 : Int, ∃ x32 : Int, ∃ x4 : Int, ∃ x5 : Int, ∃ x6 : Int, ∃ x7 : Int, ∃ x8 : Int, ∃ x9 : Int, ∃ x10 : Int, ∃ x111 : Int, ∃ x121 : Int, ∃ x131 : Int, ∃ x141 : Int, ∃ x15 : Int, ∃ x16 : Int, ∃ x17 : Int, ∃ x18 : Bool, ∃ x19 : Bool, ∃ x20 : Bool, ∃ x211 : Bool, ∃ x221 : Int, ∃ x23 : Int, ∃ x24 : Int, ∃ x25 : Int, ∃ x26 : Int, ∃ x27 : Int, CellsAt w67 ⟨g2, 0, none⟩ 0 [.int .i64 x030, .int .i64 x14, .int .u8 x22, .int .u8 x32, .int .u8 x4, .int .u8 x5, .int .u8 x6, .int .u8 x7, .int .u8 x8, .int .u8 x9, .int .u8 x10, .int .u8 x111, .int .u8 x121, .int .u8 x131, .int .u8 x141, .int .u8 x15, .int .u8 x16, .int .u8 x17, .bool x18, .bool x19, .bool x20, .bool x211, .int .u8 x221, .int .u8 x23, .int .u8 x24, .int .u8 x25, .int .u8 x26, .int .u8 x27] ∧
    ∃ x032 : Int, ∃ x110 : Int, ∃ x28 : Int, ∃ x33 : Int, ∃ x41 : Int, ∃ x51 : Int, ∃ x61 : Int, ∃ x71 : Int, ∃ x81 : Int, ∃ x91 : Int, ∃ x101 : Int, ∃ x112 : Int, ∃ x122 : Int, ∃ x132 : Int, ∃ x142 : Int, ∃ x151 : Int, ∃ x161 : Int, ∃ x171 : Int, ∃ x181 : Bool, ∃ x191 : Bool, ∃ x201 : Bool, ∃ x212 : Bool, ∃ x222 : Int, ∃ x231 : Int, ∃ x241 : Int, ∃ x251 : Int, ∃ x261 : Int, ∃ x271 : Int, CellsAt w67 ⟨g3, 0, none⟩ 0 [.int .i64 x032, .int .i64 x110, .int .u8 x28, .int .u8 x33, .int .u8 x41, .int .u8 x51, .int .u8 x61, .int .u8 x71, .int .u8 x81, .int .u8 x91, .int .u8 x101, .int .u8 x112, .int .u8 x122, .int .u8 x132, .int .u8 x142, .int .u8 x151, .int .u8 x161, .int .u8 x171, .bool x181, .bool x191, .bool x201, .bool x212, .int .u8 x222, .int .u8 x231, .int .u8 x241, .int .u8 x251, .int .u8 x261, .int .u8 x271] ∧
    Br ((decide (x030 = x032)) && (((decide (x14 = x110)) && (((decide (x22 = x28)) && ((decide (x32 = x33)) && ((decide (x4 = x41)) && ((decide (x5 = x51)) && ((decide (x6 = x61)) && ((decide (x7 = x71)) && ((decide (x8 = x81)) && ((decide (x9 = x91)) && ((decide (x10 = x101)) && ((decide (x111 = x112)) && ((decide (x121 = x122)) && ((decide (x131 = x132)) && ((decide (x141 = x142)) && ((decide (x15 = x151)) && ((decide (x16 = x161)) && ((decide (x17 = x171)) && true)))))))))))))))) && true)) && ((x18 == x181) && ((x19 == x191) && ((x20 == x201) && ((x211 == x212) && (((decide (x221 = x222)) && ((decide (x23 = x231)) && ((decide (x24 = x241)) && ((decide (x25 = x251)) && ((decide (x26 = x261)) && ((decide (x27 = x271)) && true)))))) && true)))))))
      (Calls Tryd.prog 18 #[.slice x1A x1n x1c, .slice xA1 xn1 xc1] w67 (onRet (fun r_6 w68 => ∃ x29 : Bool, r_6 = .bool x29 ∧
      R (.returned (.bool x29)) w68)
        (fun ch6 w68 => R (.panicked ch6) w68)))
      (R (.returned (.bool false)) w67))
    (R (.returned (.bool false)) w67))
    (fun ch5 w38 => R (.panicked ch5) w38)))
    (fun ch4 w36 => R (.panicked ch4) w36)))
    (fun ch3 w6 => R (.panicked ch3) w6)))
    (fun ch2 w4 => R (.panicked ch2) w4)))
    (fun ch1 w3 => R (.panicked ch1) w3))))
    (fun ch w2 => R (.panicked ch) w2))
def weirlaw8_IcmpNds_H : Hints := []
set_option maxRecDepth 100000 in
theorem weirlaw8_IcmpNds_of (m_V : Int) (m_Type : Int) (m_Code : Int) (m_Rest : Int) (m_DataA : Option Addr) (m_Datan : Nat) (m_Datac : Nat) (w : World) (R : Ending → World → Prop) (h : weirlaw8_IcmpNds_VC m_V m_Type m_Code m_Rest m_DataA m_Datan m_Datac w R) :
    Calls Tryd.prog 3 #[.agg #[.int .i64 m_V, .int .i64 m_Type, .int .i64 m_Code, .int .i64 m_Rest, .slice m_DataA m_Datan m_Datac]] w R :=
  calls_of_wpc callOk mixedOk (H := weirlaw8_IcmpNds_H) (args := [.agg #[.int .i64 m_V, .int .i64 m_Type, .int .i64 m_Code, .int .i64 m_Rest, .slice m_DataA m_Datan m_Datac]]) (fn := Tryd.f3) (c := bodyOf Tryd.f3) Tryd.func3 rfl (Nat.le_of_ble_eq_true rfl)
    (Eq.mp (by kernel_rfl : weirlaw8_IcmpNds_VC m_V m_Type m_Code m_Rest m_DataA m_Datan m_Datac w R = wpc Tryd.prog callF Tryd.f3.ntmps weirlaw8_IcmpNds_H 1 (bodyOf Tryd.f3) (argEnv 0 [.agg #[.int .i64 m_V, .int .i64 m_Type, .int .i64 m_Code, .int .i64 m_Rest, .slice m_DataA m_Datan m_Datac]]) [] w (finish Tryd.prog callF Tryd.f3.results.toList R)) h)

set_option maxRecDepth 100000 in
def weirlaw8_IcmpNdPuts_VC (n_Kind : Int) (n_TargetV : Int) (n_TargetA0_ : Int) (n_TargetA1_ : Int) (n_TargetA2_ : Int) (n_TargetA3_ : Int) (n_TargetA4_ : Int) (n_TargetA5_ : Int) (n_TargetA6_ : Int) (n_TargetA7_ : Int) (n_TargetA8_ : Int) (n_TargetA9_ : Int) (n_TargetA10_ : Int) (n_TargetA11_ : Int) (n_TargetA12_ : Int) (n_TargetA13_ : Int) (n_TargetA14_ : Int) (n_TargetA15_ : Int) (n_Router : Bool) (n_Solicited : Bool) (n_Override : Bool) (n_HasMac : Bool) (n_Mac0_ : Int) (n_Mac1_ : Int) (n_Mac2_ : Int) (n_Mac3_ : Int) (n_Mac4_ : Int) (n_Mac5_ : Int) (w : World) (R : Ending → World → Prop) : Prop :=
  NewVC w (.cells #[.int .i64 n_Kind, .int .i64 n_TargetV, .int .u8 n_TargetA0_, .int .u8 n_TargetA1_, .int .u8 n_TargetA2_, .int .u8 n_TargetA3_, .int .u8 n_TargetA4_, .int .u8 n_TargetA5_, .int .u8 n_TargetA6_, .int .u8 n_TargetA7_, .int .u8 n_TargetA8_, .int .u8 n_TargetA9_, .int .u8 n_TargetA10_, .int .u8 n_TargetA11_, .int .u8 n_TargetA12_, .int .u8 n_TargetA13_, .int .u8 n_TargetA14_, .int .u8 n_TargetA15_, .bool n_Router, .bool n_Solicited, .bool n_Override, .bool n_HasMac, .int .u8 n_Mac0_, .int .u8 n_Mac1_, .int .u8 n_Mac2_, .int .u8 n_Mac3_, .int .u8 n_Mac4_, .int .u8 n_Mac5_] 35) fun g1 w1 =>
  Calls Tryd.prog 13 #[] w1 (onRet (fun r_ w2 => ∃ x : Bool, r_ = .bool x ∧
  Br (!x)
    (R (.returned (.bool false)) w2)
    (∃ x0 : Int, ∃ x1 : Int, ∃ x2 : Int, ∃ x3 : Int, ∃ x4 : Int, ∃ x5 : Int, ∃ x6 : Int, ∃ x7 : Int, ∃ x8 : Int, ∃ x9 : Int, ∃ x10 : Int, ∃ x11 : Int, ∃ x12 : Int, ∃ x13 : Int, ∃ x14 : Int, ∃ x15 : Int, ∃ x16 : Int, ∃ x17 : Int, ∃ x18 : Bool, ∃ x19 : Bool, ∃ x20 : Bool, ∃ x21 : Bool, ∃ x22 : Int, ∃ x23 : Int, ∃ x24 : Int, ∃ x25 : Int, ∃ x26 : Int, ∃ x27 : Int, CellsAt w2 ⟨g1, 0, none⟩ 0 [.int .i64 x0, .int .i64 x1, .int .u8 x2, .int .u8 x3, .int .u8 x4, .int .u8 x5, .int .u8 x6, .int .u8 x7, .int .u8 x8, .int .u8 x9, .int .u8 x10, .int .u8 x11, .int .u8 x12, .int .u8 x13, .int .u8 x14, .int .u8 x15, .int .u8 x16, .int .u8 x17, .bool x18, .bool x19, .bool x20, .bool x21, .int .u8 x22, .int .u8 x23, .int .u8 x24, .int .u8 x25, .int .u8 x26, .int .u8 x27] ∧
  Calls Tryd.prog 19 #[.agg #[.int .i64 x0, .int .i64 x1, .int .u8 x2, .int .u8 x3, .int .u8 x4, .int .u8 x5, .int .u8 x6, .int .u8 x7, .int .u8 x8, .int .u8 x9, .int .u8 x10, .int .u8 x11, .int .u8 x12, .int .u8 x13, .int .u8 x14, .int .u8 x15, .int .u8 x16, .int .u8 x17, .bool x18, .bool x19, .bool x20, .bool x21, .int .u8 x22, .int .u8 x23, .int .u8 x24, .int .u8 x25, .int .u8 x26, .int .u8 x27]] w2 (onRet (fun r_1 w3 => ∃ x00 : Int, ∃ x01 : Int, ∃ x02 : Int, ∃ x03 : Int, ∃ (x04A : Option Addr) (x04n x04c : Nat), ∃ x110 : Int, r_1 = .tuple #[.agg #[.int .i64 x00, .int .i64 x01, .int .i64 x02, .int .i64 x03, .slice x04A x04n x04c], .int .i64 x110] ∧
  NewVC w3 (.cells #[.int .i64 0, .int .i64 0, .int .i64 0, .int .i64 0, .slice none 0 0] 24) fun g2 w4 =>
  SetVC w4 ⟨g2, 0, none⟩ (.int .i64 x00) fun w5 =>
  SetVC w5 ⟨g2, 1, none⟩ (.int .i64 x01) fun w6 =>
  SetVC w6 ⟨g2, 2, none⟩ (.int .i64 x02) fun w7 =>
  SetVC w7 ⟨g2, 3, none⟩ (.int .i64 x03) fun w8 =>
  SetVC w8 ⟨g2, 4, none⟩ (.slice x04A x04n x04c) fun w9 =>
  ∃ x04 : Int, ∃ x111 : Int, ∃ x28 : Int, ∃ x31 : Int, ∃ x41 : Int, ∃ x51 : Int, ∃ x61 : Int, ∃ x71 : Int, ∃ x81 : Int, ∃ x91 : Int, ∃ x101 : Int, ∃ x112 : Int, ∃ x121 : Int, ∃ x131 : Int, ∃ x141 : Int, ∃ x151 : Int, ∃ x161 : Int, ∃ x171 : Int, ∃ x181 : Bool, ∃ x191 : Bool, ∃ x201 : Bool, ∃ x211 : Bool, ∃ x221 : Int, ∃ x231 : Int, ∃ x241 : Int, ∃ x251 : Int, ∃ x261 : Int, ∃ x271 : Int, CellsAt w9 ⟨g1, 0, none⟩ 0 [.int .i64 x04, .int .i64 x111, .int .u8 x28, .int .u8 x31, .int .u8 x41, .int .u8 x51, .int .u8 x61, .int .u8 x71, .int .u8 x81, .int .u8 x91, .int .u8 x101, .int .u8 x112, .int .u8 x121, .int .u8 x131, .int .u8 x141, .int .u8 x151, .int .u8 x161, .int .u8 x171, .bool x181, .bool x191, .bool x201, .bool x211, .int .u8 x221, .int .u8 x231, .int .u8 x241, .int .u8 x251, .int .u8 x261, .int .u8 x271] ∧
  Calls Tryd.prog 20 #[.agg #[.int .i64 x04, .int .i64 x111, .int .u8 x28, .int .u8 x31, .int .u8 x41, .int .u8 x51, .int .u8 x61, .int .u8 x71, .int .u8 x81, .int .u8 x91, .int .u8 x101, .int .u8 x112, .int .u8 x121, .int .u8 x131, .int .u8 x141, .int .u8 x151, .int .u8 x161, .int .u8 x171, .bool x181, .bool x191, .bool x201, .bool x211, .int .u8 x221, .int .u8 x231, .int .u8 x241, .int .u8 x251, .int .u8 x261, .int .u8 x271]] w9 (onRet (fun r_2 w10 => ∃ x001 : Int, ∃ x011 : Int, ∃ x021 : Int, ∃ x031 : Int, ∃ (x04A1 : Option Addr) (x04n1 x04c1 : Nat), ∃ x113 : Int, r_2 = .tuple #[.agg #[.int .i64 x001, .int .i64 x011, .int .i64 x021, .int .i64 x031, .slice x04A1 x04n1 x04c1], .int .i64 x113] ∧
  NewVC w10 (.cells #[.int .i64 0, .int .i64 0, .int .i64 0, .int .i64 0, .slice none 0 0] 24) fun g3 w11 =>
  SetVC w11 ⟨g3, 0, none⟩ (.int .i64 x001) fun w12 =>
  SetVC w12 ⟨g3, 1, none⟩ (.int .i64 x011) fun w13 =>
  SetVC w13 ⟨g3, 2, none⟩ (.int .i64 x021) fun w14 =>
  SetVC w14 ⟨g3, 3, none⟩ (.int .i64 x031) fun w15 =>
  SetVC w15 ⟨g3, 4, none⟩ (.slice x04A1 x04n1 x04c1) fun w16 =>
  Br (decide (x110 ≠ x113))
    (R (.returned (.bool false)) w16)
    (∃ x05 : Int, ∃ x114 : Int, ∃ x29 : Int, ∃ x32 : Int, ∃ (x4A : Option Addr) (x4n x4c : Nat), CellsAt w16 ⟨g2, 0, none⟩ 0 [.int .i64 x05, .int .i64 x114, .int .i64 x29, .int .i64 x32, .slice x4A x4n x4c] ∧
    ∃ x06 : Int, ∃ x115 : Int, ∃ x210 : Int, ∃ x33 : Int, ∃ (x4A1 : Option Addr) (x4n1 x4c1 : Nat), CellsAt w16 ⟨g3, 0, none⟩ 0 [.int .i64 x06, .int .i64 x115, .int .i64 x210, .int .i64 x33, .slice x4A1 x4n1 x4c1] ∧
    Calls Tryd.prog 21 #[.agg #[.int .i64 x05, .int .i64 x114, .int .i64 x29, .int .i64 x32, .slice x4A x4n x4c], .agg #[.int .i64 x06, .int .i64 x115, .int .i64 x210, .int .i64 x33, .slice x4A1 x4n1 x4c1]] w16 (onRet (fun r_3 w17 => ∃ x30 : Bool, r_3 = .bool x30 ∧
    Br (!x30)
    (R (.returned (.bool false)) w17)
    (∃ (xA : Option Addr) (xn xc : Nat), w17.cell? ⟨g2, 4, none⟩ = some (.slice xA xn xc) ∧
  Calls Tryd.prog 22 #[.slice xA xn xc, .int .u8 77] w17 (onRet (fun r_4 w18 => ∃ (xA1 : Option Addr) (xn1 xc1 : Nat), r_4 = .slice xA1 xn1 xc1 ∧
  ∃ x07 : Int, ∃ x116 : Int, ∃ x212 : Int, ∃ x34 : Int, ∃ x42 : Int, ∃ x52 : Int, ∃ x62 : Int, ∃ x72 : Int, ∃ x82 : Int, ∃ x92 : Int, ∃ x102 : Int, ∃ x117 : Int, ∃ x122 : Int, ∃ x132 : Int, ∃ x142 : Int, ∃ x152 : Int, ∃ x162 : Int, ∃ x172 : Int, ∃ x182 : Bool, ∃ x192 : Bool, ∃ x202 : Bool, ∃ x213 : Bool, ∃ x222 : Int, ∃ x232 : Int, ∃ x242 : Int, ∃ x252 : Int, ∃ x262 : Int, ∃ x272 : Int, CellsAt w18 ⟨g1, 0, none⟩ 0 [.int .i64 x07, .int .i64 x116, .int .u8 x212, .int .u8 x34, .int .u8 x42, .int .u8 x52, .int .u8 x62, .int .u8 x72, .int .u8 x82, .int .u8 x92, .int .u8 x102, .int .u8 x117, .int .u8 x122, .int .u8 x132, .int .u8 x142, .int .u8 x152, .int .u8 x162, .int .u8 x172, .bool x182, .bool x192, .bool x202, .bool x213, .int .u8 x222, .int .u8 x232, .int .u8 x242, .int .u8 x252, .int .u8 x262, .int .u8 x272] ∧
  Calls Tryd.prog 19 #[.agg #[.int .i64 x07, .int .i64 x116, .int .u8 x212, .int .u8 x34, .int .u8 x42, .int .u8 x52, .int .u8 x62, .int .u8 x72, .int .u8 x82, .int .u8 x92, .int .u8 x102, .int .u8 x117, .int .u8 x122, .int .u8 x132, .int .u8 x142, .int .u8 x152, .int .u8 x162, .int .u8 x172, .bool x182, .bool x192, .bool x202, .bool x213, .int .u8 x222, .int .u8 x232, .int .u8 x242, .int .u8 x252, .int .u8 x262, .int .u8 x272]] w18 (onRet (fun r_5 w19 => ∃ x002 : Int, ∃ x012 : Int, ∃ x022 : Int, ∃ x032 : Int, ∃ (x04A2 : Option Addr) (x04n2 x04c2 : Nat), ∃ x118 : Int, r_5 = .tuple #[.agg #[.int .i64 x002, .int .i64 x012, .int .i64 x022, .int .i64 x032, .slice x04A2 x04n2 x04c2], .int .i64 x118] ∧
  NewVC w19 (.cells #[.int .i64 0, .int .i64 0, .int .i64 0, .int .i64 0, .slice none 0 0] 24) fun g4 w20 =>
  SetVC w20 ⟨g4, 0, none⟩ (.int .i64 x002) fun w21 =>
  SetVC w21 ⟨g4, 1, none⟩ (.int .i64 x012) fun w22 =>
  SetVC w22 ⟨g4, 2, none⟩ (.int .i64 x022) fun w23 =>
  SetVC w23 ⟨g4, 3, none⟩ (.int .i64 x032) fun w24 =>
  SetVC w24 ⟨g4, 4, none⟩ (.slice x04A2 x04n2 x04c2) fun w25 =>
  Br (decide (x118 = x113))
    (∃ x08 : Int, ∃ x119 : Int, ∃ x214 : Int, ∃ x35 : Int, ∃ (x4A2 : Option Addr) (x4n2 x4c2 : Nat), CellsAt w25 ⟨g4, 0, none⟩ 0 [.int .i64 x08, .int .i64 x119, .int .i64 x214, .int .i64 x35, .slice x4A2 x4n2 x4c2] ∧
    ∃ x09 : Int, ∃ x120 : Int, ∃ x215 : Int, ∃ x36 : Int, ∃ (x4A3 : Option Addr) (x4n3 x4c3 : Nat), CellsAt w25 ⟨g3, 0, none⟩ 0 [.int .i64 x09, .int .i64 x120, .int .i64 x215, .int .i64 x36, .slice x4A3 x4n3 x4c3] ∧
    Calls Tryd.prog 21 #[.agg #[.int .i64 x08, .int .i64 x119, .int .i64 x214, .int .i64 x35, .slice x4A2 x4n2 x4c2], .agg #[.int .i64 x09, .int .i64 x120, .int .i64 x215, .int .i64 x36, .slice x4A3 x4n3 x4c3]] w25 (onRet (fun r_6 w26 => ∃ x37 : Bool, r_6 = .bool x37 ∧
    Br x37
      (Calls Tryd.prog 13 #[] w26 (onRet (fun r_7 w27 => ∃ x38 : Bool, r_7 = .bool x38 ∧
      Br x38
        (Calls Tryd.prog 23 #[.slice xA1 xn1 xc1, .int .u8 77] w27 (onRet (fun r_8 w28 => ∃ x39 : Bool, r_8 = .bool x39 ∧
        R (.returned (.bool x39)) w28)
          (fun ch8 w28 => R (.panicked ch8) w28)))
        (R (.returned (.bool false)) w27))
        (fun ch7 w27 => R (.panicked ch7) w27)))
      (R (.returned (.bool false)) w26))
      (fun ch6 w26 => R (.panicked ch6) w26)))
    (R (.returned (.bool false)) w25))
    (fun ch5 w19 => R (.panicked ch5) w19)))
    (fun ch4 w18 => R (.panicked ch4) w18))))
      (fun ch3 w17 => R (.panicked ch3) w17))))
    (fun ch2 w10 => R (.panicked ch2) w10)))
    (fun ch1 w3 => R (.panicked ch1) w3))))
    (fun ch w2 => R (.panicked ch) w2))
def weirlaw8_IcmpNdPuts_H : Hints := []
set_option maxRecDepth 100000 in
theorem weirlaw8_IcmpNdPuts_of (n_Kind : Int) (n_TargetV : Int) (n_TargetA0_ : Int) (n_TargetA1_ : Int) (n_TargetA2_ : Int) (n_TargetA3_ : Int) (n_TargetA4_ : Int) (n_TargetA5_ : Int) (n_TargetA6_ : Int) (n_TargetA7_ : Int) (n_TargetA8_ : Int) (n_TargetA9_ : Int) (n_TargetA10_ : Int) (n_TargetA11_ : Int) (n_TargetA12_ : Int) (n_TargetA13_ : Int) (n_TargetA14_ : Int) (n_TargetA15_ : Int) (n_Router : Bool) (n_Solicited : Bool) (n_Override : Bool) (n_HasMac : Bool) (n_Mac0_ : Int) (n_Mac1_ : Int) (n_Mac2_ : Int) (n_Mac3_ : Int) (n_Mac4_ : Int) (n_Mac5_ : Int) (w : World) (R : Ending → World → Prop) (h : weirlaw8_IcmpNdPuts_VC n_Kind n_TargetV n_TargetA0_ n_TargetA1_ n_TargetA2_ n_TargetA3_ n_TargetA4_ n_TargetA5_ n_TargetA6_ n_TargetA7_ n_TargetA8_ n_TargetA9_ n_TargetA10_ n_TargetA11_ n_TargetA12_ n_TargetA13_ n_TargetA14_ n_TargetA15_ n_Router n_Solicited n_Override n_HasMac n_Mac0_ n_Mac1_ n_Mac2_ n_Mac3_ n_Mac4_ n_Mac5_ w R) :
    Calls Tryd.prog 4 #[.agg #[.int .i64 n_Kind, .int .i64 n_TargetV, .int .u8 n_TargetA0_, .int .u8 n_TargetA1_, .int .u8 n_TargetA2_, .int .u8 n_TargetA3_, .int .u8 n_TargetA4_, .int .u8 n_TargetA5_, .int .u8 n_TargetA6_, .int .u8 n_TargetA7_, .int .u8 n_TargetA8_, .int .u8 n_TargetA9_, .int .u8 n_TargetA10_, .int .u8 n_TargetA11_, .int .u8 n_TargetA12_, .int .u8 n_TargetA13_, .int .u8 n_TargetA14_, .int .u8 n_TargetA15_, .bool n_Router, .bool n_Solicited, .bool n_Override, .bool n_HasMac, .int .u8 n_Mac0_, .int .u8 n_Mac1_, .int .u8 n_Mac2_, .int .u8 n_Mac3_, .int .u8 n_Mac4_, .int .u8 n_Mac5_]] w R :=
  calls_of_wpc callOk mixedOk (H := weirlaw8_IcmpNdPuts_H) (args := [.agg #[.int .i64 n_Kind, .int .i64 n_TargetV, .int .u8 n_TargetA0_, .int .u8 n_TargetA1_, .int .u8 n_TargetA2_, .int .u8 n_TargetA3_, .int .u8 n_TargetA4_, .int .u8 n_TargetA5_, .int .u8 n_TargetA6_, .int .u8 n_TargetA7_, .int .u8 n_TargetA8_, .int .u8 n_TargetA9_, .int .u8 n_TargetA10_, .int .u8 n_TargetA11_, .int .u8 n_TargetA12_, .int .u8 n_TargetA13_, .int .u8 n_TargetA14_, .int .u8 n_TargetA15_, .bool n_Router, .bool n_Solicited, .bool n_Override, .bool n_HasMac, .int .u8 n_Mac0_, .int .u8 n_Mac1_, .int .u8 n_Mac2_, .int .u8 n_Mac3_, .int .u8 n_Mac4_, .int .u8 n_Mac5_]]) (fn := Tryd.f4) (c := bodyOf Tryd.f4) Tryd.func4 rfl (Nat.le_of_ble_eq_true rfl)
    (Eq.mp (by kernel_rfl : weirlaw8_IcmpNdPuts_VC n_Kind n_TargetV n_TargetA0_ n_TargetA1_ n_TargetA2_ n_TargetA3_ n_TargetA4_ n_TargetA5_ n_TargetA6_ n_TargetA7_ n_TargetA8_ n_TargetA9_ n_TargetA10_ n_TargetA11_ n_TargetA12_ n_TargetA13_ n_TargetA14_ n_TargetA15_ n_Router n_Solicited n_Override n_HasMac n_Mac0_ n_Mac1_ n_Mac2_ n_Mac3_ n_Mac4_ n_Mac5_ w R = wpc Tryd.prog callF Tryd.f4.ntmps weirlaw8_IcmpNdPuts_H 1 (bodyOf Tryd.f4) (argEnv 0 [.agg #[.int .i64 n_Kind, .int .i64 n_TargetV, .int .u8 n_TargetA0_, .int .u8 n_TargetA1_, .int .u8 n_TargetA2_, .int .u8 n_TargetA3_, .int .u8 n_TargetA4_, .int .u8 n_TargetA5_, .int .u8 n_TargetA6_, .int .u8 n_TargetA7_, .int .u8 n_TargetA8_, .int .u8 n_TargetA9_, .int .u8 n_TargetA10_, .int .u8 n_TargetA11_, .int .u8 n_TargetA12_, .int .u8 n_TargetA13_, .int .u8 n_TargetA14_, .int .u8 n_TargetA15_, .bool n_Router, .bool n_Solicited, .bool n_Override, .bool n_HasMac, .int .u8 n_Mac0_, .int .u8 n_Mac1_, .int .u8 n_Mac2_, .int .u8 n_Mac3_, .int .u8 n_Mac4_, .int .u8 n_Mac5_]]) [] w (finish Tryd.prog callF Tryd.f4.results.toList R)) h)

set_option maxRecDepth 100000 in
def weirlaw8_IcmpNdBack_J15 (R : Ending → World → Prop) (g2 : Nat) (g3 : Nat)  (w42 : World) : Prop :=
  ∃ x032 : Int, ∃ x118 : Int, ∃ x214 : Int, ∃ x35 : Int, ∃ (x4A2 : Option Addr) (x4n2 x4c2 : Nat), CellsAt w42 ⟨g2, 0, none⟩ 0 [.int .i64 x032, .int .i64 x118, .int .i64 x214, .int .i64 x35, .slice x4A2 x4n2 x4c2] ∧
  Calls Tryd.prog 16 #[.agg #[.int .i64 x032, .int .i64 x118, .int .i64 x214, .int .i64 x35, .slice x4A2 x4n2 x4c2]] w42 (onRet (fun r_4 w43 => ∃ x002 : Int, ∃ x0110 : Int, ∃ x0210 : Int, ∃ x033 : Int, ∃ x042 : Int, ∃ x051 : Int, ∃ x061 : Int, ∃ x071 : Int, ∃ x081 : Int, ∃ x091 : Int, ∃ x0101 : Int, ∃ x0112 : Int, ∃ x0121 : Int, ∃ x0131 : Int, ∃ x0141 : Int, ∃ x0151 : Int, ∃ x0161 : Int, ∃ x0171 : Int, ∃ x0181 : Bool, ∃ x0191 : Bool, ∃ x0201 : Bool, ∃ x0212 : Bool, ∃ x0221 : Int, ∃ x0231 : Int, ∃ x0241 : Int, ∃ x0251 : Int, ∃ x0261 : Int, ∃ x0271 : Int, ∃ x119 : Int, r_4 = .tuple #[.agg #[.int .i64 x002, .int .i64 x0110, .int .u8 x0210, .int .u8 x033, .int .u8 x042, .int .u8 x051, .int .u8 x061, .int .u8 x071, .int .u8 x081, .int .u8 x091, .int .u8 x0101, .int .u8 x0112, .int .u8 x0121, .int .u8 x0131, .int .u8 x0141, .int .u8 x0151, .int .u8 x0161, .int .u8 x0171, .bool x0181, .bool x0191, .bool x0201, .bool x0212, .int .u8 x0221, .int .u8 x0231, .int .u8 x0241, .int .u8 x0251, .int .u8 x0261, .int .u8 x0271], .int .i64 x119] ∧
  NewVC w43 (.cells #[.int .i64 0, .int .i64 0, .int .u8 0, .int .u8 0, .int .u8 0, .int .u8 0, .int .u8 0, .int .u8 0, .int .u8 0, .int .u8 0, .int .u8 0, .int .u8 0, .int .u8 0, .int .u8 0, .int .u8 0, .int .u8 0, .int .u8 0, .int .u8 0, .bool false, .bool false, .bool false, .bool false, .int .u8 0, .int .u8 0, .int .u8 0, .int .u8 0, .int .u8 0, .int .u8 0] 35) fun g5 w44 =>
  SetVC w44 ⟨g5, 0, none⟩ (.int .i64 x002) fun w45 =>
  SetVC w45 ⟨g5, 1, none⟩ (.int .i64 x0110) fun w46 =>
  SetVC w46 ⟨g5, 2, none⟩ (.int .u8 x0210) fun w47 =>
  SetVC w47 ⟨g5, 3, none⟩ (.int .u8 x033) fun w48 =>
  SetVC w48 ⟨g5, 4, none⟩ (.int .u8 x042) fun w49 =>
  SetVC w49 ⟨g5, 5, none⟩ (.int .u8 x051) fun w50 =>
  SetVC w50 ⟨g5, 6, none⟩ (.int .u8 x061) fun w51 =>
  SetVC w51 ⟨g5, 7, none⟩ (.int .u8 x071) fun w52 =>
  SetVC w52 ⟨g5, 8, none⟩ (.int .u8 x081) fun w53 =>
  SetVC w53 ⟨g5, 9, none⟩ (.int .u8 x091) fun w54 =>
  SetVC w54 ⟨g5, 10, none⟩ (.int .u8 x0101) fun w55 =>
  SetVC w55 ⟨g5, 11, none⟩ (.int .u8 x0112) fun w56 =>
  SetVC w56 ⟨g5, 12, none⟩ (.int .u8 x0121) fun w57 =>
  SetVC w57 ⟨g5, 13, none⟩ (.int .u8 x0131) fun w58 =>
  SetVC w58 ⟨g5, 14, none⟩ (.int .u8 x0141) fun w59 =>
  SetVC w59 ⟨g5, 15, none⟩ (.int .u8 x0151) fun w60 =>
  SetVC w60 ⟨g5, 16, none⟩ (.int .u8 x0161) fun w61 =>
  SetVC w61 ⟨g5, 17, none⟩ (.int .u8 x0171) fun w62 =>
  SetVC w62 ⟨g5, 18, none⟩ (.bool x0181) fun w63 =>
  SetVC w63 ⟨g5, 19, none⟩ (.bool x0191) fun w64 =>
  SetVC w64 ⟨g5, 20, none⟩ (.bool x0201) fun w65 =>
  SetVC w65 ⟨g5, 21, none⟩ (.bool x0212) fun w66 =>
  SetVC w66 ⟨g5, 22, none⟩ (.int .u8 x0221) fun w67 =>
  SetVC w67 ⟨g5, 23, none⟩ (.int .u8 x0231) fun w68 =>
  SetVC w68 ⟨g5, 24, none⟩ (.int .u8 x0241) fun w69 =>
  SetVC w69 ⟨g5, 25, none⟩ (.int .u8 x0251) fun w70 =>
  SetVC w70 ⟨g5, 26, none⟩ (.int .u8 x0261) fun w71 =>
  SetVC w71 ⟨g5, 27, none⟩ (.int .u8 x0271) fun w72 =>
  Br (decide (x119 ≠ 0))
    (∃ x034 : Int, ∃ x120 : Int, ∃ x215 : Int, ∃ x36 : Int, ∃ x43 : Int, ∃ x53 : Int, ∃ x63 : Int, ∃ x73 : Int, ∃ x83 : Int, ∃ x93 : Int, ∃ x103 : Int, ∃ x1110 : Int, ∃ x123 : Int, ∃ x133 : Int, ∃ x143 : Int, ∃ x153 : Int, ∃ x163 : Int, ∃ x173 : Int, ∃ x183 : Bool, ∃ x193 : Bool, ∃ x203 : Bool, ∃ x216 : Bool, ∃ x223 : Int, ∃ x233 : Int, ∃ x243 : Int, ∃ x253 : Int, ∃ x263 : Int, ∃ x273 : Int, CellsAt w72 ⟨g5, 0, none⟩ 0 [.int .i64 x034, .int .i64 x120, .int .u8 x215, .int .u8 x36, .int .u8 x43, .int .u8 x53, .int .u8 x63, .int .u8 x73, .int .u8 x83, .int .u8 x93, .int .u8 x103, .int .u8 x1110, .int .u8 x123, .int .u8 x133, .int .u8 x143, .int .u8 x153, .int .u8 x163, .int .u8 x173, .bool x183, .bool x193, .bool x203, .bool x216, .int .u8 x223, .int .u8 x233, .int .u8 x243, .int .u8 x253, .int .u8 x263, .int .u8 x273] ∧
    R (.returned (.bool ((decide (x034 = 0)) && (((decide (x120 = 0)) && (((decide (x215 = 0)) && ((decide (x36 = 0)) && ((decide (x43 = 0)) && ((decide (x53 = 0)) && ((decide (x63 = 0)) && ((decide (x73 = 0)) && ((decide (x83 = 0)) && ((decide (x93 = 0)) && ((decide (x103 = 0)) && ((decide (x1110 = 0)) && ((decide (x123 = 0)) && ((decide (x133 = 0)) && ((decide (x143 = 0)) && ((decide (x153 = 0)) && ((decide (x163 = 0)) && ((decide (x173 = 0)) && true)))))))))))))))) && true)) && ((x183 == false) && ((x193 == false) && ((x203 == false) && ((x216 == false) && (((decide (x223 = 0)) && ((decide (x233 = 0)) && ((decide (x243 = 0)) && ((decide (x253 = 0)) && ((decide (x263 = 0)) && ((decide (x273 = 0)) && true)))))) && true))))))))) w72)
    (∃ x035 : Int, ∃ x124 : Int, ∃ x217 : Int, ∃ x37 : Int, ∃ x44 : Int, ∃ x54 : Int, ∃ x64 : Int, ∃ x74 : Int, ∃ x84 : Int, ∃ x94 : Int, ∃ x104 : Int, ∃ x1111 : Int, ∃ x125 : Int, ∃ x134 : Int, ∃ x144 : Int, ∃ x154 : Int, ∃ x164 : Int, ∃ x174 : Int, ∃ x184 : Bool, ∃ x194 : Bool, ∃ x204 : Bool, ∃ x218 : Bool, ∃ x224 : Int, ∃ x234 : Int, ∃ x244 : Int, ∃ x254 : Int, ∃ x264 : Int, ∃ x274 : Int, CellsAt w72 ⟨g5, 0, none⟩ 0 [.int .i64 x035, .int .i64 x124, .int .u8 x217, .int .u8 x37, .int .u8 x44, .int .u8 x54, .int .u8 x64, .int .u8 x74, .int .u8 x84, .int .u8 x94, .int .u8 x104, .int .u8 x1111, .int .u8 x125, .int .u8 x134, .int .u8 x144, .int .u8 x154, .int .u8 x164, .int .u8 x174, .bool x184, .bool x194, .bool x204, .bool x218, .int .u8 x224, .int .u8 x234, .int .u8 x244, .int .u8 x254, .int .u8 x264, .int .u8 x274] ∧
  Calls Tryd.prog 19 #[.agg #[.int .i64 x035, .int .i64 x124, .int .u8 x217, .int .u8 x37, .int .u8 x44, .int .u8 x54, .int .u8 x64, .int .u8 x74, .int .u8 x84, .int .u8 x94, .int .u8 x104, .int .u8 x1111, .int .u8 x125, .int .u8 x134, .int .u8 x144, .int .u8 x154, .int .u8 x164, .int .u8 x174, .bool x184, .bool x194, .bool x204, .bool x218, .int .u8 x224, .int .u8 x234, .int .u8 x244, .int .u8 x254, .int .u8 x264, .int .u8 x274]] w72 (onRet (fun r_5 w73 => ∃ x003 : Int, ∃ x0113 : Int, ∃ x0213 : Int, ∃ x036 : Int, ∃ (x04A1 : Option Addr) (x04n1 x04c1 : Nat), ∃ x126 : Int, r_5 = .tuple #[.agg #[.int .i64 x003, .int .i64 x0113, .int .i64 x0213, .int .i64 x036, .slice x04A1 x04n1 x04c1], .int .i64 x126] ∧
  SetVC w73 ⟨g3, 0, none⟩ (.int .i64 x003) fun w74 =>
  SetVC w74 ⟨g3, 1, none⟩ (.int .i64 x0113) fun w75 =>
  SetVC w75 ⟨g3, 2, none⟩ (.int .i64 x0213) fun w76 =>
  SetVC w76 ⟨g3, 3, none⟩ (.int .i64 x036) fun w77 =>
  SetVC w77 ⟨g3, 4, none⟩ (.slice x04A1 x04n1 x04c1) fun w78 =>
  ∃ x037 : Int, ∃ x127 : Int, ∃ x219 : Int, ∃ x38 : Int, ∃ (x4A3 : Option Addr) (x4n3 x4c3 : Nat), CellsAt w78 ⟨g3, 0, none⟩ 0 [.int .i64 x037, .int .i64 x127, .int .i64 x219, .int .i64 x38, .slice x4A3 x4n3 x4c3] ∧
  Calls Tryd.prog 16 #[.agg #[.int .i64 x037, .int .i64 x127, .int .i64 x219, .int .i64 x38, .slice x4A3 x4n3 x4c3]] w78 (onRet (fun r_6 w79 => ∃ x004 : Int, ∃ x0114 : Int, ∃ x0214 : Int, ∃ x038 : Int, ∃ x043 : Int, ∃ x052 : Int, ∃ x062 : Int, ∃ x072 : Int, ∃ x082 : Int, ∃ x092 : Int, ∃ x0102 : Int, ∃ x0115 : Int, ∃ x0122 : Int, ∃ x0132 : Int, ∃ x0142 : Int, ∃ x0152 : Int, ∃ x0162 : Int, ∃ x0172 : Int, ∃ x0182 : Bool, ∃ x0192 : Bool, ∃ x0202 : Bool, ∃ x0215 : Bool, ∃ x0222 : Int, ∃ x0232 : Int, ∃ x0242 : Int, ∃ x0252 : Int, ∃ x0262 : Int, ∃ x0272 : Int, ∃ x128 : Int, r_6 = .tuple #[.agg #[.int .i64 x004, .int .i64 x0114, .int .u8 x0214, .int .u8 x038, .int .u8 x043, .int .u8 x052, .int .u8 x062, .int .u8 x072, .int .u8 x082, .int .u8 x092, .int .u8 x0102, .int .u8 x0115, .int .u8 x0122, .int .u8 x0132, .int .u8 x0142, .int .u8 x0152, .int .u8 x0162, .int .u8 x0172, .bool x0182, .bool x0192, .bool x0202, .bool x0215, .int .u8 x0222, .int .u8 x0232, .int .u8 x0242, .int .u8 x0252, .int .u8 x0262, .int .u8 x0272], .int .i64 x128] ∧
  NewVC w79 (.cells #[.int .i64 0, .int .i64 0, .int .u8 0, .int .u8 0, .int .u8 0, .int .u8 0, .int .u8 0, .int .u8 0, .int .u8 0, .int .u8 0, .int .u8 0, .int .u8 0, .int .u8 0, .int .u8 0, .int .u8 0, .int .u8 0, .int .u8 0, .int .u8 0, .bool false, .bool false, .bool false, .bool false, .int .u8 0, .int .u8 0, .int .u8 0, .int .u8 0, .int .u8 0, .int .u8 0] 35) fun g6 w80 =>
  SetVC w80 ⟨g6, 0, none⟩ (.int .i64 x004) fun w81 =>
  SetVC w81 ⟨g6, 1, none⟩ (.int .i64 x0114) fun w82 =>
  SetVC w82 ⟨g6, 2, none⟩ (.int .u8 x0214) fun w83 =>
  SetVC w83 ⟨g6, 3, none⟩ (.int .u8 x038) fun w84 =>
  SetVC w84 ⟨g6, 4, none⟩ (.int .u8 x043) fun w85 =>
  SetVC w85 ⟨g6, 5, none⟩ (.int .u8 x052) fun w86 =>
  SetVC w86 ⟨g6, 6, none⟩ (.int .u8 x062) fun w87 =>
  SetVC w87 ⟨g6, 7, none⟩ (.int .u8 x072) fun w88 =>
  SetVC w88 ⟨g6, 8, none⟩ (.int .u8 x082) fun w89 =>
  SetVC w89 ⟨g6, 9, none⟩ (.int .u8 x092) fun w90 =>
  SetVC w90 ⟨g6, 10, none⟩ (.int .u8 x0102) fun w91 =>
  SetVC w91 ⟨g6, 11, none⟩ (.int .u8 x0115) fun w92 =>
  SetVC w92 ⟨g6, 12, none⟩ (.int .u8 x0122) fun w93 =>
  SetVC w93 ⟨g6, 13, none⟩ (.int .u8 x0132) fun w94 =>
  SetVC w94 ⟨g6, 14, none⟩ (.int .u8 x0142) fun w95 =>
  SetVC w95 ⟨g6, 15, none⟩ (.int .u8 x0152) fun w96 =>
  SetVC w96 ⟨g6, 16, none⟩ (.int .u8 x0162) fun w97 =>
  SetVC w97 ⟨g6, 17, none⟩ (.int .u8 x0172) fun w98 =>
  SetVC w98 ⟨g6, 18, none⟩ (.bool x0182) fun w99 =>
  SetVC w99 ⟨g6, 19, none⟩ (.bool x0192) fun w100 =>
  SetVC w100 ⟨g6, 20, none⟩ (.bool x0202) fun w101 =>
  SetVC w101 ⟨g6, 21, none⟩ (.bool x0215) fun w102 =>
  SetVC w102 ⟨g6, 22, none⟩ (.int .u8 x0222) fun w103 =>
  SetVC w103 ⟨g6, 23, none⟩ (.int .u8 x0232) fun w104 =>
  SetVC w104 ⟨g6, 24, none⟩ (.int .u8 x0242) fun w105 =>
  SetVC w105 ⟨g6, 25, none⟩ (.int .u8 x0252) fun w106 =>
  SetVC w106 ⟨g6, 26, none⟩ (.int .u8 x0262) fun w107 =>
  SetVC w107 ⟨g6, 27, none⟩ (.int .u8 x0272) fun w108 =>
  Br (decide (x126 = 0))
    (Br (decide (x128 = 0))
      (∃ x039 : Int, ∃ x129 : Int, ∃ x220 : Int, ∃ x39 : Int, ∃ x45 : Int, ∃ x55 : Int, ∃ x65 : Int, ∃ x75 : Int, ∃ x85 : Int, ∃ x95 : Int, ∃ x105 : Int, ∃ x1112 : Int, ∃ x1210 : Int, ∃ x135 : Int, ∃ x145 : Int, ∃ x155 : Int, ∃ x165 : Int, ∃ x175 : Int, ∃ x185 : Bool, ∃ x195 : Bool, ∃ x205 : Bool, ∃ x2110 : Bool, ∃ x225 : Int, ∃ x235 : Int, ∃ x245 : Int, ∃ x255 : Int, ∃ x265 : Int, ∃ x275 : Int, CellsAt w108 ⟨g5, 0, none⟩ 0 [.int .i64 x039, .int .i64 x129, .int .u8 x220, .int .u8 x39, .int .u8 x45, .int .u8 x55, .int .u8 x65, .int .u8 x75, .int .u8 x85, .int .u8 x95, .int .u8 x105, .int .u8 x1112, .int .u8 x1210, .int .u8 x135, .int .u8 x145, .int .u8 x155, .int .u8 x165, .int .u8 x175, .bool x185, .bool x195, .bool x205, .bool x2110, .int .u8 x225, .int .u8 x235, .int .u8 x245, .int .u8 x255, .int .u8 x265, .int .u8 x275] ∧
      ∃ x040 : Int, ∃ x130 : Int, ∃ x226 : Int, ∃ x310 : Int, ∃ x46 : Int, ∃ x56 : Int, ∃ x66 : Int, ∃ x76 : Int, ∃ x86 : Int, ∃ x96 : Int, ∃ x106 : Int, ∃ x1113 : Int, ∃ x1211 : Int, ∃ x136 : Int, ∃ x146 : Int, ∃ x156 : Int, ∃ x166 : Int, ∃ x176 : Int, ∃ x186 : Bool, ∃ x196 : Bool, ∃ x206 : Bool, ∃ x2111 : Bool, ∃ x227 : Int, ∃ x236 : Int, ∃ x246 : Int, ∃ x256 : Int, ∃ x266 : Int, ∃ x276 : Int, CellsAt w108 ⟨g6, 0, none⟩ 0 [.int .i64 x040, .int .i64 x130, .int .u8 x226, .int .u8 x310, .int .u8 x46, .int .u8 x56, .int .u8 x66, .int .u8 x76, .int .u8 x86, .int .u8 x96, .int .u8 x106, .int .u8 x1113, .int .u8 x1211, .int .u8 x136, .int .u8 x146, .int .u8 x156, .int .u8 x166, .int .u8 x176, .bool x186, .bool x196, .bool x206, .bool x2111, .int .u8 x227, .int .u8 x236, .int .u8 x246, .int .u8 x256, .int .u8 x266, .int .u8 x276] ∧
      R (.returned (.bool ((decide (x039 = x040)) && (((decide (x129 = x130)) && (((decide (x220 = x226)) && ((decide (x39 = x310)) && ((decide (x45 = x46)) && ((decide (x55 = x56)) && ((decide (x65 = x66)) && ((decide (x75 = x76)) && ((decide (x85 = x86)) && ((decide (x95 = x96)) && ((decide (x105 = x106)) && ((decide (x1112 = x1113)) && ((decide (x1210 = x1211)) && ((decide (x135 = x136)) && ((decide (x145 = x146)) && ((decide (x155 = x156)) && ((decide (x165 = x166)) && ((decide (x175 = x176)) && true)))))))))))))))) && true)) && ((x185 == x186) && ((x195 == x196) && ((x205 == x206) && ((x2110 == x2111) && (((decide (x225 = x227)) && ((decide (x235 = x236)) && ((decide (x245 = x246)) && ((decide (x255 = x256)) && ((decide (x265 = x266)) && ((decide (x275 = x276)) && true)))))) && true))))))))) w108)
      (R (.returned (.bool false)) w108))
    (R (.returned (.bool false)) w108))
    (fun ch6 w79 => R (.panicked ch6) w79)))
    (fun ch5 w73 => R (.panicked ch5) w73))))
    (fun ch4 w43 => R (.panicked ch4) w43))
set_option maxRecDepth 100000 in
def weirlaw8_IcmpNdBack_VC (n_Kind : Int) (n_TargetV : Int) (n_TargetA0_ : Int) (n_TargetA1_ : Int) (n_TargetA2_ : Int) (n_TargetA3_ : Int) (n_TargetA4_ : Int) (n_TargetA5_ : Int) (n_TargetA6_ : Int) (n_TargetA7_ : Int) (n_TargetA8_ : Int) (n_TargetA9_ : Int) (n_TargetA10_ : Int) (n_TargetA11_ : Int) (n_TargetA12_ : Int) (n_TargetA13_ : Int) (n_TargetA14_ : Int) (n_TargetA15_ : Int) (n_Router : Bool) (n_Solicited : Bool) (n_Override : Bool) (n_HasMac : Bool) (n_Mac0_ : Int) (n_Mac1_ : Int) (n_Mac2_ : Int) (n_Mac3_ : Int) (n_Mac4_ : Int) (n_Mac5_ : Int) (m_V : Int) (m_Type : Int) (m_Code : Int) (m_Rest : Int) (m_DataA : Option Addr) (m_Datan : Nat) (m_Datac : Nat) (w : World) (R : Ending → World → Prop) : Prop :=
  NewVC w (.cells #[.int .i64 n_Kind, .int .i64 n_TargetV, .int .u8 n_TargetA0_, .int .u8 n_TargetA1_, .int .u8 n_TargetA2_, .int .u8 n_TargetA3_, .int .u8 n_TargetA4_, .int .u8 n_TargetA5_, .int .u8 n_TargetA6_, .int .u8 n_TargetA7_, .int .u8 n_TargetA8_, .int .u8 n_TargetA9_, .int .u8 n_TargetA10_, .int .u8 n_TargetA11_, .int .u8 n_TargetA12_, .int .u8 n_TargetA13_, .int .u8 n_TargetA14_, .int .u8 n_TargetA15_, .bool n_Router, .bool n_Solicited, .bool n_Override, .bool n_HasMac, .int .u8 n_Mac0_, .int .u8 n_Mac1_, .int .u8 n_Mac2_, .int .u8 n_Mac3_, .int .u8 n_Mac4_, .int .u8 n_Mac5_] 35) fun g1 w1 =>
  NewVC w1 (.cells #[.int .i64 m_V, .int .i64 m_Type, .int .i64 m_Code, .int .i64 m_Rest, .slice m_DataA m_Datan m_Datac] 24) fun g2 w2 =>
  Calls Tryd.prog 13 #[] w2 (onRet (fun r_ w3 => ∃ x : Bool, r_ = .bool x ∧
  Br (!x)
    (R (.returned (.bool false)) w3)
    (∃ x0 : Int, ∃ x1 : Int, ∃ x2 : Int, ∃ x3 : Int, ∃ x4 : Int, ∃ x5 : Int, ∃ x6 : Int, ∃ x7 : Int, ∃ x8 : Int, ∃ x9 : Int, ∃ x10 : Int, ∃ x11 : Int, ∃ x12 : Int, ∃ x13 : Int, ∃ x14 : Int, ∃ x15 : Int, ∃ x16 : Int, ∃ x17 : Int, ∃ x18 : Bool, ∃ x19 : Bool, ∃ x20 : Bool, ∃ x21 : Bool, ∃ x22 : Int, ∃ x23 : Int, ∃ x24 : Int, ∃ x25 : Int, ∃ x26 : Int, ∃ x27 : Int, CellsAt w3 ⟨g1, 0, none⟩ 0 [.int .i64 x0, .int .i64 x1, .int .u8 x2, .int .u8 x3, .int .u8 x4, .int .u8 x5, .int .u8 x6, .int .u8 x7, .int .u8 x8, .int .u8 x9, .int .u8 x10, .int .u8 x11, .int .u8 x12, .int .u8 x13, .int .u8 x14, .int .u8 x15, .int .u8 x16, .int .u8 x17, .bool x18, .bool x19, .bool x20, .bool x21, .int .u8 x22, .int .u8 x23, .int .u8 x24, .int .u8 x25, .int .u8 x26, .int .u8 x27] ∧
  Calls Tryd.prog 19 #[.agg #[.int .i64 x0, .int .i64 x1, .int .u8 x2, .int .u8 x3, .int .u8 x4, .int .u8 x5, .int .u8 x6, .int .u8 x7, .int .u8 x8, .int .u8 x9, .int .u8 x10, .int .u8 x11, .int .u8 x12, .int .u8 x13, .int .u8 x14, .int .u8 x15, .int .u8 x16, .int .u8 x17, .bool x18, .bool x19, .bool x20, .bool x21, .int .u8 x22, .int .u8 x23, .int .u8 x24, .int .u8 x25, .int .u8 x26, .int .u8 x27]] w3 (onRet (fun r_1 w4 => ∃ x00 : Int, ∃ x01 : Int, ∃ x02 : Int, ∃ x03 : Int, ∃ (x04A : Option Addr) (x04n x04c : Nat), ∃ x110 : Int, r_1 = .tuple #[.agg #[.int .i64 x00, .int .i64 x01, .int .i64 x02, .int .i64 x03, .slice x04A x04n x04c], .int .i64 x110] ∧
  NewVC w4 (.cells #[.int .i64 0, .int .i64 0, .int .i64 0, .int .i64 0, .slice none 0 0] 24) fun g3 w5 =>
  SetVC w5 ⟨g3, 0, none⟩ (.int .i64 x00) fun w6 =>
  SetVC w6 ⟨g3, 1, none⟩ (.int .i64 x01) fun w7 =>
  SetVC w7 ⟨g3, 2, none⟩ (.int .i64 x02) fun w8 =>
  SetVC w8 ⟨g3, 3, none⟩ (.int .i64 x03) fun w9 =>
  SetVC w9 ⟨g3, 4, none⟩ (.slice x04A x04n x04c) fun w10 =>
  JoinVC (S := Unit) (fun J15 =>
      Br (decide (x110 = 0))
        (∃ x04 : Int, ∃ x111 : Int, ∃ x28 : Int, ∃ x31 : Int, ∃ (x4A : Option Addr) (x4n x4c : Nat), CellsAt w10 ⟨g3, 0, none⟩ 0 [.int .i64 x04, .int .i64 x111, .int .i64 x28, .int .i64 x31, .slice x4A x4n x4c] ∧
        Calls Tryd.prog 16 #[.agg #[.int .i64 x04, .int .i64 x111, .int .i64 x28, .int .i64 x31, .slice x4A x4n x4c]] w10 (onRet (fun r_2 w11 => ∃ x001 : Int, ∃ x011 : Int, ∃ x021 : Int, ∃ x031 : Int, ∃ x041 : Int, ∃ x05 : Int, ∃ x06 : Int, ∃ x07 : Int, ∃ x08 : Int, ∃ x09 : Int, ∃ x010 : Int, ∃ x0111 : Int, ∃ x012 : Int, ∃ x013 : Int, ∃ x014 : Int, ∃ x015 : Int, ∃ x016 : Int, ∃ x017 : Int, ∃ x018 : Bool, ∃ x019 : Bool, ∃ x020 : Bool, ∃ x0211 : Bool, ∃ x022 : Int, ∃ x023 : Int, ∃ x024 : Int, ∃ x025 : Int, ∃ x026 : Int, ∃ x027 : Int, ∃ x112 : Int, r_2 = .tuple #[.agg #[.int .i64 x001, .int .i64 x011, .int .u8 x021, .int .u8 x031, .int .u8 x041, .int .u8 x05, .int .u8 x06, .int .u8 x07, .int .u8 x08, .int .u8 x09, .int .u8 x010, .int .u8 x0111, .int .u8 x012, .int .u8 x013, .int .u8 x014, .int .u8 x015, .int .u8 x016, .int .u8 x017, .bool x018, .bool x019, .bool x020, .bool x0211, .int .u8 x022, .int .u8 x023, .int .u8 x024, .int .u8 x025, .int .u8 x026, .int .u8 x027], .int .i64 x112] ∧
        NewVC w11 (.cells #[.int .i64 0, .int .i64 0, .int .u8 0, .int .u8 0, .int .u8 0, .int .u8 0, .int .u8 0, .int .u8 0, .int .u8 0, .int .u8 0, .int .u8 0, .int .u8 0, .int .u8 0, .int .u8 0, .int .u8 0, .int .u8 0, .int .u8 0, .int .u8 0, .bool false, .bool false, .bool false, .bool false, .int .u8 0, .int .u8 0, .int .u8 0, .int .u8 0, .int .u8 0, .int .u8 0] 35) fun g4 w12 =>
        SetVC w12 ⟨g4, 0, none⟩ (.int .i64 x001) fun w13 =>
        SetVC w13 ⟨g4, 1, none⟩ (.int .i64 x011) fun w14 =>
        SetVC w14 ⟨g4, 2, none⟩ (.int .u8 x021) fun w15 =>
        SetVC w15 ⟨g4, 3, none⟩ (.int .u8 x031) fun w16 =>
        SetVC w16 ⟨g4, 4, none⟩ (.int .u8 x041) fun w17 =>
        SetVC w17 ⟨g4, 5, none⟩ (.int .u8 x05) fun w18 =>
        SetVC w18 ⟨g4, 6, none⟩ (.int .u8 x06) fun w19 =>
        SetVC w19 ⟨g4, 7, none⟩ (.int .u8 x07) fun w20 =>
        SetVC w20 ⟨g4, 8, none⟩ (.int .u8 x08) fun w21 =>
        SetVC w21 ⟨g4, 9, none⟩ (.int .u8 x09) fun w22 =>
        SetVC w22 ⟨g4, 10, none⟩ (.int .u8 x010) fun w23 =>
        SetVC w23 ⟨g4, 11, none⟩ (.int .u8 x0111) fun w24 =>
        SetVC w24 ⟨g4, 12, none⟩ (.int .u8 x012) fun w25 =>
        SetVC w25 ⟨g4, 13, none⟩ (.int .u8 x013) fun w26 =>
        SetVC w26 ⟨g4, 14, none⟩ (.int .u8 x014) fun w27 =>
        SetVC w27 ⟨g4, 15, none⟩ (.int .u8 x015) fun w28 =>
        SetVC w28 ⟨g4, 16, none⟩ (.int .u8 x016) fun w29 =>
        SetVC w29 ⟨g4, 17, none⟩ (.int .u8 x017) fun w30 =>
        SetVC w30 ⟨g4, 18, none⟩ (.bool x018) fun w31 =>
        SetVC w31 ⟨g4, 19, none⟩ (.bool x019) fun w32 =>
        SetVC w32 ⟨g4, 20, none⟩ (.bool x020) fun w33 =>
        SetVC w33 ⟨g4, 21, none⟩ (.bool x0211) fun w34 =>
        SetVC w34 ⟨g4, 22, none⟩ (.int .u8 x022) fun w35 =>
        SetVC w35 ⟨g4, 23, none⟩ (.int .u8 x023) fun w36 =>
        SetVC w36 ⟨g4, 24, none⟩ (.int .u8 x024) fun w37 =>
        SetVC w37 ⟨g4, 25, none⟩ (.int .u8 x025) fun w38 =>
        SetVC w38 ⟨g4, 26, none⟩ (.int .u8 x026) fun w39 =>
        SetVC w39 ⟨g4, 27, none⟩ (.int .u8 x027) fun w40 =>
        Br (decide (x112 ≠ 0))
          (R (.returned (.bool false)) w40)
          (∃ x028 : Int, ∃ x113 : Int, ∃ x29 : Int, ∃ x32 : Int, ∃ x41 : Int, ∃ x51 : Int, ∃ x61 : Int, ∃ x71 : Int, ∃ x81 : Int, ∃ x91 : Int, ∃ x101 : Int, ∃ x114 : Int, ∃ x121 : Int, ∃ x131 : Int, ∃ x141 : Int, ∃ x151 : Int, ∃ x161 : Int, ∃ x171 : Int, ∃ x181 : Bool, ∃ x191 : Bool, ∃ x201 : Bool, ∃ x211 : Bool, ∃ x221 : Int, ∃ x231 : Int, ∃ x241 : Int, ∃ x251 : Int, ∃ x261 : Int, ∃ x271 : Int, CellsAt w40 ⟨g4, 0, none⟩ 0 [.int .i64 x028, .int .i64 x113, .int .u8 x29, .int .u8 x32, .int .u8 x41, .int .u8 x51, .int .u8 x61, .int .u8 x71, .int .u8 x81, .int .u8 x91, .int .u8 x101, .int .u8 x114, .int .u8 x121, .int .u8 x131, .int .u8 x141, .int .u8 x151, .int .u8 x161, .int .u8 x171, .bool x181, .bool x191, .bool x201, .bool x211, .int .u8 x221, .int .u8 x231, .int .u8 x241, .int .u8 x251, .int .u8 x261, .int .u8 x271] ∧
          ∃ x029 : Int, ∃ x115 : Int, ∃ x210 : Int, ∃ x33 : Int, ∃ x42 : Int, ∃ x52 : Int, ∃ x62 : Int, ∃ x72 : Int, ∃ x82 : Int, ∃ x92 : Int, ∃ x102 : Int, ∃ x116 : Int, ∃ x122 : Int, ∃ x132 : Int, ∃ x142 : Int, ∃ x152 : Int, ∃ x162 : Int, ∃ x172 : Int, ∃ x182 : Bool, ∃ x192 : Bool, ∃ x202 : Bool, ∃ x212 : Bool, ∃ x222 : Int, ∃ x232 : Int, ∃ x242 : Int, ∃ x252 : Int, ∃ x262 : Int, ∃ x272 : Int, CellsAt w40 ⟨g1, 0, none⟩ 0 [.int .i64 x029, .int .i64 x115, .int .u8 x210, .int .u8 x33, .int .u8 x42, .int .u8 x52, .int .u8 x62, .int .u8 x72, .int .u8 x82, .int .u8 x92, .int .u8 x102, .int .u8 x116, .int .u8 x122, .int .u8 x132, .int .u8 x142, .int .u8 x152, .int .u8 x162, .int .u8 x172, .bool x182, .bool x192, .bool x202, .bool x212, .int .u8 x222, .int .u8 x232, .int .u8 x242, .int .u8 x252, .int .u8 x262, .int .u8 x272] ∧
          Br (!(((decide (x028 = x029)) && (((decide (x113 = x115)) && (((decide (x29 = x210)) && ((decide (x32 = x33)) && ((decide (x41 = x42)) && ((decide (x51 = x52)) && ((decide (x61 = x62)) && ((decide (x71 = x72)) && ((decide (x81 = x82)) && ((decide (x91 = x92)) && ((decide (x101 = x102)) && ((decide (x114 = x116)) && ((decide (x121 = x122)) && ((decide (x131 = x132)) && ((decide (x141 = x142)) && ((decide (x151 = x152)) && ((decide (x161 = x162)) && ((decide (x171 = x172)) && true)))))))))))))))) && true)) && ((x181 == x182) && ((x191 == x192) && ((x201 == x202) && ((x211 == x212) && (((decide (x221 = x222)) && ((decide (x231 = x232)) && ((decide (x241 = x242)) && ((decide (x251 = x252)) && ((decide (x261 = x262)) && ((decide (x271 = x272)) && true)))))) && true)))))))))
            (R (.returned (.bool false)) w40)
            (∃ x030 : Int, ∃ x117 : Int, ∃ x213 : Int, ∃ x34 : Int, ∃ (x4A1 : Option Addr) (x4n1 x4c1 : Nat), CellsAt w40 ⟨g3, 0, none⟩ 0 [.int .i64 x030, .int .i64 x117, .int .i64 x213, .int .i64 x34, .slice x4A1 x4n1 x4c1] ∧
            Calls Tryd.prog 24 #[.agg #[.int .i64 x030, .int .i64 x117, .int .i64 x213, .int .i64 x34, .slice x4A1 x4n1 x4c1]] w40 (onRet (fun r_3 w41 => ∃ x30 : Int, r_3 = .int .i64 x30 ∧
            Br (decide (x30 ≠ 0))
          (R (.returned (.bool false)) w41)
          (J15 () w41))
              (fun ch3 w41 => R (.panicked ch3) w41)))))
          (fun ch2 w11 => R (.panicked ch2) w11)))
        (J15 () w10))
    (fun _ w42 => weirlaw8_IcmpNdBack_J15 R g2 g3 w42))
    (fun ch1 w4 => R (.panicked ch1) w4))))
    (fun ch w3 => R (.panicked ch) w3))
def weirlaw8_IcmpNdBack_H : Hints := [(15, [])]
set_option maxRecDepth 100000 in
theorem weirlaw8_IcmpNdBack_of (n_Kind : Int) (n_TargetV : Int) (n_TargetA0_ : Int) (n_TargetA1_ : Int) (n_TargetA2_ : Int) (n_TargetA3_ : Int) (n_TargetA4_ : Int) (n_TargetA5_ : Int) (n_TargetA6_ : Int) (n_TargetA7_ : Int) (n_TargetA8_ : Int) (n_TargetA9_ : Int) (n_TargetA10_ : Int) (n_TargetA11_ : Int) (n_TargetA12_ : Int) (n_TargetA13_ : Int) (n_TargetA14_ : Int) (n_TargetA15_ : Int) (n_Router : Bool) (n_Solicited : Bool) (n_Override : Bool) (n_HasMac : Bool) (n_Mac0_ : Int) (n_Mac1_ : Int) (n_Mac2_ : Int) (n_Mac3_ : Int) (n_Mac4_ : Int) (n_Mac5_ : Int) (m_V : Int) (m_Type : Int) (m_Code : Int) (m_Rest : Int) (m_DataA : Option Addr) (m_Datan : Nat) (m_Datac : Nat) (w : World) (R : Ending → World → Prop) (h : weirlaw8_IcmpNdBack_VC n_Kind n_TargetV n_TargetA0_ n_TargetA1_ n_TargetA2_ n_TargetA3_ n_TargetA4_ n_TargetA5_ n_TargetA6_ n_TargetA7_ n_TargetA8_ n_TargetA9_ n_TargetA10_ n_TargetA11_ n_TargetA12_ n_TargetA13_ n_TargetA14_ n_TargetA15_ n_Router n_Solicited n_Override n_HasMac n_Mac0_ n_Mac1_ n_Mac2_ n_Mac3_ n_Mac4_ n_Mac5_ m_V m_Type m_Code m_Rest m_DataA m_Datan m_Datac w R) :
    Calls Tryd.prog 5 #[.agg #[.int .i64 n_Kind, .int .i64 n_TargetV, .int .u8 n_TargetA0_, .int .u8 n_TargetA1_, .int .u8 n_TargetA2_, .int .u8 n_TargetA3_, .int .u8 n_TargetA4_, .int .u8 n_TargetA5_, .int .u8 n_TargetA6_, .int .u8 n_TargetA7_, .int .u8 n_TargetA8_, .int .u8 n_TargetA9_, .int .u8 n_TargetA10_, .int .u8 n_TargetA11_, .int .u8 n_TargetA12_, .int .u8 n_TargetA13_, .int .u8 n_TargetA14_, .int .u8 n_TargetA15_, .bool n_Router, .bool n_Solicited, .bool n_Override, .bool n_HasMac, .int .u8 n_Mac0_, .int .u8 n_Mac1_, .int .u8 n_Mac2_, .int .u8 n_Mac3_, .int .u8 n_Mac4_, .int .u8 n_Mac5_], .agg #[.int .i64 m_V, .int .i64 m_Type, .int .i64 m_Code, .int .i64 m_Rest, .slice m_DataA m_Datan m_Datac]] w R :=
  calls_of_wpc callOk mixedOk (H := weirlaw8_IcmpNdBack_H) (args := [.agg #[.int .i64 n_Kind, .int .i64 n_TargetV, .int .u8 n_TargetA0_, .int .u8 n_TargetA1_, .int .u8 n_TargetA2_, .int .u8 n_TargetA3_, .int .u8 n_TargetA4_, .int .u8 n_TargetA5_, .int .u8 n_TargetA6_, .int .u8 n_TargetA7_, .int .u8 n_TargetA8_, .int .u8 n_TargetA9_, .int .u8 n_TargetA10_, .int .u8 n_TargetA11_, .int .u8 n_TargetA12_, .int .u8 n_TargetA13_, .int .u8 n_TargetA14_, .int .u8 n_TargetA15_, .bool n_Router, .bool n_Solicited, .bool n_Override, .bool n_HasMac, .int .u8 n_Mac0_, .int .u8 n_Mac1_, .int .u8 n_Mac2_, .int .u8 n_Mac3_, .int .u8 n_Mac4_, .int .u8 n_Mac5_], .agg #[.int .i64 m_V, .int .i64 m_Type, .int .i64 m_Code, .int .i64 m_Rest, .slice m_DataA m_Datan m_Datac]]) (fn := Tryd.f5) (c := bodyOf Tryd.f5) Tryd.func5 rfl (Nat.le_of_ble_eq_true rfl)
    (Eq.mp (by kernel_rfl : weirlaw8_IcmpNdBack_VC n_Kind n_TargetV n_TargetA0_ n_TargetA1_ n_TargetA2_ n_TargetA3_ n_TargetA4_ n_TargetA5_ n_TargetA6_ n_TargetA7_ n_TargetA8_ n_TargetA9_ n_TargetA10_ n_TargetA11_ n_TargetA12_ n_TargetA13_ n_TargetA14_ n_TargetA15_ n_Router n_Solicited n_Override n_HasMac n_Mac0_ n_Mac1_ n_Mac2_ n_Mac3_ n_Mac4_ n_Mac5_ m_V m_Type m_Code m_Rest m_DataA m_Datan m_Datac w R = wpc Tryd.prog callF Tryd.f5.ntmps weirlaw8_IcmpNdBack_H 1 (bodyOf Tryd.f5) (argEnv 0 [.agg #[.int .i64 n_Kind, .int .i64 n_TargetV, .int .u8 n_TargetA0_, .int .u8 n_TargetA1_, .int .u8 n_TargetA2_, .int .u8 n_TargetA3_, .int .u8 n_TargetA4_, .int .u8 n_TargetA5_, .int .u8 n_TargetA6_, .int .u8 n_TargetA7_, .int .u8 n_TargetA8_, .int .u8 n_TargetA9_, .int .u8 n_TargetA10_, .int .u8 n_TargetA11_, .int .u8 n_TargetA12_, .int .u8 n_TargetA13_, .int .u8 n_TargetA14_, .int .u8 n_TargetA15_, .bool n_Router, .bool n_Solicited, .bool n_Override, .bool n_HasMac, .int .u8 n_Mac0_, .int .u8 n_Mac1_, .int .u8 n_Mac2_, .int .u8 n_Mac3_, .int .u8 n_Mac4_, .int .u8 n_Mac5_], .agg #[.int .i64 m_V, .int .i64 m_Type, .int .i64 m_Code, .int .i64 m_Rest, .slice m_DataA m_Datan m_Datac]]) [] w (finish Tryd.prog callF Tryd.f5.results.toList R)) h)

set_option maxRecDepth 100000 in
def weirlaw8_neighbours_VC  (w : World) (R : Ending → World → Prop) : Prop :=
  Calls Tryd.prog 46 #[] w (onRet (fun r_ w1 => ∃ x0 : Int, ∃ x1 : Int, ∃ x2 : Int, ∃ x3 : Int, ∃ x4 : Int, ∃ x5 : Int, ∃ x6 : Int, ∃ x7 : Int, ∃ x8 : Int, ∃ x9 : Int, ∃ x10 : Int, ∃ x11 : Int, ∃ x12 : Int, ∃ x13 : Int, ∃ x14 : Int, ∃ x15 : Int, ∃ x16 : Int, ∃ x17 : Int, ∃ x18 : Bool, ∃ x19 : Bool, ∃ x20 : Bool, ∃ x21 : Bool, ∃ x22 : Int, ∃ x23 : Int, ∃ x24 : Int, ∃ x25 : Int, ∃ x26 : Int, ∃ x27 : Int, r_ = .agg #[.int .i64 x0, .int .i64 x1, .int .u8 x2, .int .u8 x3, .int .u8 x4, .int .u8 x5, .int .u8 x6, .int .u8 x7, .int .u8 x8, .int .u8 x9, .int .u8 x10, .int .u8 x11, .int .u8 x12, .int .u8 x13, .int .u8 x14, .int .u8 x15, .int .u8 x16, .int .u8 x17, .bool x18, .bool x19, .bool x20, .bool x21, .int .u8 x22, .int .u8 x23, .int .u8 x24, .int .u8 x25, .int .u8 x26, .int .u8 x27] ∧
  Calls Tryd.prog 19 #[.agg #[.int .i64 x0, .int .i64 x1, .int .u8 x2, .int .u8 x3, .int .u8 x4, .int .u8 x5, .int .u8 x6, .int .u8 x7, .int .u8 x8, .int .u8 x9, .int .u8 x10, .int .u8 x11, .int .u8 x12, .int .u8 x13, .int .u8 x14, .int .u8 x15, .int .u8 x16, .int .u8 x17, .bool x18, .bool x19, .bool x20, .bool x21, .int .u8 x22, .int .u8 x23, .int .u8 x24, .int .u8 x25, .int .u8 x26, .int .u8 x27]] w1 (onRet (fun r_1 w2 => ∃ x00 : Int, ∃ x01 : Int, ∃ x02 : Int, ∃ x03 : Int, ∃ (x04A : Option Addr) (x04n x04c : Nat), ∃ x110 : Int, r_1 = .tuple #[.agg #[.int .i64 x00, .int .i64 x01, .int .i64 x02, .int .i64 x03, .slice x04A x04n x04c], .int .i64 x110] ∧
  NewVC w2 (.cells #[.int .i64 0, .int .i64 0, .int .i64 0, .int .i64 0, .slice none 0 0] 24) fun g1 w3 =>
  SetVC w3 ⟨g1, 0, none⟩ (.int .i64 x00) fun w4 =>
  SetVC w4 ⟨g1, 1, none⟩ (.int .i64 x01) fun w5 =>
  SetVC w5 ⟨g1, 2, none⟩ (.int .i64 x02) fun w6 =>
  SetVC w6 ⟨g1, 3, none⟩ (.int .i64 x03) fun w7 =>
  SetVC w7 ⟨g1, 4, none⟩ (.slice x04A x04n x04c) fun w8 =>
  ∃ x04 : Int, ∃ x111 : Int, ∃ x28 : Int, ∃ x31 : Int, ∃ (x4A : Option Addr) (x4n x4c : Nat), CellsAt w8 ⟨g1, 0, none⟩ 0 [.int .i64 x04, .int .i64 x111, .int .i64 x28, .int .i64 x31, .slice x4A x4n x4c] ∧
  Calls Tryd.prog 16 #[.agg #[.int .i64 x04, .int .i64 x111, .int .i64 x28, .int .i64 x31, .slice x4A x4n x4c]] w8 (onRet (fun r_2 w9 => ∃ x001 : Int, ∃ x011 : Int, ∃ x021 : Int, ∃ x031 : Int, ∃ x041 : Int, ∃ x05 : Int, ∃ x06 : Int, ∃ x07 : Int, ∃ x08 : Int, ∃ x09 : Int, ∃ x010 : Int, ∃ x0111 : Int, ∃ x012 : Int, ∃ x013 : Int, ∃ x014 : Int, ∃ x015 : Int, ∃ x016 : Int, ∃ x017 : Int, ∃ x018 : Bool, ∃ x019 : Bool, ∃ x020 : Bool, ∃ x0211 : Bool, ∃ x022 : Int, ∃ x023 : Int, ∃ x024 : Int, ∃ x025 : Int, ∃ x026 : Int, ∃ x027 : Int, ∃ x112 : Int, r_2 = .tuple #[.agg #[.int .i64 x001, .int .i64 x011, .int .u8 x021, .int .u8 x031, .int .u8 x041, .int .u8 x05, .int .u8 x06, .int .u8 x07, .int .u8 x08, .int .u8 x09, .int .u8 x010, .int .u8 x0111, .int .u8 x012, .int .u8 x013, .int .u8 x014, .int .u8 x015, .int .u8 x016, .int .u8 x017, .bool x018, .bool x019, .bool x020, .bool x0211, .int .u8 x022, .int .u8 x023, .int .u8 x024, .int .u8 x025, .int .u8 x026, .int .u8 x027], .int .i64 x112] ∧
  NewVC w9 (.cells #[.int .i64 0, .int .i64 0, .int .u8 0, .int .u8 0, .int .u8 0, .int .u8 0, .int .u8 0, .int .u8 0, .int .u8 0, .int .u8 0, .int .u8 0, .int .u8 0, .int .u8 0, .int .u8 0, .int .u8 0, .int .u8 0, .int .u8 0, .int .u8 0, .bool false, .bool false, .bool false, .bool false, .int .u8 0, .int .u8 0, .int .u8 0, .int .u8 0, .int .u8 0, .int .u8 0] 35) fun g2 w10 =>
  SetVC w10 ⟨g2, 0, none⟩ (.int .i64 x001) fun w11 =>
  SetVC w11 ⟨g2, 1, none⟩ (.int .i64 x011) fun w12 =>
  SetVC w12 ⟨g2, 2, none⟩ (.int .u8 x021) fun w13 =>
  SetVC w13 ⟨g2, 3, none⟩ (.int .u8 x031) fun w14 =>
  SetVC w14 ⟨g2, 4, none⟩ (.int .u8 x041) fun w15 =>
  SetVC w15 ⟨g2, 5, none⟩ (.int .u8 x05) fun w16 =>
  SetVC w16 ⟨g2, 6, none⟩ (.int .u8 x06) fun w17 =>
  SetVC w17 ⟨g2, 7, none⟩ (.int .u8 x07) fun w18 =>
  SetVC w18 ⟨g2, 8, none⟩ (.int .u8 x08) fun w19 =>
  SetVC w19 ⟨g2, 9, none⟩ (.int .u8 x09) fun w20 =>
  SetVC w20 ⟨g2, 10, none⟩ (.int .u8 x010) fun w21 =>
  SetVC w21 ⟨g2, 11, none⟩ (.int .u8 x0111) fun w22 =>
  SetVC w22 ⟨g2, 12, none⟩ (.int .u8 x012) fun w23 =>
  SetVC w23 ⟨g2, 13, none⟩ (.int .u8 x013) fun w24 =>
  SetVC w24 ⟨g2, 14, none⟩ (.int .u8 x014) fun w25 =>
  SetVC w25 ⟨g2, 15, none⟩ (.int .u8 x015) fun w26 =>
  SetVC w26 ⟨g2, 16, none⟩ (.int .u8 x016) fun w27 =>
  SetVC w27 ⟨g2, 17, none⟩ (.int .u8 x017) fun w28 =>
  SetVC w28 ⟨g2, 18, none⟩ (.bool x018) fun w29 =>
  SetVC w29 ⟨g2, 19, none⟩ (.bool x019) fun w30 =>
  SetVC w30 ⟨g2, 20, none⟩ (.bool x020) fun w31 =>
  SetVC w31 ⟨g2, 21, none⟩ (.bool x0211) fun w32 =>
  SetVC w32 ⟨g2, 22, none⟩ (.int .u8 x022) fun w33 =>
  SetVC w33 ⟨g2, 23, none⟩ (.int .u8 x023) fun w34 =>
  SetVC w34 ⟨g2, 24, none⟩ (.int .u8 x024) fun w35 =>
  SetVC w35 ⟨g2, 25, none⟩ (.int .u8 x025) fun w36 =>
  SetVC w36 ⟨g2, 26, none⟩ (.int .u8 x026) fun w37 =>
  SetVC w37 ⟨g2, 27, none⟩ (.int .u8 x027) fun w38 =>
  DrawVC w38 fun S1 w39 =>
  Br (decide (x110 = 0))
    (Br (decide (x112 = 0))
      (∃ x028 : Int, ∃ x113 : Int, ∃ x29 : Int, ∃ x32 : Int, ∃ x41 : Int, ∃ x51 : Int, ∃ x61 : Int, ∃ x71 : Int, ∃ x81 : Int, ∃ x91 : Int, ∃ x101 : Int, ∃ x114 : Int, ∃ x121 : Int, ∃ x131 : Int, ∃ x141 : Int, ∃ x151 : Int, ∃ x161 : Int, ∃ x171 : Int, ∃ x181 : Bool, ∃ x191 : Bool, ∃ x201 : Bool, ∃ x211 : Bool, ∃ x221 : Int, ∃ x231 : Int, ∃ x241 : Int, ∃ x251 : Int, ∃ x261 : Int, ∃ x271 : Int, (∀ w' : World, S1 w' → CellsAt w' ⟨g2, 0, none⟩ 0 [.int .i64 x028, .int .i64 x113, .int .u8 x29, .int .u8 x32, .int .u8 x41, .int .u8 x51, .int .u8 x61, .int .u8 x71, .int .u8 x81, .int .u8 x91, .int .u8 x101, .int .u8 x114, .int .u8 x121, .int .u8 x131, .int .u8 x141, .int .u8 x151, .int .u8 x161, .int .u8 x171, .bool x181, .bool x191, .bool x201, .bool x211, .int .u8 x221, .int .u8 x231, .int .u8 x241, .int .u8 x251, .int .u8 x261, .int .u8 x271]) ∧
      Calls Tryd.prog 46 #[] w39 (onRet (fun r_3 w40 => ∃ x029 : Int, ∃ x115 : Int, ∃ x210 : Int, ∃ x33 : Int, ∃ x42 : Int, ∃ x52 : Int, ∃ x62 : Int, ∃ x72 : Int, ∃ x82 : Int, ∃ x92 : Int, ∃ x102 : Int, ∃ x116 : Int, ∃ x122 : Int, ∃ x132 : Int, ∃ x142 : Int, ∃ x152 : Int, ∃ x162 : Int, ∃ x172 : Int, ∃ x182 : Bool, ∃ x192 : Bool, ∃ x202 : Bool, ∃ x212 : Bool, ∃ x222 : Int, ∃ x232 : Int, ∃ x242 : Int, ∃ x252 : Int, ∃ x262 : Int, ∃ x272 : Int, r_3 = .agg #[.int .i64 x029, .int .i64 x115, .int .u8 x210, .int .u8 x33, .int .u8 x42, .int .u8 x52, .int .u8 x62, .int .u8 x72, .int .u8 x82, .int .u8 x92, .int .u8 x102, .int .u8 x116, .int .u8 x122, .int .u8 x132, .int .u8 x142, .int .u8 x152, .int .u8 x162, .int .u8 x172, .bool x182, .bool x192, .bool x202, .bool x212, .int .u8 x222, .int .u8 x232, .int .u8 x242, .int .u8 x252, .int .u8 x262, .int .u8 x272] ∧
      S1 w40 ∧
      Br ((decide (x028 = x029)) && (((decide (x113 = x115)) && (((decide (x29 = x210)) && ((decide (x32 = x33)) && ((decide (x41 = x42)) && ((decide (x51 = x52)) && ((decide (x61 = x62)) && ((decide (x71 = x72)) && ((decide (x81 = x82)) && ((decide (x91 = x92)) && ((decide (x101 = x102)) && ((decide (x114 = x116)) && ((decide (x121 = x122)) && ((decide (x131 = x132)) && ((decide (x141 = x142)) && ((decide (x151 = x152)) && ((decide (x161 = x162)) && ((decide (x171 = x172)) && true)))))))))))))))) && true)) && ((x181 == x182) && ((x191 == x192) && ((x201 == x202) && ((x211 == x212) && (((decide (x221 = x222)) && ((decide (x231 = x232)) && ((decide (x241 = x242)) && ((decide (x251 = x252)) && ((decide (x261 = x262)) && ((decide (x271 = x272)) && true)))))) && true)))))))
        (∃ (xA : Option Addr) (xn xc : Nat), (∀ w' : World, S1 w' → w'.cell? ⟨g1, 4, none⟩ = some (.slice xA xn xc)) ∧
        Br (decide ((xn : Int) = 24))
          (∃ x : Int, (∀ w' : World, S1 w' → w'.cell? ⟨g1, 1, none⟩ = some (.int .i64 x)) ∧
          Br (decide (x = 135))
            (∃ x30 : Int, (∀ w' : World, S1 w' → w'.cell? ⟨g1, 0, none⟩ = some (.int .i64 x30)) ∧
            R (.returned (.bool (decide (x30 = 6)))) w40)
            (R (.returned (.bool false)) w40))
          (R (.returned (.bool false)) w40))
        (R (.returned (.bool false)) w40))
        (fun _ _ => False)))
      (R (.returned (.bool false)) w39))
    (R (.returned (.bool false)) w39))
    (fun ch2 w9 => R (.panicked ch2) w9)))
    (fun ch1 w2 => R (.panicked ch1) w2)))
    (fun ch w1 => R (.panicked ch) w1))
def weirlaw8_neighbours_H : Hints := []
set_option maxRecDepth 100000 in
theorem weirlaw8_neighbours_of  (w : World) (R : Ending → World → Prop) (h : weirlaw8_neighbours_VC  w R) :
    Calls Tryd.prog 13 #[] w R :=
  calls_of_wpc callOk mixedOk (H := weirlaw8_neighbours_H) (args := []) (fn := Tryd.f13) (c := bodyOf Tryd.f13) Tryd.func13 rfl (Nat.le_of_ble_eq_true rfl)
    (Eq.mp (by kernel_rfl : weirlaw8_neighbours_VC  w R = wpc Tryd.prog callF Tryd.f13.ntmps weirlaw8_neighbours_H 1 (bodyOf Tryd.f13) (argEnv 0 []) [] w (finish Tryd.prog callF Tryd.f13.results.toList R)) h)

set_option maxRecDepth 100000 in
def icmp_ParseND_L4092 (R : Ending → World → Prop) (g2 : Nat) (g3 : Nat) (x24 : Option Addr)  (w239 : World) (K4092 : (Unit → World → Prop)) : Prop :=
  Calls Tryd.prog 50 #[.pointer x24] w239 (onRet (fun r_4 w240 => ∃ x26 : Int, r_4 = .int .i64 x26 ∧
  Br (decide ((0 : Int) < x26))
    (Calls Tryd.prog 51 #[.pointer x24, .int .i64 1] w240 (onRet (fun r_5 w241 => ∃ x03 : Int, ∃ x110 : Int, r_5 = .tuple #[.int .u64 x03, .int .i64 x110] ∧
  Calls Tryd.prog 51 #[.pointer x24, .int .i64 1] w241 (onRet (fun r_6 w242 => ∃ x04 : Int, ∃ x113 : Int, r_6 = .tuple #[.int .u64 x04, .int .i64 x113] ∧
  Br (decide (x113 ≠ 0))
    (SetVC w242 ⟨g2, 0, none⟩ (.int .i64 0) fun w243 =>
  SetVC w243 ⟨g2, 1, none⟩ (.int .i64 0) fun w244 =>
  SetVC w244 ⟨g2, 2, none⟩ (.int .u8 0) fun w245 =>
  SetVC w245 ⟨g2, 3, none⟩ (.int .u8 0) fun w246 =>
  SetVC w246 ⟨g2, 4, none⟩ (.int .u8 0) fun w247 =>
  SetVC w247 ⟨g2, 5, none⟩ (.int .u8 0) fun w248 =>
  SetVC w248 ⟨g2, 6, none⟩ (.int .u8 0) fun w249 =>
  SetVC w249 ⟨g2, 7, none⟩ (.int .u8 0) fun w250 =>
  SetVC w250 ⟨g2, 8, none⟩ (.int .u8 0) fun w251 =>
  SetVC w251 ⟨g2, 9, none⟩ (.int .u8 0) fun w252 =>
  SetVC w252 ⟨g2, 10, none⟩ (.int .u8 0) fun w253 =>
  SetVC w253 ⟨g2, 11, none⟩ (.int .u8 0) fun w254 =>
  SetVC w254 ⟨g2, 12, none⟩ (.int .u8 0) fun w255 =>
  SetVC w255 ⟨g2, 13, none⟩ (.int .u8 0) fun w256 =>
  SetVC w256 ⟨g2, 14, none⟩ (.int .u8 0) fun w257 =>
  SetVC w257 ⟨g2, 15, none⟩ (.int .u8 0) fun w258 =>
  SetVC w258 ⟨g2, 16, none⟩ (.int .u8 0) fun w259 =>
  SetVC w259 ⟨g2, 17, none⟩ (.int .u8 0) fun w260 =>
  SetVC w260 ⟨g2, 18, none⟩ (.bool false) fun w261 =>
  SetVC w261 ⟨g2, 19, none⟩ (.bool false) fun w262 =>
  SetVC w262 ⟨g2, 20, none⟩ (.bool false) fun w263 =>
  SetVC w263 ⟨g2, 21, none⟩ (.bool false) fun w264 =>
  SetVC w264 ⟨g2, 22, none⟩ (.int .u8 0) fun w265 =>
  SetVC w265 ⟨g2, 23, none⟩ (.int .u8 0) fun w266 =>
  SetVC w266 ⟨g2, 24, none⟩ (.int .u8 0) fun w267 =>
  SetVC w267 ⟨g2, 25, none⟩ (.int .u8 0) fun w268 =>
  SetVC w268 ⟨g2, 26, none⟩ (.int .u8 0) fun w269 =>
  SetVC w269 ⟨g2, 27, none⟩ (.int .u8 0) fun w270 =>
  ∃ res07 : Int, ∃ res127 : Int, ∃ res220 : Int, ∃ res37 : Int, ∃ res47 : Int, ∃ res57 : Int, ∃ res67 : Int, ∃ res77 : Int, ∃ res87 : Int, ∃ res97 : Int, ∃ res107 : Int, ∃ res1111 : Int, ∃ res128 : Int, ∃ res137 : Int, ∃ res147 : Int, ∃ res157 : Int, ∃ res167 : Int, ∃ res177 : Int, ∃ res187 : Bool, ∃ res197 : Bool, ∃ res207 : Bool, ∃ res2110 : Bool, ∃ res227 : Int, ∃ res237 : Int, ∃ res247 : Int, ∃ res257 : Int, ∃ res267 : Int, ∃ res277 : Int, CellsAt w270 ⟨g2, 0, none⟩ 0 [.int .i64 res07, .int .i64 res127, .int .u8 res220, .int .u8 res37, .int .u8 res47, .int .u8 res57, .int .u8 res67, .int .u8 res77, .int .u8 res87, .int .u8 res97, .int .u8 res107, .int .u8 res1111, .int .u8 res128, .int .u8 res137, .int .u8 res147, .int .u8 res157, .int .u8 res167, .int .u8 res177, .bool res187, .bool res197, .bool res207, .bool res2110, .int .u8 res227, .int .u8 res237, .int .u8 res247, .int .u8 res257, .int .u8 res267, .int .u8 res277] ∧
  R (.returned (.tuple #[.agg #[.int .i64 res07, .int .i64 res127, .int .u8 res220, .int .u8 res37, .int .u8 res47, .int .u8 res57, .int .u8 res67, .int .u8 res77, .int .u8 res87, .int .u8 res97, .int .u8 res107, .int .u8 res1111, .int .u8 res128, .int .u8 res137, .int .u8 res147, .int .u8 res157, .int .u8 res167, .int .u8 res177, .bool res187, .bool res197, .bool res207, .bool res2110, .int .u8 res227, .int .u8 res237, .int .u8 res247, .int .u8 res257, .int .u8 res267, .int .u8 res277], .int .i64 85])) w270)
    (Br (decide (x04 = 0))
    (SetVC w242 ⟨g2, 0, none⟩ (.int .i64 0) fun w271 =>
    SetVC w271 ⟨g2, 1, none⟩ (.int .i64 0) fun w272 =>
    SetVC w272 ⟨g2, 2, none⟩ (.int .u8 0) fun w273 =>
    SetVC w273 ⟨g2, 3, none⟩ (.int .u8 0) fun w274 =>
    SetVC w274 ⟨g2, 4, none⟩ (.int .u8 0) fun w275 =>
    SetVC w275 ⟨g2, 5, none⟩ (.int .u8 0) fun w276 =>
    SetVC w276 ⟨g2, 6, none⟩ (.int .u8 0) fun w277 =>
    SetVC w277 ⟨g2, 7, none⟩ (.int .u8 0) fun w278 =>
    SetVC w278 ⟨g2, 8, none⟩ (.int .u8 0) fun w279 =>
    SetVC w279 ⟨g2, 9, none⟩ (.int .u8 0) fun w280 =>
    SetVC w280 ⟨g2, 10, none⟩ (.int .u8 0) fun w281 =>
    SetVC w281 ⟨g2, 11, none⟩ (.int .u8 0) fun w282 =>
    SetVC w282 ⟨g2, 12, none⟩ (.int .u8 0) fun w283 =>
    SetVC w283 ⟨g2, 13, none⟩ (.int .u8 0) fun w284 =>
    SetVC w284 ⟨g2, 14, none⟩ (.int .u8 0) fun w285 =>
    SetVC w285 ⟨g2, 15, none⟩ (.int .u8 0) fun w286 =>
    SetVC w286 ⟨g2, 16, none⟩ (.int .u8 0) fun w287 =>
    SetVC w287 ⟨g2, 17, none⟩ (.int .u8 0) fun w288 =>
    SetVC w288 ⟨g2, 18, none⟩ (.bool false) fun w289 =>
    SetVC w289 ⟨g2, 19, none⟩ (.bool false) fun w290 =>
    SetVC w290 ⟨g2, 20, none⟩ (.bool false) fun w291 =>
    SetVC w291 ⟨g2, 21, none⟩ (.bool false) fun w292 =>
    SetVC w292 ⟨g2, 22, none⟩ (.int .u8 0) fun w293 =>
    SetVC w293 ⟨g2, 23, none⟩ (.int .u8 0) fun w294 =>
    SetVC w294 ⟨g2, 24, none⟩ (.int .u8 0) fun w295 =>
    SetVC w295 ⟨g2, 25, none⟩ (.int .u8 0) fun w296 =>
    SetVC w296 ⟨g2, 26, none⟩ (.int .u8 0) fun w297 =>
    SetVC w297 ⟨g2, 27, none⟩ (.int .u8 0) fun w298 =>
    ∃ res08 : Int, ∃ res129 : Int, ∃ res228 : Int, ∃ res38 : Int, ∃ res48 : Int, ∃ res58 : Int, ∃ res68 : Int, ∃ res78 : Int, ∃ res88 : Int, ∃ res98 : Int, ∃ res108 : Int, ∃ res1112 : Int, ∃ res1210 : Int, ∃ res138 : Int, ∃ res148 : Int, ∃ res158 : Int, ∃ res168 : Int, ∃ res178 : Int, ∃ res188 : Bool, ∃ res198 : Bool, ∃ res208 : Bool, ∃ res2111 : Bool, ∃ res229 : Int, ∃ res238 : Int, ∃ res248 : Int, ∃ res258 : Int, ∃ res268 : Int, ∃ res278 : Int, CellsAt w298 ⟨g2, 0, none⟩ 0 [.int .i64 res08, .int .i64 res129, .int .u8 res228, .int .u8 res38, .int .u8 res48, .int .u8 res58, .int .u8 res68, .int .u8 res78, .int .u8 res88, .int .u8 res98, .int .u8 res108, .int .u8 res1112, .int .u8 res1210, .int .u8 res138, .int .u8 res148, .int .u8 res158, .int .u8 res168, .int .u8 res178, .bool res188, .bool res198, .bool res208, .bool res2111, .int .u8 res229, .int .u8 res238, .int .u8 res248, .int .u8 res258, .int .u8 res268, .int .u8 res278] ∧
  R (.returned (.tuple #[.agg #[.int .i64 res08, .int .i64 res129, .int .u8 res228, .int .u8 res38, .int .u8 res48, .int .u8 res58, .int .u8 res68, .int .u8 res78, .int .u8 res88, .int .u8 res98, .int .u8 res108, .int .u8 res1112, .int .u8 res1210, .int .u8 res138, .int .u8 res148, .int .u8 res158, .int .u8 res168, .int .u8 res178, .bool res188, .bool res198, .bool res208, .bool res2111, .int .u8 res229, .int .u8 res238, .int .u8 res248, .int .u8 res258, .int .u8 res268, .int .u8 res278], .int .i64 85])) w298)
    (Calls Tryd.prog 52 #[.pointer x24, .int .i64 (IntKind.i64.wrap (IntKind.i64.wrap (8 * IntKind.i64.wrap x04) - 2))] w242 (onRet (fun r_7 w299 => ∃ (x0A : Option Addr) (x0n x0c : Nat), ∃ x114 : Int, r_7 = .tuple #[.slice x0A x0n x0c, .int .i64 x114] ∧
  Br (decide (x114 ≠ 0))
    (SetVC w299 ⟨g2, 0, none⟩ (.int .i64 0) fun w300 =>
    SetVC w300 ⟨g2, 1, none⟩ (.int .i64 0) fun w301 =>
    SetVC w301 ⟨g2, 2, none⟩ (.int .u8 0) fun w302 =>
    SetVC w302 ⟨g2, 3, none⟩ (.int .u8 0) fun w303 =>
    SetVC w303 ⟨g2, 4, none⟩ (.int .u8 0) fun w304 =>
    SetVC w304 ⟨g2, 5, none⟩ (.int .u8 0) fun w305 =>
    SetVC w305 ⟨g2, 6, none⟩ (.int .u8 0) fun w306 =>
    SetVC w306 ⟨g2, 7, none⟩ (.int .u8 0) fun w307 =>
    SetVC w307 ⟨g2, 8, none⟩ (.int .u8 0) fun w308 =>
    SetVC w308 ⟨g2, 9, none⟩ (.int .u8 0) fun w309 =>
    SetVC w309 ⟨g2, 10, none⟩ (.int .u8 0) fun w310 =>
    SetVC w310 ⟨g2, 11, none⟩ (.int .u8 0) fun w311 =>
    SetVC w311 ⟨g2, 12, none⟩ (.int .u8 0) fun w312 =>
    SetVC w312 ⟨g2, 13, none⟩ (.int .u8 0) fun w313 =>
    SetVC w313 ⟨g2, 14, none⟩ (.int .u8 0) fun w314 =>
    SetVC w314 ⟨g2, 15, none⟩ (.int .u8 0) fun w315 =>
    SetVC w315 ⟨g2, 16, none⟩ (.int .u8 0) fun w316 =>
    SetVC w316 ⟨g2, 17, none⟩ (.int .u8 0) fun w317 =>
    SetVC w317 ⟨g2, 18, none⟩ (.bool false) fun w318 =>
    SetVC w318 ⟨g2, 19, none⟩ (.bool false) fun w319 =>
    SetVC w319 ⟨g2, 20, none⟩ (.bool false) fun w320 =>
    SetVC w320 ⟨g2, 21, none⟩ (.bool false) fun w321 =>
    SetVC w321 ⟨g2, 22, none⟩ (.int .u8 0) fun w322 =>
    SetVC w322 ⟨g2, 23, none⟩ (.int .u8 0) fun w323 =>
    SetVC w323 ⟨g2, 24, none⟩ (.int .u8 0) fun w324 =>
    SetVC w324 ⟨g2, 25, none⟩ (.int .u8 0) fun w325 =>
    SetVC w325 ⟨g2, 26, none⟩ (.int .u8 0) fun w326 =>
    SetVC w326 ⟨g2, 27, none⟩ (.int .u8 0) fun w327 =>
    ∃ res09 : Int, ∃ res130 : Int, ∃ res230 : Int, ∃ res39 : Int, ∃ res49 : Int, ∃ res59 : Int, ∃ res69 : Int, ∃ res79 : Int, ∃ res89 : Int, ∃ res99 : Int, ∃ res109 : Int, ∃ res1113 : Int, ∃ res1211 : Int, ∃ res139 : Int, ∃ res149 : Int, ∃ res159 : Int, ∃ res169 : Int, ∃ res179 : Int, ∃ res189 : Bool, ∃ res199 : Bool, ∃ res209 : Bool, ∃ res2112 : Bool, ∃ res2210 : Int, ∃ res239 : Int, ∃ res249 : Int, ∃ res259 : Int, ∃ res269 : Int, ∃ res279 : Int, CellsAt w327 ⟨g2, 0, none⟩ 0 [.int .i64 res09, .int .i64 res130, .int .u8 res230, .int .u8 res39, .int .u8 res49, .int .u8 res59, .int .u8 res69, .int .u8 res79, .int .u8 res89, .int .u8 res99, .int .u8 res109, .int .u8 res1113, .int .u8 res1211, .int .u8 res139, .int .u8 res149, .int .u8 res159, .int .u8 res169, .int .u8 res179, .bool res189, .bool res199, .bool res209, .bool res2112, .int .u8 res2210, .int .u8 res239, .int .u8 res249, .int .u8 res259, .int .u8 res269, .int .u8 res279] ∧
  R (.returned (.tuple #[.agg #[.int .i64 res09, .int .i64 res130, .int .u8 res230, .int .u8 res39, .int .u8 res49, .int .u8 res59, .int .u8 res69, .int .u8 res79, .int .u8 res89, .int .u8 res99, .int .u8 res109, .int .u8 res1113, .int .u8 res1211, .int .u8 res139, .int .u8 res149, .int .u8 res159, .int .u8 res169, .int .u8 res179, .bool res189, .bool res199, .bool res209, .bool res2112, .int .u8 res2210, .int .u8 res239, .int .u8 res249, .int .u8 res259, .int .u8 res269, .int .u8 res279], .int .i64 85])) w327)
    (∃ x27 : Int, w299.cell? ⟨g3, 0, none⟩ = some (.int .i64 x27) ∧
  Br (decide (IntKind.i64.wrap x03 ≠ x27))
    (K4092 () w299)
    (Br (decide (x04 ≠ 1))
    (SetVC w299 ⟨g2, 0, none⟩ (.int .i64 0) fun w328 =>
    SetVC w328 ⟨g2, 1, none⟩ (.int .i64 0) fun w329 =>
    SetVC w329 ⟨g2, 2, none⟩ (.int .u8 0) fun w330 =>
    SetVC w330 ⟨g2, 3, none⟩ (.int .u8 0) fun w331 =>
    SetVC w331 ⟨g2, 4, none⟩ (.int .u8 0) fun w332 =>
    SetVC w332 ⟨g2, 5, none⟩ (.int .u8 0) fun w333 =>
    SetVC w333 ⟨g2, 6, none⟩ (.int .u8 0) fun w334 =>
    SetVC w334 ⟨g2, 7, none⟩ (.int .u8 0) fun w335 =>
    SetVC w335 ⟨g2, 8, none⟩ (.int .u8 0) fun w336 =>
    SetVC w336 ⟨g2, 9, none⟩ (.int .u8 0) fun w337 =>
    SetVC w337 ⟨g2, 10, none⟩ (.int .u8 0) fun w338 =>
    SetVC w338 ⟨g2, 11, none⟩ (.int .u8 0) fun w339 =>
    SetVC w339 ⟨g2, 12, none⟩ (.int .u8 0) fun w340 =>
    SetVC w340 ⟨g2, 13, none⟩ (.int .u8 0) fun w341 =>
    SetVC w341 ⟨g2, 14, none⟩ (.int .u8 0) fun w342 =>
    SetVC w342 ⟨g2, 15, none⟩ (.int .u8 0) fun w343 =>
    SetVC w343 ⟨g2, 16, none⟩ (.int .u8 0) fun w344 =>
    SetVC w344 ⟨g2, 17, none⟩ (.int .u8 0) fun w345 =>
    SetVC w345 ⟨g2, 18, none⟩ (.bool false) fun w346 =>
    SetVC w346 ⟨g2, 19, none⟩ (.bool false) fun w347 =>
    SetVC w347 ⟨g2, 20, none⟩ (.bool false) fun w348 =>
    SetVC w348 ⟨g2, 21, none⟩ (.bool false) fun w349 =>
    SetVC w349 ⟨g2, 22, none⟩ (.int .u8 0) fun w350 =>
    SetVC w350 ⟨g2, 23, none⟩ (.int .u8 0) fun w351 =>
    SetVC w351 ⟨g2, 24, none⟩ (.int .u8 0) fun w352 =>
    SetVC w352 ⟨g2, 25, none⟩ (.int .u8 0) fun w353 =>
    SetVC w353 ⟨g2, 26, none⟩ (.int .u8 0) fun w354 =>
    SetVC w354 ⟨g2, 27, none⟩ (.int .u8 0) fun w355 =>
    ∃ res010 : Int, ∃ res140 : Int, ∃ res240 : Int, ∃ res310 : Int, ∃ res410 : Int, ∃ res510 : Int, ∃ res610 : Int, ∃ res710 : Int, ∃ res810 : Int, ∃ res910 : Int, ∃ res1010 : Int, ∃ res1114 : Int, ∃ res1212 : Int, ∃ res1310 : Int, ∃ res1410 : Int, ∃ res1510 : Int, ∃ res1610 : Int, ∃ res1710 : Int, ∃ res1810 : Bool, ∃ res1910 : Bool, ∃ res2010 : Bool, ∃ res2113 : Bool, ∃ res2211 : Int, ∃ res2310 : Int, ∃ res2410 : Int, ∃ res2510 : Int, ∃ res2610 : Int, ∃ res2710 : Int, CellsAt w355 ⟨g2, 0, none⟩ 0 [.int .i64 res010, .int .i64 res140, .int .u8 res240, .int .u8 res310, .int .u8 res410, .int .u8 res510, .int .u8 res610, .int .u8 res710, .int .u8 res810, .int .u8 res910, .int .u8 res1010, .int .u8 res1114, .int .u8 res1212, .int .u8 res1310, .int .u8 res1410, .int .u8 res1510, .int .u8 res1610, .int .u8 res1710, .bool res1810, .bool res1910, .bool res2010, .bool res2113, .int .u8 res2211, .int .u8 res2310, .int .u8 res2410, .int .u8 res2510, .int .u8 res2610, .int .u8 res2710] ∧
  R (.returned (.tuple #[.agg #[.int .i64 res010, .int .i64 res140, .int .u8 res240, .int .u8 res310, .int .u8 res410, .int .u8 res510, .int .u8 res610, .int .u8 res710, .int .u8 res810, .int .u8 res910, .int .u8 res1010, .int .u8 res1114, .int .u8 res1212, .int .u8 res1310, .int .u8 res1410, .int .u8 res1510, .int .u8 res1610, .int .u8 res1710, .bool res1810, .bool res1910, .bool res2010, .bool res2113, .int .u8 res2211, .int .u8 res2310, .int .u8 res2410, .int .u8 res2510, .int .u8 res2610, .int .u8 res2710], .int .i64 85])) w355)
    (∃ x28 : Bool, w299.cell? ⟨g3, 21, none⟩ = some (.bool x28) ∧
  Br (!x28)
    (DrawVC w299 fun S2 w356 =>
    6 ≤ x0n ∧
    NilVC x0A fun p1 =>
    ∃ x05 : Int, ∃ x115 : Int, ∃ x29 : Int, ∃ x33 : Int, ∃ x43 : Int, ∃ x53 : Int, (∀ w' : World, S2 w' → CellsAt w' p1 0 [.int .u8 x05, .int .u8 x115, .int .u8 x29, .int .u8 x33, .int .u8 x43, .int .u8 x53]) ∧
    SetVC w356 ⟨g3, 21, none⟩ (.bool true) fun w357 =>
    S2 w357 ∧
    SetVC w357 ⟨g3, 22, none⟩ (.int .u8 x05) fun w358 =>
    SetVC w358 ⟨g3, 23, none⟩ (.int .u8 x115) fun w359 =>
    SetVC w359 ⟨g3, 24, none⟩ (.int .u8 x29) fun w360 =>
    SetVC w360 ⟨g3, 25, none⟩ (.int .u8 x33) fun w361 =>
    SetVC w361 ⟨g3, 26, none⟩ (.int .u8 x43) fun w362 =>
    SetVC w362 ⟨g3, 27, none⟩ (.int .u8 x53) fun w363 =>
    K4092 () w363)
    (K4092 () w299)))))
    (fun ch7 w299 => R (.panicked ch7) w299)))))
    (fun ch6 w242 => R (.panicked ch6) w242)))
    (fun ch5 w241 => R (.panicked ch5) w241)))
    (∃ x06 : Int, ∃ x116 : Int, ∃ x210 : Int, ∃ x34 : Int, ∃ x44 : Int, ∃ x54 : Int, ∃ x63 : Int, ∃ x73 : Int, ∃ x83 : Int, ∃ x92 : Int, ∃ x102 : Int, ∃ x117 : Int, ∃ x122 : Int, ∃ x132 : Int, ∃ x142 : Int, ∃ x152 : Int, ∃ x162 : Int, ∃ x171 : Int, ∃ x181 : Bool, ∃ x191 : Bool, ∃ x201 : Bool, ∃ x211 : Bool, ∃ x221 : Int, ∃ x231 : Int, ∃ x241 : Int, ∃ x251 : Int, ∃ x261 : Int, ∃ x271 : Int, CellsAt w240 ⟨g3, 0, none⟩ 0 [.int .i64 x06, .int .i64 x116, .int .u8 x210, .int .u8 x34, .int .u8 x44, .int .u8 x54, .int .u8 x63, .int .u8 x73, .int .u8 x83, .int .u8 x92, .int .u8 x102, .int .u8 x117, .int .u8 x122, .int .u8 x132, .int .u8 x142, .int .u8 x152, .int .u8 x162, .int .u8 x171, .bool x181, .bool x191, .bool x201, .bool x211, .int .u8 x221, .int .u8 x231, .int .u8 x241, .int .u8 x251, .int .u8 x261, .int .u8 x271] ∧
  SetVC w240 ⟨g2, 0, none⟩ (.int .i64 x06) fun w364 =>
  SetVC w364 ⟨g2, 1, none⟩ (.int .i64 x116) fun w365 =>
  SetVC w365 ⟨g2, 2, none⟩ (.int .u8 x210) fun w366 =>
  SetVC w366 ⟨g2, 3, none⟩ (.int .u8 x34) fun w367 =>
  SetVC w367 ⟨g2, 4, none⟩ (.int .u8 x44) fun w368 =>
  SetVC w368 ⟨g2, 5, none⟩ (.int .u8 x54) fun w369 =>
  SetVC w369 ⟨g2, 6, none⟩ (.int .u8 x63) fun w370 =>
  SetVC w370 ⟨g2, 7, none⟩ (.int .u8 x73) fun w371 =>
  SetVC w371 ⟨g2, 8, none⟩ (.int .u8 x83) fun w372 =>
  SetVC w372 ⟨g2, 9, none⟩ (.int .u8 x92) fun w373 =>
  SetVC w373 ⟨g2, 10, none⟩ (.int .u8 x102) fun w374 =>
  SetVC w374 ⟨g2, 11, none⟩ (.int .u8 x117) fun w375 =>
  SetVC w375 ⟨g2, 12, none⟩ (.int .u8 x122) fun w376 =>
  SetVC w376 ⟨g2, 13, none⟩ (.int .u8 x132) fun w377 =>
  SetVC w377 ⟨g2, 14, none⟩ (.int .u8 x142) fun w378 =>
  SetVC w378 ⟨g2, 15, none⟩ (.int .u8 x152) fun w379 =>
  SetVC w379 ⟨g2, 16, none⟩ (.int .u8 x162) fun w380 =>
  SetVC w380 ⟨g2, 17, none⟩ (.int .u8 x171) fun w381 =>
  SetVC w381 ⟨g2, 18, none⟩ (.bool x181) fun w382 =>
  SetVC w382 ⟨g2, 19, none⟩ (.bool x191) fun w383 =>
  SetVC w383 ⟨g2, 20, none⟩ (.bool x201) fun w384 =>
  SetVC w384 ⟨g2, 21, none⟩ (.bool x211) fun w385 =>
  SetVC w385 ⟨g2, 22, none⟩ (.int .u8 x221) fun w386 =>
  SetVC w386 ⟨g2, 23, none⟩ (.int .u8 x231) fun w387 =>
  SetVC w387 ⟨g2, 24, none⟩ (.int .u8 x241) fun w388 =>
  SetVC w388 ⟨g2, 25, none⟩ (.int .u8 x251) fun w389 =>
  SetVC w389 ⟨g2, 26, none⟩ (.int .u8 x261) fun w390 =>
  SetVC w390 ⟨g2, 27, none⟩ (.int .u8 x271) fun w391 =>
  ∃ res011 : Int, ∃ res150 : Int, ∃ res250 : Int, ∃ res311 : Int, ∃ res411 : Int, ∃ res511 : Int, ∃ res611 : Int, ∃ res711 : Int, ∃ res811 : Int, ∃ res911 : Int, ∃ res1011 : Int, ∃ res1115 : Int, ∃ res1213 : Int, ∃ res1311 : Int, ∃ res1411 : Int, ∃ res1511 : Int, ∃ res1611 : Int, ∃ res1711 : Int, ∃ res1811 : Bool, ∃ res1911 : Bool, ∃ res2011 : Bool, ∃ res2114 : Bool, ∃ res2212 : Int, ∃ res2311 : Int, ∃ res2411 : Int, ∃ res2511 : Int, ∃ res2611 : Int, ∃ res2711 : Int, CellsAt w391 ⟨g2, 0, none⟩ 0 [.int .i64 res011, .int .i64 res150, .int .u8 res250, .int .u8 res311, .int .u8 res411, .int .u8 res511, .int .u8 res611, .int .u8 res711, .int .u8 res811, .int .u8 res911, .int .u8 res1011, .int .u8 res1115, .int .u8 res1213, .int .u8 res1311, .int .u8 res1411, .int .u8 res1511, .int .u8 res1611, .int .u8 res1711, .bool res1811, .bool res1911, .bool res2011, .bool res2114, .int .u8 res2212, .int .u8 res2311, .int .u8 res2411, .int .u8 res2511, .int .u8 res2611, .int .u8 res2711] ∧
  R (.returned (.tuple #[.agg #[.int .i64 res011, .int .i64 res150, .int .u8 res250, .int .u8 res311, .int .u8 res411, .int .u8 res511, .int .u8 res611, .int .u8 res711, .int .u8 res811, .int .u8 res911, .int .u8 res1011, .int .u8 res1115, .int .u8 res1213, .int .u8 res1311, .int .u8 res1411, .int .u8 res1511, .int .u8 res1611, .int .u8 res1711, .bool res1811, .bool res1911, .bool res2011, .bool res2114, .int .u8 res2212, .int .u8 res2311, .int .u8 res2411, .int .u8 res2511, .int .u8 res2611, .int .u8 res2711], .int .i64 0])) w391))
    (fun ch4 w240 => R (.panicked ch4) w240))
set_option maxRecDepth 100000 in
def icmp_ParseND_J127 (R : Ending → World → Prop) (g1 : Nat) (g2 : Nat) (g3 : Nat)  (w236 : World) : Prop :=
  ∃ (xA2 : Option Addr) (xn2 xc2 : Nat), w236.cell? ⟨g1, 4, none⟩ = some (.slice xA2 xn2 xc2) ∧
  Calls Tryd.prog 48 #[.slice xA2 xn2 xc2] w236 (onRet (fun r_2 w237 => ∃ x24 : Option Addr, r_2 = .pointer x24 ∧
  Calls Tryd.prog 49 #[.pointer x24, .int .i64 16] w237 (onRet (fun r_3 w238 => ∃ x25 : Int, r_3 = .int .i64 x25 ∧
  LoopVC (S := Unit) (fun _ w239 K4092 => icmp_ParseND_L4092 R g2 g3 x24 w239 K4092) () w238)
    (fun ch3 w238 => R (.panicked ch3) w238)))
    (fun ch2 w237 => R (.panicked ch2) w237))
set_option maxRecDepth 100000 in
def icmp_ParseND_J7 (R : Ending → World → Prop) (g1 : Nat) (g2 : Nat)  (w144 : World) : Prop :=
  ∃ (xA : Option Addr) (xn xc : Nat), w144.cell? ⟨g1, 4, none⟩ = some (.slice xA xn xc) ∧
  Br (decide ((xn : Int) < 16))
    (SetVC w144 ⟨g2, 0, none⟩ (.int .i64 0) fun w145 =>
    SetVC w145 ⟨g2, 1, none⟩ (.int .i64 0) fun w146 =>
    SetVC w146 ⟨g2, 2, none⟩ (.int .u8 0) fun w147 =>
    SetVC w147 ⟨g2, 3, none⟩ (.int .u8 0) fun w148 =>
    SetVC w148 ⟨g2, 4, none⟩ (.int .u8 0) fun w149 =>
    SetVC w149 ⟨g2, 5, none⟩ (.int .u8 0) fun w150 =>
    SetVC w150 ⟨g2, 6, none⟩ (.int .u8 0) fun w151 =>
    SetVC w151 ⟨g2, 7, none⟩ (.int .u8 0) fun w152 =>
    SetVC w152 ⟨g2, 8, none⟩ (.int .u8 0) fun w153 =>
    SetVC w153 ⟨g2, 9, none⟩ (.int .u8 0) fun w154 =>
    SetVC w154 ⟨g2, 10, none⟩ (.int .u8 0) fun w155 =>
    SetVC w155 ⟨g2, 11, none⟩ (.int .u8 0) fun w156 =>
    SetVC w156 ⟨g2, 12, none⟩ (.int .u8 0) fun w157 =>
    SetVC w157 ⟨g2, 13, none⟩ (.int .u8 0) fun w158 =>
    SetVC w158 ⟨g2, 14, none⟩ (.int .u8 0) fun w159 =>
    SetVC w159 ⟨g2, 15, none⟩ (.int .u8 0) fun w160 =>
    SetVC w160 ⟨g2, 16, none⟩ (.int .u8 0) fun w161 =>
    SetVC w161 ⟨g2, 17, none⟩ (.int .u8 0) fun w162 =>
    SetVC w162 ⟨g2, 18, none⟩ (.bool false) fun w163 =>
    SetVC w163 ⟨g2, 19, none⟩ (.bool false) fun w164 =>
    SetVC w164 ⟨g2, 20, none⟩ (.bool false) fun w165 =>
    SetVC w165 ⟨g2, 21, none⟩ (.bool false) fun w166 =>
    SetVC w166 ⟨g2, 22, none⟩ (.int .u8 0) fun w167 =>
    SetVC w167 ⟨g2, 23, none⟩ (.int .u8 0) fun w168 =>
    SetVC w168 ⟨g2, 24, none⟩ (.int .u8 0) fun w169 =>
    SetVC w169 ⟨g2, 25, none⟩ (.int .u8 0) fun w170 =>
    SetVC w170 ⟨g2, 26, none⟩ (.int .u8 0) fun w171 =>
    SetVC w171 ⟨g2, 27, none⟩ (.int .u8 0) fun w172 =>
    ∃ res05 : Int, ∃ res118 : Int, ∃ res216 : Int, ∃ res35 : Int, ∃ res45 : Int, ∃ res55 : Int, ∃ res65 : Int, ∃ res75 : Int, ∃ res85 : Int, ∃ res95 : Int, ∃ res105 : Int, ∃ res119 : Int, ∃ res125 : Int, ∃ res135 : Int, ∃ res145 : Int, ∃ res155 : Int, ∃ res165 : Int, ∃ res175 : Int, ∃ res185 : Bool, ∃ res195 : Bool, ∃ res205 : Bool, ∃ res217 : Bool, ∃ res225 : Int, ∃ res235 : Int, ∃ res245 : Int, ∃ res255 : Int, ∃ res265 : Int, ∃ res275 : Int, CellsAt w172 ⟨g2, 0, none⟩ 0 [.int .i64 res05, .int .i64 res118, .int .u8 res216, .int .u8 res35, .int .u8 res45, .int .u8 res55, .int .u8 res65, .int .u8 res75, .int .u8 res85, .int .u8 res95, .int .u8 res105, .int .u8 res119, .int .u8 res125, .int .u8 res135, .int .u8 res145, .int .u8 res155, .int .u8 res165, .int .u8 res175, .bool res185, .bool res195, .bool res205, .bool res217, .int .u8 res225, .int .u8 res235, .int .u8 res245, .int .u8 res255, .int .u8 res265, .int .u8 res275] ∧
  R (.returned (.tuple #[.agg #[.int .i64 res05, .int .i64 res118, .int .u8 res216, .int .u8 res35, .int .u8 res45, .int .u8 res55, .int .u8 res65, .int .u8 res75, .int .u8 res85, .int .u8 res95, .int .u8 res105, .int .u8 res119, .int .u8 res125, .int .u8 res135, .int .u8 res145, .int .u8 res155, .int .u8 res165, .int .u8 res175, .bool res185, .bool res195, .bool res205, .bool res217, .int .u8 res225, .int .u8 res235, .int .u8 res245, .int .u8 res255, .int .u8 res265, .int .u8 res275], .int .i64 84])) w172)
    (∃ (xA1 : Option Addr) (xn1 xc1 : Nat), w144.cell? ⟨g1, 4, none⟩ = some (.slice xA1 xn1 xc1) ∧
  SliceVC xA1 xn1 xc1 1 none (some 16) none fun sA sn _sc =>
  16 ≤ sn ∧
  NilVC sA fun p =>
  ∃ x01 : Int, ∃ x11 : Int, ∃ x21 : Int, ∃ x31 : Int, ∃ x41 : Int, ∃ x51 : Int, ∃ x61 : Int, ∃ x71 : Int, ∃ x81 : Int, ∃ x9 : Int, ∃ x10 : Int, ∃ x111 : Int, ∃ x12 : Int, ∃ x13 : Int, ∃ x14 : Int, ∃ x15 : Int, CellsAt w144 p 0 [.int .u8 x01, .int .u8 x11, .int .u8 x21, .int .u8 x31, .int .u8 x41, .int .u8 x51, .int .u8 x61, .int .u8 x71, .int .u8 x81, .int .u8 x9, .int .u8 x10, .int .u8 x111, .int .u8 x12, .int .u8 x13, .int .u8 x14, .int .u8 x15] ∧
  NewVC w144 (.cells #[.int .i64 0, .int .i64 0, .int .u8 0, .int .u8 0, .int .u8 0, .int .u8 0, .int .u8 0, .int .u8 0, .int .u8 0, .int .u8 0, .int .u8 0, .int .u8 0, .int .u8 0, .int .u8 0, .int .u8 0, .int .u8 0, .int .u8 0, .int .u8 0, .bool false, .bool false, .bool false, .bool false, .int .u8 0, .int .u8 0, .int .u8 0, .int .u8 0, .int .u8 0, .int .u8 0] 35) fun g3 w173 =>
  SetVC w173 ⟨g3, 0, none⟩ (.int .i64 1) fun w174 =>
  SetVC w174 ⟨g3, 1, none⟩ (.int .i64 6) fun w175 =>
  SetVC w175 ⟨g3, 2, none⟩ (.int .u8 x01) fun w176 =>
  SetVC w176 ⟨g3, 3, none⟩ (.int .u8 x11) fun w177 =>
  SetVC w177 ⟨g3, 4, none⟩ (.int .u8 x21) fun w178 =>
  SetVC w178 ⟨g3, 5, none⟩ (.int .u8 x31) fun w179 =>
  SetVC w179 ⟨g3, 6, none⟩ (.int .u8 x41) fun w180 =>
  SetVC w180 ⟨g3, 7, none⟩ (.int .u8 x51) fun w181 =>
  SetVC w181 ⟨g3, 8, none⟩ (.int .u8 x61) fun w182 =>
  SetVC w182 ⟨g3, 9, none⟩ (.int .u8 x71) fun w183 =>
  SetVC w183 ⟨g3, 10, none⟩ (.int .u8 x81) fun w184 =>
  SetVC w184 ⟨g3, 11, none⟩ (.int .u8 x9) fun w185 =>
  SetVC w185 ⟨g3, 12, none⟩ (.int .u8 x10) fun w186 =>
  SetVC w186 ⟨g3, 13, none⟩ (.int .u8 x111) fun w187 =>
  SetVC w187 ⟨g3, 14, none⟩ (.int .u8 x12) fun w188 =>
  SetVC w188 ⟨g3, 15, none⟩ (.int .u8 x13) fun w189 =>
  SetVC w189 ⟨g3, 16, none⟩ (.int .u8 x14) fun w190 =>
  SetVC w190 ⟨g3, 17, none⟩ (.int .u8 x15) fun w191 =>
  SetVC w191 ⟨g3, 18, none⟩ (.bool false) fun w192 =>
  SetVC w192 ⟨g3, 19, none⟩ (.bool false) fun w193 =>
  SetVC w193 ⟨g3, 20, none⟩ (.bool false) fun w194 =>
  SetVC w194 ⟨g3, 21, none⟩ (.bool false) fun w195 =>
  SetVC w195 ⟨g3, 22, none⟩ (.int .u8 0) fun w196 =>
  SetVC w196 ⟨g3, 23, none⟩ (.int .u8 0) fun w197 =>
  SetVC w197 ⟨g3, 24, none⟩ (.int .u8 0) fun w198 =>
  SetVC w198 ⟨g3, 25, none⟩ (.int .u8 0) fun w199 =>
  SetVC w199 ⟨g3, 26, none⟩ (.int .u8 0) fun w200 =>
  SetVC w200 ⟨g3, 27, none⟩ (.int .u8 0) fun w201 =>
  ∃ x02 : Int, ∃ x16 : Int, ∃ x22 : Int, ∃ x32 : Int, ∃ x42 : Int, ∃ x52 : Int, ∃ x62 : Int, ∃ x72 : Int, ∃ x82 : Int, ∃ x91 : Int, ∃ x101 : Int, ∃ x112 : Int, ∃ x121 : Int, ∃ x131 : Int, ∃ x141 : Int, ∃ x151 : Int, ∃ x161 : Int, CellsAt w201 ⟨g3, 1, none⟩ 0 [.int .i64 x02, .int .u8 x16, .int .u8 x22, .int .u8 x32, .int .u8 x42, .int .u8 x52, .int .u8 x62, .int .u8 x72, .int .u8 x82, .int .u8 x91, .int .u8 x101, .int .u8 x112, .int .u8 x121, .int .u8 x131, .int .u8 x141, .int .u8 x151, .int .u8 x161] ∧
  Calls Tryd.prog 47 #[.agg #[.int .i64 x02, .int .u8 x16, .int .u8 x22, .int .u8 x32, .int .u8 x42, .int .u8 x52, .int .u8 x62, .int .u8 x72, .int .u8 x82, .int .u8 x91, .int .u8 x101, .int .u8 x112, .int .u8 x121, .int .u8 x131, .int .u8 x141, .int .u8 x151, .int .u8 x161]] w201 (onRet (fun r_1 w202 => ∃ x17 : Bool, r_1 = .bool x17 ∧
  Br x17
    (SetVC w202 ⟨g2, 0, none⟩ (.int .i64 0) fun w203 =>
    SetVC w203 ⟨g2, 1, none⟩ (.int .i64 0) fun w204 =>
    SetVC w204 ⟨g2, 2, none⟩ (.int .u8 0) fun w205 =>
    SetVC w205 ⟨g2, 3, none⟩ (.int .u8 0) fun w206 =>
    SetVC w206 ⟨g2, 4, none⟩ (.int .u8 0) fun w207 =>
    SetVC w207 ⟨g2, 5, none⟩ (.int .u8 0) fun w208 =>
    SetVC w208 ⟨g2, 6, none⟩ (.int .u8 0) fun w209 =>
    SetVC w209 ⟨g2, 7, none⟩ (.int .u8 0) fun w210 =>
    SetVC w210 ⟨g2, 8, none⟩ (.int .u8 0) fun w211 =>
    SetVC w211 ⟨g2, 9, none⟩ (.int .u8 0) fun w212 =>
    SetVC w212 ⟨g2, 10, none⟩ (.int .u8 0) fun w213 =>
    SetVC w213 ⟨g2, 11, none⟩ (.int .u8 0) fun w214 =>
    SetVC w214 ⟨g2, 12, none⟩ (.int .u8 0) fun w215 =>
    SetVC w215 ⟨g2, 13, none⟩ (.int .u8 0) fun w216 =>
    SetVC w216 ⟨g2, 14, none⟩ (.int .u8 0) fun w217 =>
    SetVC w217 ⟨g2, 15, none⟩ (.int .u8 0) fun w218 =>
    SetVC w218 ⟨g2, 16, none⟩ (.int .u8 0) fun w219 =>
    SetVC w219 ⟨g2, 17, none⟩ (.int .u8 0) fun w220 =>
    SetVC w220 ⟨g2, 18, none⟩ (.bool false) fun w221 =>
    SetVC w221 ⟨g2, 19, none⟩ (.bool false) fun w222 =>
    SetVC w222 ⟨g2, 20, none⟩ (.bool false) fun w223 =>
    SetVC w223 ⟨g2, 21, none⟩ (.bool false) fun w224 =>
    SetVC w224 ⟨g2, 22, none⟩ (.int .u8 0) fun w225 =>
    SetVC w225 ⟨g2, 23, none⟩ (.int .u8 0) fun w226 =>
    SetVC w226 ⟨g2, 24, none⟩ (.int .u8 0) fun w227 =>
    SetVC w227 ⟨g2, 25, none⟩ (.int .u8 0) fun w228 =>
    SetVC w228 ⟨g2, 26, none⟩ (.int .u8 0) fun w229 =>
    SetVC w229 ⟨g2, 27, none⟩ (.int .u8 0) fun w230 =>
    ∃ res06 : Int, ∃ res120 : Int, ∃ res218 : Int, ∃ res36 : Int, ∃ res46 : Int, ∃ res56 : Int, ∃ res66 : Int, ∃ res76 : Int, ∃ res86 : Int, ∃ res96 : Int, ∃ res106 : Int, ∃ res1110 : Int, ∃ res126 : Int, ∃ res136 : Int, ∃ res146 : Int, ∃ res156 : Int, ∃ res166 : Int, ∃ res176 : Int, ∃ res186 : Bool, ∃ res196 : Bool, ∃ res206 : Bool, ∃ res219 : Bool, ∃ res226 : Int, ∃ res236 : Int, ∃ res246 : Int, ∃ res256 : Int, ∃ res266 : Int, ∃ res276 : Int, CellsAt w230 ⟨g2, 0, none⟩ 0 [.int .i64 res06, .int .i64 res120, .int .u8 res218, .int .u8 res36, .int .u8 res46, .int .u8 res56, .int .u8 res66, .int .u8 res76, .int .u8 res86, .int .u8 res96, .int .u8 res106, .int .u8 res1110, .int .u8 res126, .int .u8 res136, .int .u8 res146, .int .u8 res156, .int .u8 res166, .int .u8 res176, .bool res186, .bool res196, .bool res206, .bool res219, .int .u8 res226, .int .u8 res236, .int .u8 res246, .int .u8 res256, .int .u8 res266, .int .u8 res276] ∧
  R (.returned (.tuple #[.agg #[.int .i64 res06, .int .i64 res120, .int .u8 res218, .int .u8 res36, .int .u8 res46, .int .u8 res56, .int .u8 res66, .int .u8 res76, .int .u8 res86, .int .u8 res96, .int .u8 res106, .int .u8 res1110, .int .u8 res126, .int .u8 res136, .int .u8 res146, .int .u8 res156, .int .u8 res166, .int .u8 res176, .bool res186, .bool res196, .bool res206, .bool res219, .int .u8 res226, .int .u8 res236, .int .u8 res246, .int .u8 res256, .int .u8 res266, .int .u8 res276], .int .i64 86])) w230)
    (JoinVC (S := Unit) (fun J127 =>
      ∃ x18 : Int, w202.cell? ⟨g1, 1, none⟩ = some (.int .i64 x18) ∧
      Br (decide (x18 = 136))
        (SetVC w202 ⟨g3, 0, none⟩ (.int .i64 2) fun w231 =>
        DrawVC w231 fun S1 w232 =>
        ∃ x19 : Int, (∀ w' : World, S1 w' → w'.cell? ⟨g1, 3, none⟩ = some (.int .i64 x19)) ∧
        ∃ x20 : Int, (∀ w' : World, S1 w' → w'.cell? ⟨g1, 3, none⟩ = some (.int .i64 x20)) ∧
        ∃ x23 : Int, (∀ w' : World, S1 w' → w'.cell? ⟨g1, 3, none⟩ = some (.int .i64 x23)) ∧
        SetVC w232 ⟨g3, 18, none⟩ (.bool (decide (bitv .and .i64 x19 2147483648 ≠ 0))) fun w233 =>
        S1 w233 ∧
        SetVC w233 ⟨g3, 19, none⟩ (.bool (decide (bitv .and .i64 x20 1073741824 ≠ 0))) fun w234 =>
        S1 w234 ∧
        SetVC w234 ⟨g3, 20, none⟩ (.bool (decide (bitv .and .i64 x23 536870912 ≠ 0))) fun w235 =>
        J127 () w235)
        (J127 () w202))
    (fun _ w236 => icmp_ParseND_J127 R g1 g2 g3 w236)))
    (fun ch1 w202 => R (.panicked ch1) w202)))
set_option maxRecDepth 100000 in
def icmp_ParseND_VC (m_V : Int) (m_Type : Int) (m_Code : Int) (m_Rest : Int) (m_DataA : Option Addr) (m_Datan : Nat) (m_Datac : Nat) (w : World) (R : Ending → World → Prop) : Prop :=
  NewVC w (.cells #[.int .i64 m_V, .int .i64 m_Type, .int .i64 m_Code, .int .i64 m_Rest, .slice m_DataA m_Datan m_Datac] 24) fun g1 w1 =>
  NewVC w1 (.cells #[.int .i64 0, .int .i64 0, .int .u8 0, .int .u8 0, .int .u8 0, .int .u8 0, .int .u8 0, .int .u8 0, .int .u8 0, .int .u8 0, .int .u8 0, .int .u8 0, .int .u8 0, .int .u8 0, .int .u8 0, .int .u8 0, .int .u8 0, .int .u8 0, .bool false, .bool false, .bool false, .bool false, .int .u8 0, .int .u8 0, .int .u8 0, .int .u8 0, .int .u8 0, .int .u8 0] 35) fun g2 w2 =>
  ∃ x0 : Int, ∃ x1 : Int, ∃ x2 : Int, ∃ x3 : Int, ∃ (x4A : Option Addr) (x4n x4c : Nat), CellsAt w2 ⟨g1, 0, none⟩ 0 [.int .i64 x0, .int .i64 x1, .int .i64 x2, .int .i64 x3, .slice x4A x4n x4c] ∧
  Calls Tryd.prog 24 #[.agg #[.int .i64 x0, .int .i64 x1, .int .i64 x2, .int .i64 x3, .slice x4A x4n x4c]] w2 (onRet (fun r_ w3 => ∃ x : Int, r_ = .int .i64 x ∧
  Br (decide (x ≠ 0))
    (SetVC w3 ⟨g2, 0, none⟩ (.int .i64 0) fun w4 =>
    SetVC w4 ⟨g2, 1, none⟩ (.int .i64 0) fun w5 =>
    SetVC w5 ⟨g2, 2, none⟩ (.int .u8 0) fun w6 =>
    SetVC w6 ⟨g2, 3, none⟩ (.int .u8 0) fun w7 =>
    SetVC w7 ⟨g2, 4, none⟩ (.int .u8 0) fun w8 =>
    SetVC w8 ⟨g2, 5, none⟩ (.int .u8 0) fun w9 =>
    SetVC w9 ⟨g2, 6, none⟩ (.int .u8 0) fun w10 =>
    SetVC w10 ⟨g2, 7, none⟩ (.int .u8 0) fun w11 =>
    SetVC w11 ⟨g2, 8, none⟩ (.int .u8 0) fun w12 =>
    SetVC w12 ⟨g2, 9, none⟩ (.int .u8 0) fun w13 =>
    SetVC w13 ⟨g2, 10, none⟩ (.int .u8 0) fun w14 =>
    SetVC w14 ⟨g2, 11, none⟩ (.int .u8 0) fun w15 =>
    SetVC w15 ⟨g2, 12, none⟩ (.int .u8 0) fun w16 =>
    SetVC w16 ⟨g2, 13, none⟩ (.int .u8 0) fun w17 =>
    SetVC w17 ⟨g2, 14, none⟩ (.int .u8 0) fun w18 =>
    SetVC w18 ⟨g2, 15, none⟩ (.int .u8 0) fun w19 =>
    SetVC w19 ⟨g2, 16, none⟩ (.int .u8 0) fun w20 =>
    SetVC w20 ⟨g2, 17, none⟩ (.int .u8 0) fun w21 =>
    SetVC w21 ⟨g2, 18, none⟩ (.bool false) fun w22 =>
    SetVC w22 ⟨g2, 19, none⟩ (.bool false) fun w23 =>
    SetVC w23 ⟨g2, 20, none⟩ (.bool false) fun w24 =>
    SetVC w24 ⟨g2, 21, none⟩ (.bool false) fun w25 =>
    SetVC w25 ⟨g2, 22, none⟩ (.int .u8 0) fun w26 =>
    SetVC w26 ⟨g2, 23, none⟩ (.int .u8 0) fun w27 =>
    SetVC w27 ⟨g2, 24, none⟩ (.int .u8 0) fun w28 =>
    SetVC w28 ⟨g2, 25, none⟩ (.int .u8 0) fun w29 =>
    SetVC w29 ⟨g2, 26, none⟩ (.int .u8 0) fun w30 =>
    SetVC w30 ⟨g2, 27, none⟩ (.int .u8 0) fun w31 =>
    ∃ res0 : Int, ∃ res1 : Int, ∃ res2 : Int, ∃ res3 : Int, ∃ res4 : Int, ∃ res5 : Int, ∃ res6 : Int, ∃ res7 : Int, ∃ res8 : Int, ∃ res9 : Int, ∃ res10 : Int, ∃ res11 : Int, ∃ res12 : Int, ∃ res13 : Int, ∃ res14 : Int, ∃ res15 : Int, ∃ res16 : Int, ∃ res17 : Int, ∃ res18 : Bool, ∃ res19 : Bool, ∃ res20 : Bool, ∃ res21 : Bool, ∃ res22 : Int, ∃ res23 : Int, ∃ res24 : Int, ∃ res25 : Int, ∃ res26 : Int, ∃ res27 : Int, CellsAt w31 ⟨g2, 0, none⟩ 0 [.int .i64 res0, .int .i64 res1, .int .u8 res2, .int .u8 res3, .int .u8 res4, .int .u8 res5, .int .u8 res6, .int .u8 res7, .int .u8 res8, .int .u8 res9, .int .u8 res10, .int .u8 res11, .int .u8 res12, .int .u8 res13, .int .u8 res14, .int .u8 res15, .int .u8 res16, .int .u8 res17, .bool res18, .bool res19, .bool res20, .bool res21, .int .u8 res22, .int .u8 res23, .int .u8 res24, .int .u8 res25, .int .u8 res26, .int .u8 res27] ∧
  R (.returned (.tuple #[.agg #[.int .i64 res0, .int .i64 res1, .int .u8 res2, .int .u8 res3, .int .u8 res4, .int .u8 res5, .int .u8 res6, .int .u8 res7, .int .u8 res8, .int .u8 res9, .int .u8 res10, .int .u8 res11, .int .u8 res12, .int .u8 res13, .int .u8 res14, .int .u8 res15, .int .u8 res16, .int .u8 res17, .bool res18, .bool res19, .bool res20, .bool res21, .int .u8 res22, .int .u8 res23, .int .u8 res24, .int .u8 res25, .int .u8 res26, .int .u8 res27], .int .i64 x])) w31)
    (JoinVC (S := Unit) (fun J7 =>
      ∃ x4 : Int, w3.cell? ⟨g1, 0, none⟩ = some (.int .i64 x4) ∧
      Br (decide (x4 ≠ 6))
        (SetVC w3 ⟨g2, 0, none⟩ (.int .i64 0) fun w32 =>
      SetVC w32 ⟨g2, 1, none⟩ (.int .i64 0) fun w33 =>
      SetVC w33 ⟨g2, 2, none⟩ (.int .u8 0) fun w34 =>
      SetVC w34 ⟨g2, 3, none⟩ (.int .u8 0) fun w35 =>
      SetVC w35 ⟨g2, 4, none⟩ (.int .u8 0) fun w36 =>
      SetVC w36 ⟨g2, 5, none⟩ (.int .u8 0) fun w37 =>
      SetVC w37 ⟨g2, 6, none⟩ (.int .u8 0) fun w38 =>
      SetVC w38 ⟨g2, 7, none⟩ (.int .u8 0) fun w39 =>
      SetVC w39 ⟨g2, 8, none⟩ (.int .u8 0) fun w40 =>
      SetVC w40 ⟨g2, 9, none⟩ (.int .u8 0) fun w41 =>
      SetVC w41 ⟨g2, 10, none⟩ (.int .u8 0) fun w42 =>
      SetVC w42 ⟨g2, 11, none⟩ (.int .u8 0) fun w43 =>
      SetVC w43 ⟨g2, 12, none⟩ (.int .u8 0) fun w44 =>
      SetVC w44 ⟨g2, 13, none⟩ (.int .u8 0) fun w45 =>
      SetVC w45 ⟨g2, 14, none⟩ (.int .u8 0) fun w46 =>
      SetVC w46 ⟨g2, 15, none⟩ (.int .u8 0) fun w47 =>
      SetVC w47 ⟨g2, 16, none⟩ (.int .u8 0) fun w48 =>
      SetVC w48 ⟨g2, 17, none⟩ (.int .u8 0) fun w49 =>
      SetVC w49 ⟨g2, 18, none⟩ (.bool false) fun w50 =>
      SetVC w50 ⟨g2, 19, none⟩ (.bool false) fun w51 =>
      SetVC w51 ⟨g2, 20, none⟩ (.bool false) fun w52 =>
      SetVC w52 ⟨g2, 21, none⟩ (.bool false) fun w53 =>
      SetVC w53 ⟨g2, 22, none⟩ (.int .u8 0) fun w54 =>
      SetVC w54 ⟨g2, 23, none⟩ (.int .u8 0) fun w55 =>
      SetVC w55 ⟨g2, 24, none⟩ (.int .u8 0) fun w56 =>
      SetVC w56 ⟨g2, 25, none⟩ (.int .u8 0) fun w57 =>
      SetVC w57 ⟨g2, 26, none⟩ (.int .u8 0) fun w58 =>
      SetVC w58 ⟨g2, 27, none⟩ (.int .u8 0) fun w59 =>
      ∃ res01 : Int, ∃ res110 : Int, ∃ res28 : Int, ∃ res31 : Int, ∃ res41 : Int, ∃ res51 : Int, ∃ res61 : Int, ∃ res71 : Int, ∃ res81 : Int, ∃ res91 : Int, ∃ res101 : Int, ∃ res111 : Int, ∃ res121 : Int, ∃ res131 : Int, ∃ res141 : Int, ∃ res151 : Int, ∃ res161 : Int, ∃ res171 : Int, ∃ res181 : Bool, ∃ res191 : Bool, ∃ res201 : Bool, ∃ res211 : Bool, ∃ res221 : Int, ∃ res231 : Int, ∃ res241 : Int, ∃ res251 : Int, ∃ res261 : Int, ∃ res271 : Int, CellsAt w59 ⟨g2, 0, none⟩ 0 [.int .i64 res01, .int .i64 res110, .int .u8 res28, .int .u8 res31, .int .u8 res41, .int .u8 res51, .int .u8 res61, .int .u8 res71, .int .u8 res81, .int .u8 res91, .int .u8 res101, .int .u8 res111, .int .u8 res121, .int .u8 res131, .int .u8 res141, .int .u8 res151, .int .u8 res161, .int .u8 res171, .bool res181, .bool res191, .bool res201, .bool res211, .int .u8 res221, .int .u8 res231, .int .u8 res241, .int .u8 res251, .int .u8 res261, .int .u8 res271] ∧
  R (.returned (.tuple #[.agg #[.int .i64 res01, .int .i64 res110, .int .u8 res28, .int .u8 res31, .int .u8 res41, .int .u8 res51, .int .u8 res61, .int .u8 res71, .int .u8 res81, .int .u8 res91, .int .u8 res101, .int .u8 res111, .int .u8 res121, .int .u8 res131, .int .u8 res141, .int .u8 res151, .int .u8 res161, .int .u8 res171, .bool res181, .bool res191, .bool res201, .bool res211, .int .u8 res221, .int .u8 res231, .int .u8 res241, .int .u8 res251, .int .u8 res261, .int .u8 res271], .int .i64 83])) w59)
        (∃ x5 : Int, w3.cell? ⟨g1, 1, none⟩ = some (.int .i64 x5) ∧
        Br (decide (x5 ≠ 135))
          (∃ x6 : Int, w3.cell? ⟨g1, 1, none⟩ = some (.int .i64 x6) ∧
          Br (decide (x6 ≠ 136))
            (SetVC w3 ⟨g2, 0, none⟩ (.int .i64 0) fun w60 =>
      SetVC w60 ⟨g2, 1, none⟩ (.int .i64 0) fun w61 =>
      SetVC w61 ⟨g2, 2, none⟩ (.int .u8 0) fun w62 =>
      SetVC w62 ⟨g2, 3, none⟩ (.int .u8 0) fun w63 =>
      SetVC w63 ⟨g2, 4, none⟩ (.int .u8 0) fun w64 =>
      SetVC w64 ⟨g2, 5, none⟩ (.int .u8 0) fun w65 =>
      SetVC w65 ⟨g2, 6, none⟩ (.int .u8 0) fun w66 =>
      SetVC w66 ⟨g2, 7, none⟩ (.int .u8 0) fun w67 =>
      SetVC w67 ⟨g2, 8, none⟩ (.int .u8 0) fun w68 =>
      SetVC w68 ⟨g2, 9, none⟩ (.int .u8 0) fun w69 =>
      SetVC w69 ⟨g2, 10, none⟩ (.int .u8 0) fun w70 =>
      SetVC w70 ⟨g2, 11, none⟩ (.int .u8 0) fun w71 =>
      SetVC w71 ⟨g2, 12, none⟩ (.int .u8 0) fun w72 =>
      SetVC w72 ⟨g2, 13, none⟩ (.int .u8 0) fun w73 =>
      SetVC w73 ⟨g2, 14, none⟩ (.int .u8 0) fun w74 =>
      SetVC w74 ⟨g2, 15, none⟩ (.int .u8 0) fun w75 =>
      SetVC w75 ⟨g2, 16, none⟩ (.int .u8 0) fun w76 =>
      SetVC w76 ⟨g2, 17, none⟩ (.int .u8 0) fun w77 =>
      SetVC w77 ⟨g2, 18, none⟩ (.bool false) fun w78 =>
      SetVC w78 ⟨g2, 19, none⟩ (.bool false) fun w79 =>
      SetVC w79 ⟨g2, 20, none⟩ (.bool false) fun w80 =>
      SetVC w80 ⟨g2, 21, none⟩ (.bool false) fun w81 =>
      SetVC w81 ⟨g2, 22, none⟩ (.int .u8 0) fun w82 =>
      SetVC w82 ⟨g2, 23, none⟩ (.int .u8 0) fun w83 =>
      SetVC w83 ⟨g2, 24, none⟩ (.int .u8 0) fun w84 =>
      SetVC w84 ⟨g2, 25, none⟩ (.int .u8 0) fun w85 =>
      SetVC w85 ⟨g2, 26, none⟩ (.int .u8 0) fun w86 =>
      SetVC w86 ⟨g2, 27, none⟩ (.int .u8 0) fun w87 =>
      ∃ res02 : Int, ∃ res112 : Int, ∃ res29 : Int, ∃ res32 : Int, ∃ res42 : Int, ∃ res52 : Int, ∃ res62 : Int, ∃ res72 : Int, ∃ res82 : Int, ∃ res92 : Int, ∃ res102 : Int, ∃ res113 : Int, ∃ res122 : Int, ∃ res132 : Int, ∃ res142 : Int, ∃ res152 : Int, ∃ res162 : Int, ∃ res172 : Int, ∃ res182 : Bool, ∃ res192 : Bool, ∃ res202 : Bool, ∃ res212 : Bool, ∃ res222 : Int, ∃ res232 : Int, ∃ res242 : Int, ∃ res252 : Int, ∃ res262 : Int, ∃ res272 : Int, CellsAt w87 ⟨g2, 0, none⟩ 0 [.int .i64 res02, .int .i64 res112, .int .u8 res29, .int .u8 res32, .int .u8 res42, .int .u8 res52, .int .u8 res62, .int .u8 res72, .int .u8 res82, .int .u8 res92, .int .u8 res102, .int .u8 res113, .int .u8 res122, .int .u8 res132, .int .u8 res142, .int .u8 res152, .int .u8 res162, .int .u8 res172, .bool res182, .bool res192, .bool res202, .bool res212, .int .u8 res222, .int .u8 res232, .int .u8 res242, .int .u8 res252, .int .u8 res262, .int .u8 res272] ∧
  R (.returned (.tuple #[.agg #[.int .i64 res02, .int .i64 res112, .int .u8 res29, .int .u8 res32, .int .u8 res42, .int .u8 res52, .int .u8 res62, .int .u8 res72, .int .u8 res82, .int .u8 res92, .int .u8 res102, .int .u8 res113, .int .u8 res122, .int .u8 res132, .int .u8 res142, .int .u8 res152, .int .u8 res162, .int .u8 res172, .bool res182, .bool res192, .bool res202, .bool res212, .int .u8 res222, .int .u8 res232, .int .u8 res242, .int .u8 res252, .int .u8 res262, .int .u8 res272], .int .i64 83])) w87)
            (∃ x7 : Int, w3.cell? ⟨g1, 2, none⟩ = some (.int .i64 x7) ∧
            Br (decide (x7 ≠ 0))
        (SetVC w3 ⟨g2, 0, none⟩ (.int .i64 0) fun w88 =>
        SetVC w88 ⟨g2, 1, none⟩ (.int .i64 0) fun w89 =>
        SetVC w89 ⟨g2, 2, none⟩ (.int .u8 0) fun w90 =>
        SetVC w90 ⟨g2, 3, none⟩ (.int .u8 0) fun w91 =>
        SetVC w91 ⟨g2, 4, none⟩ (.int .u8 0) fun w92 =>
        SetVC w92 ⟨g2, 5, none⟩ (.int .u8 0) fun w93 =>
        SetVC w93 ⟨g2, 6, none⟩ (.int .u8 0) fun w94 =>
        SetVC w94 ⟨g2, 7, none⟩ (.int .u8 0) fun w95 =>
        SetVC w95 ⟨g2, 8, none⟩ (.int .u8 0) fun w96 =>
        SetVC w96 ⟨g2, 9, none⟩ (.int .u8 0) fun w97 =>
        SetVC w97 ⟨g2, 10, none⟩ (.int .u8 0) fun w98 =>
        SetVC w98 ⟨g2, 11, none⟩ (.int .u8 0) fun w99 =>
        SetVC w99 ⟨g2, 12, none⟩ (.int .u8 0) fun w100 =>
        SetVC w100 ⟨g2, 13, none⟩ (.int .u8 0) fun w101 =>
        SetVC w101 ⟨g2, 14, none⟩ (.int .u8 0) fun w102 =>
        SetVC w102 ⟨g2, 15, none⟩ (.int .u8 0) fun w103 =>
        SetVC w103 ⟨g2, 16, none⟩ (.int .u8 0) fun w104 =>
        SetVC w104 ⟨g2, 17, none⟩ (.int .u8 0) fun w105 =>
        SetVC w105 ⟨g2, 18, none⟩ (.bool false) fun w106 =>
        SetVC w106 ⟨g2, 19, none⟩ (.bool false) fun w107 =>
        SetVC w107 ⟨g2, 20, none⟩ (.bool false) fun w108 =>
        SetVC w108 ⟨g2, 21, none⟩ (.bool false) fun w109 =>
        SetVC w109 ⟨g2, 22, none⟩ (.int .u8 0) fun w110 =>
        SetVC w110 ⟨g2, 23, none⟩ (.int .u8 0) fun w111 =>
        SetVC w111 ⟨g2, 24, none⟩ (.int .u8 0) fun w112 =>
        SetVC w112 ⟨g2, 25, none⟩ (.int .u8 0) fun w113 =>
        SetVC w113 ⟨g2, 26, none⟩ (.int .u8 0) fun w114 =>
        SetVC w114 ⟨g2, 27, none⟩ (.int .u8 0) fun w115 =>
        ∃ res03 : Int, ∃ res114 : Int, ∃ res210 : Int, ∃ res33 : Int, ∃ res43 : Int, ∃ res53 : Int, ∃ res63 : Int, ∃ res73 : Int, ∃ res83 : Int, ∃ res93 : Int, ∃ res103 : Int, ∃ res115 : Int, ∃ res123 : Int, ∃ res133 : Int, ∃ res143 : Int, ∃ res153 : Int, ∃ res163 : Int, ∃ res173 : Int, ∃ res183 : Bool, ∃ res193 : Bool, ∃ res203 : Bool, ∃ res213 : Bool, ∃ res223 : Int, ∃ res233 : Int, ∃ res243 : Int, ∃ res253 : Int, ∃ res263 : Int, ∃ res273 : Int, CellsAt w115 ⟨g2, 0, none⟩ 0 [.int .i64 res03, .int .i64 res114, .int .u8 res210, .int .u8 res33, .int .u8 res43, .int .u8 res53, .int .u8 res63, .int .u8 res73, .int .u8 res83, .int .u8 res93, .int .u8 res103, .int .u8 res115, .int .u8 res123, .int .u8 res133, .int .u8 res143, .int .u8 res153, .int .u8 res163, .int .u8 res173, .bool res183, .bool res193, .bool res203, .bool res213, .int .u8 res223, .int .u8 res233, .int .u8 res243, .int .u8 res253, .int .u8 res263, .int .u8 res273] ∧
  R (.returned (.tuple #[.agg #[.int .i64 res03, .int .i64 res114, .int .u8 res210, .int .u8 res33, .int .u8 res43, .int .u8 res53, .int .u8 res63, .int .u8 res73, .int .u8 res83, .int .u8 res93, .int .u8 res103, .int .u8 res115, .int .u8 res123, .int .u8 res133, .int .u8 res143, .int .u8 res153, .int .u8 res163, .int .u8 res173, .bool res183, .bool res193, .bool res203, .bool res213, .int .u8 res223, .int .u8 res233, .int .u8 res243, .int .u8 res253, .int .u8 res263, .int .u8 res273], .int .i64 83])) w115)
        (J7 () w3)))
          (∃ x8 : Int, w3.cell? ⟨g1, 2, none⟩ = some (.int .i64 x8) ∧
          Br (decide (x8 ≠ 0))
        (SetVC w3 ⟨g2, 0, none⟩ (.int .i64 0) fun w116 =>
        SetVC w116 ⟨g2, 1, none⟩ (.int .i64 0) fun w117 =>
        SetVC w117 ⟨g2, 2, none⟩ (.int .u8 0) fun w118 =>
        SetVC w118 ⟨g2, 3, none⟩ (.int .u8 0) fun w119 =>
        SetVC w119 ⟨g2, 4, none⟩ (.int .u8 0) fun w120 =>
        SetVC w120 ⟨g2, 5, none⟩ (.int .u8 0) fun w121 =>
        SetVC w121 ⟨g2, 6, none⟩ (.int .u8 0) fun w122 =>
        SetVC w122 ⟨g2, 7, none⟩ (.int .u8 0) fun w123 =>
        SetVC w123 ⟨g2, 8, none⟩ (.int .u8 0) fun w124 =>
        SetVC w124 ⟨g2, 9, none⟩ (.int .u8 0) fun w125 =>
        SetVC w125 ⟨g2, 10, none⟩ (.int .u8 0) fun w126 =>
        SetVC w126 ⟨g2, 11, none⟩ (.int .u8 0) fun w127 =>
        SetVC w127 ⟨g2, 12, none⟩ (.int .u8 0) fun w128 =>
        SetVC w128 ⟨g2, 13, none⟩ (.int .u8 0) fun w129 =>
        SetVC w129 ⟨g2, 14, none⟩ (.int .u8 0) fun w130 =>
        SetVC w130 ⟨g2, 15, none⟩ (.int .u8 0) fun w131 =>
        SetVC w131 ⟨g2, 16, none⟩ (.int .u8 0) fun w132 =>
        SetVC w132 ⟨g2, 17, none⟩ (.int .u8 0) fun w133 =>
        SetVC w133 ⟨g2, 18, none⟩ (.bool false) fun w134 =>
        SetVC w134 ⟨g2, 19, none⟩ (.bool false) fun w135 =>
        SetVC w135 ⟨g2, 20, none⟩ (.bool false) fun w136 =>
        SetVC w136 ⟨g2, 21, none⟩ (.bool false) fun w137 =>
        SetVC w137 ⟨g2, 22, none⟩ (.int .u8 0) fun w138 =>
        SetVC w138 ⟨g2, 23, none⟩ (.int .u8 0) fun w139 =>
        SetVC w139 ⟨g2, 24, none⟩ (.int .u8 0) fun w140 =>
        SetVC w140 ⟨g2, 25, none⟩ (.int .u8 0) fun w141 =>
        SetVC w141 ⟨g2, 26, none⟩ (.int .u8 0) fun w142 =>
        SetVC w142 ⟨g2, 27, none⟩ (.int .u8 0) fun w143 =>
        ∃ res04 : Int, ∃ res116 : Int, ∃ res214 : Int, ∃ res34 : Int, ∃ res44 : Int, ∃ res54 : Int, ∃ res64 : Int, ∃ res74 : Int, ∃ res84 : Int, ∃ res94 : Int, ∃ res104 : Int, ∃ res117 : Int, ∃ res124 : Int, ∃ res134 : Int, ∃ res144 : Int, ∃ res154 : Int, ∃ res164 : Int, ∃ res174 : Int, ∃ res184 : Bool, ∃ res194 : Bool, ∃ res204 : Bool, ∃ res215 : Bool, ∃ res224 : Int, ∃ res234 : Int, ∃ res244 : Int, ∃ res254 : Int, ∃ res264 : Int, ∃ res274 : Int, CellsAt w143 ⟨g2, 0, none⟩ 0 [.int .i64 res04, .int .i64 res116, .int .u8 res214, .int .u8 res34, .int .u8 res44, .int .u8 res54, .int .u8 res64, .int .u8 res74, .int .u8 res84, .int .u8 res94, .int .u8 res104, .int .u8 res117, .int .u8 res124, .int .u8 res134, .int .u8 res144, .int .u8 res154, .int .u8 res164, .int .u8 res174, .bool res184, .bool res194, .bool res204, .bool res215, .int .u8 res224, .int .u8 res234, .int .u8 res244, .int .u8 res254, .int .u8 res264, .int .u8 res274] ∧
  R (.returned (.tuple #[.agg #[.int .i64 res04, .int .i64 res116, .int .u8 res214, .int .u8 res34, .int .u8 res44, .int .u8 res54, .int .u8 res64, .int .u8 res74, .int .u8 res84, .int .u8 res94, .int .u8 res104, .int .u8 res117, .int .u8 res124, .int .u8 res134, .int .u8 res144, .int .u8 res154, .int .u8 res164, .int .u8 res174, .bool res184, .bool res194, .bool res204, .bool res215, .int .u8 res224, .int .u8 res234, .int .u8 res244, .int .u8 res254, .int .u8 res264, .int .u8 res274], .int .i64 83])) w143)
        (J7 () w3))))
    (fun _ w144 => icmp_ParseND_J7 R g1 g2 w144)))
    (fun ch w3 => R (.panicked ch) w3))
def icmp_ParseND_H : Hints := [(7, []), (127, []), (4092, [])]
set_option maxRecDepth 100000 in
theorem icmp_ParseND_of (m_V : Int) (m_Type : Int) (m_Code : Int) (m_Rest : Int) (m_DataA : Option Addr) (m_Datan : Nat) (m_Datac : Nat) (w : World) (R : Ending → World → Prop) (h : icmp_ParseND_VC m_V m_Type m_Code m_Rest m_DataA m_Datan m_Datac w R) :
    Calls Tryd.prog 16 #[.agg #[.int .i64 m_V, .int .i64 m_Type, .int .i64 m_Code, .int .i64 m_Rest, .slice m_DataA m_Datan m_Datac]] w R :=
  calls_of_wpc callOk mixedOk (H := icmp_ParseND_H) (args := [.agg #[.int .i64 m_V, .int .i64 m_Type, .int .i64 m_Code, .int .i64 m_Rest, .slice m_DataA m_Datan m_Datac]]) (fn := Tryd.f16) (c := bodyOf Tryd.f16) Tryd.func16 rfl (Nat.le_of_ble_eq_true rfl)
    (Eq.mp (by kernel_rfl : icmp_ParseND_VC m_V m_Type m_Code m_Rest m_DataA m_Datan m_Datac w R = wpc Tryd.prog callF Tryd.f16.ntmps icmp_ParseND_H 1 (bodyOf Tryd.f16) (argEnv 0 [.agg #[.int .i64 m_V, .int .i64 m_Type, .int .i64 m_Code, .int .i64 m_Rest, .slice m_DataA m_Datan m_Datac]]) [] w (finish Tryd.prog callF Tryd.f16.results.toList R)) h)

set_option maxRecDepth 100000 in
def weirref8_ParseND_L134187702 (g4 : Nat) (bA : Option Addr) (bn : Nat) (bc : Nat) (K16380 : ((Option Addr × Nat × Nat) → World → Prop)) (i1 : Int) (w326 : World) (K134187702 : (Int → World → Prop)) : Prop :=
  Br (decide (i1 < 6))
    (IdxVC bA bn 1 (IntKind.i64.wrap (2 + i1)) fun a6 =>
  ∃ x150 : Int, w326.cell? a6 = some (.int .u8 x150) ∧
  IdxVC (some ⟨g4, 22, none⟩) 6 1 i1 fun a7 =>
  SetVC w326 a7 (.int .u8 x150) fun w327 =>
  K134187702 (IntKind.i64.wrap (i1 + 1)) w327)
    (IdxVC bA bn 1 1 fun a8 =>
  ∃ x160 : Int, w326.cell? a8 = some (.int .u8 x160) ∧
  SliceVC bA bn bc 1 (some (IntKind.i64.wrap (IntKind.i64.wrap x160 * 8))) none none fun sA sn sc =>
  K16380 (sA, sn, sc) w326)
set_option maxRecDepth 100000 in
def weirref8_ParseND_L16380 (R : Ending → World → Prop) (g2 : Nat) (g3 : Nat) (g4 : Nat) (bA : Option Addr) (bn : Nat) (bc : Nat) (w211 : World) (K16380 : ((Option Addr × Nat × Nat) → World → Prop)) : Prop :=
  Br (decide ((0 : Int) < (bn : Int)))
    (Br (decide ((bn : Int) = 1))
    (∃ x08 : Int, ∃ x127 : Int, ∃ x220 : Int, ∃ x312 : Int, ∃ x410 : Int, ∃ x57 : Int, ∃ x67 : Int, ∃ x77 : Int, ∃ x87 : Int, ∃ x97 : Int, ∃ x107 : Int, ∃ x1112 : Int, ∃ x128 : Int, ∃ x137 : Int, ∃ x147 : Int, ∃ x157 : Int, ∃ x167 : Int, ∃ x176 : Int, ∃ x186 : Bool, ∃ x196 : Bool, ∃ x206 : Bool, ∃ x2111 : Bool, ∃ x226 : Int, ∃ x236 : Int, ∃ x246 : Int, ∃ x256 : Int, ∃ x266 : Int, ∃ x276 : Int, CellsAt w211 ⟨g3, 0, none⟩ 0 [.int .i64 x08, .int .i64 x127, .int .u8 x220, .int .u8 x312, .int .u8 x410, .int .u8 x57, .int .u8 x67, .int .u8 x77, .int .u8 x87, .int .u8 x97, .int .u8 x107, .int .u8 x1112, .int .u8 x128, .int .u8 x137, .int .u8 x147, .int .u8 x157, .int .u8 x167, .int .u8 x176, .bool x186, .bool x196, .bool x206, .bool x2111, .int .u8 x226, .int .u8 x236, .int .u8 x246, .int .u8 x256, .int .u8 x266, .int .u8 x276] ∧
  SetVC w211 ⟨g2, 0, none⟩ (.int .i64 x08) fun w212 =>
  SetVC w212 ⟨g2, 1, none⟩ (.int .i64 x127) fun w213 =>
  SetVC w213 ⟨g2, 2, none⟩ (.int .u8 x220) fun w214 =>
  SetVC w214 ⟨g2, 3, none⟩ (.int .u8 x312) fun w215 =>
  SetVC w215 ⟨g2, 4, none⟩ (.int .u8 x410) fun w216 =>
  SetVC w216 ⟨g2, 5, none⟩ (.int .u8 x57) fun w217 =>
  SetVC w217 ⟨g2, 6, none⟩ (.int .u8 x67) fun w218 =>
  SetVC w218 ⟨g2, 7, none⟩ (.int .u8 x77) fun w219 =>
  SetVC w219 ⟨g2, 8, none⟩ (.int .u8 x87) fun w220 =>
  SetVC w220 ⟨g2, 9, none⟩ (.int .u8 x97) fun w221 =>
  SetVC w221 ⟨g2, 10, none⟩ (.int .u8 x107) fun w222 =>
  SetVC w222 ⟨g2, 11, none⟩ (.int .u8 x1112) fun w223 =>
  SetVC w223 ⟨g2, 12, none⟩ (.int .u8 x128) fun w224 =>
  SetVC w224 ⟨g2, 13, none⟩ (.int .u8 x137) fun w225 =>
  SetVC w225 ⟨g2, 14, none⟩ (.int .u8 x147) fun w226 =>
  SetVC w226 ⟨g2, 15, none⟩ (.int .u8 x157) fun w227 =>
  SetVC w227 ⟨g2, 16, none⟩ (.int .u8 x167) fun w228 =>
  SetVC w228 ⟨g2, 17, none⟩ (.int .u8 x176) fun w229 =>
  SetVC w229 ⟨g2, 18, none⟩ (.bool x186) fun w230 =>
  SetVC w230 ⟨g2, 19, none⟩ (.bool x196) fun w231 =>
  SetVC w231 ⟨g2, 20, none⟩ (.bool x206) fun w232 =>
  SetVC w232 ⟨g2, 21, none⟩ (.bool x2111) fun w233 =>
  SetVC w233 ⟨g2, 22, none⟩ (.int .u8 x226) fun w234 =>
  SetVC w234 ⟨g2, 23, none⟩ (.int .u8 x236) fun w235 =>
  SetVC w235 ⟨g2, 24, none⟩ (.int .u8 x246) fun w236 =>
  SetVC w236 ⟨g2, 25, none⟩ (.int .u8 x256) fun w237 =>
  SetVC w237 ⟨g2, 26, none⟩ (.int .u8 x266) fun w238 =>
  SetVC w238 ⟨g2, 27, none⟩ (.int .u8 x276) fun w239 =>
  ∃ res06 : Int, ∃ res120 : Int, ∃ res218 : Int, ∃ res36 : Int, ∃ res46 : Int, ∃ res56 : Int, ∃ res66 : Int, ∃ res76 : Int, ∃ res86 : Int, ∃ res96 : Int, ∃ res106 : Int, ∃ res1110 : Int, ∃ res126 : Int, ∃ res136 : Int, ∃ res146 : Int, ∃ res156 : Int, ∃ res166 : Int, ∃ res176 : Int, ∃ res186 : Bool, ∃ res196 : Bool, ∃ res206 : Bool, ∃ res219 : Bool, ∃ res226 : Int, ∃ res236 : Int, ∃ res246 : Int, ∃ res256 : Int, ∃ res266 : Int, ∃ res276 : Int, CellsAt w239 ⟨g2, 0, none⟩ 0 [.int .i64 res06, .int .i64 res120, .int .u8 res218, .int .u8 res36, .int .u8 res46, .int .u8 res56, .int .u8 res66, .int .u8 res76, .int .u8 res86, .int .u8 res96, .int .u8 res106, .int .u8 res1110, .int .u8 res126, .int .u8 res136, .int .u8 res146, .int .u8 res156, .int .u8 res166, .int .u8 res176, .bool res186, .bool res196, .bool res206, .bool res219, .int .u8 res226, .int .u8 res236, .int .u8 res246, .int .u8 res256, .int .u8 res266, .int .u8 res276] ∧
  R (.returned (.tuple #[.agg #[.int .i64 res06, .int .i64 res120, .int .u8 res218, .int .u8 res36, .int .u8 res46, .int .u8 res56, .int .u8 res66, .int .u8 res76, .int .u8 res86, .int .u8 res96, .int .u8 res106, .int .u8 res1110, .int .u8 res126, .int .u8 res136, .int .u8 res146, .int .u8 res156, .int .u8 res166, .int .u8 res176, .bool res186, .bool res196, .bool res206, .bool res219, .int .u8 res226, .int .u8 res236, .int .u8 res246, .int .u8 res256, .int .u8 res266, .int .u8 res276], .int .i64 85])) w239)
    (IdxVC bA bn 1 1 fun a2 =>
    ∃ x58 : Int, w211.cell? a2 = some (.int .u8 x58) ∧
    Br (decide (x58 = 0))
      (∃ x09 : Int, ∃ x129 : Int, ∃ x227 : Int, ∃ x313 : Int, ∃ x411 : Int, ∃ x59 : Int, ∃ x68 : Int, ∃ x78 : Int, ∃ x88 : Int, ∃ x98 : Int, ∃ x108 : Int, ∃ x1113 : Int, ∃ x1210 : Int, ∃ x138 : Int, ∃ x148 : Int, ∃ x158 : Int, ∃ x168 : Int, ∃ x177 : Int, ∃ x187 : Bool, ∃ x197 : Bool, ∃ x207 : Bool, ∃ x2112 : Bool, ∃ x228 : Int, ∃ x237 : Int, ∃ x247 : Int, ∃ x257 : Int, ∃ x267 : Int, ∃ x277 : Int, CellsAt w211 ⟨g3, 0, none⟩ 0 [.int .i64 x09, .int .i64 x129, .int .u8 x227, .int .u8 x313, .int .u8 x411, .int .u8 x59, .int .u8 x68, .int .u8 x78, .int .u8 x88, .int .u8 x98, .int .u8 x108, .int .u8 x1113, .int .u8 x1210, .int .u8 x138, .int .u8 x148, .int .u8 x158, .int .u8 x168, .int .u8 x177, .bool x187, .bool x197, .bool x207, .bool x2112, .int .u8 x228, .int .u8 x237, .int .u8 x247, .int .u8 x257, .int .u8 x267, .int .u8 x277] ∧
  SetVC w211 ⟨g2, 0, none⟩ (.int .i64 x09) fun w240 =>
  SetVC w240 ⟨g2, 1, none⟩ (.int .i64 x129) fun w241 =>
  SetVC w241 ⟨g2, 2, none⟩ (.int .u8 x227) fun w242 =>
  SetVC w242 ⟨g2, 3, none⟩ (.int .u8 x313) fun w243 =>
  SetVC w243 ⟨g2, 4, none⟩ (.int .u8 x411) fun w244 =>
  SetVC w244 ⟨g2, 5, none⟩ (.int .u8 x59) fun w245 =>
  SetVC w245 ⟨g2, 6, none⟩ (.int .u8 x68) fun w246 =>
  SetVC w246 ⟨g2, 7, none⟩ (.int .u8 x78) fun w247 =>
  SetVC w247 ⟨g2, 8, none⟩ (.int .u8 x88) fun w248 =>
  SetVC w248 ⟨g2, 9, none⟩ (.int .u8 x98) fun w249 =>
  SetVC w249 ⟨g2, 10, none⟩ (.int .u8 x108) fun w250 =>
  SetVC w250 ⟨g2, 11, none⟩ (.int .u8 x1113) fun w251 =>
  SetVC w251 ⟨g2, 12, none⟩ (.int .u8 x1210) fun w252 =>
  SetVC w252 ⟨g2, 13, none⟩ (.int .u8 x138) fun w253 =>
  SetVC w253 ⟨g2, 14, none⟩ (.int .u8 x148) fun w254 =>
  SetVC w254 ⟨g2, 15, none⟩ (.int .u8 x158) fun w255 =>
  SetVC w255 ⟨g2, 16, none⟩ (.int .u8 x168) fun w256 =>
  SetVC w256 ⟨g2, 17, none⟩ (.int .u8 x177) fun w257 =>
  SetVC w257 ⟨g2, 18, none⟩ (.bool x187) fun w258 =>
  SetVC w258 ⟨g2, 19, none⟩ (.bool x197) fun w259 =>
  SetVC w259 ⟨g2, 20, none⟩ (.bool x207) fun w260 =>
  SetVC w260 ⟨g2, 21, none⟩ (.bool x2112) fun w261 =>
  SetVC w261 ⟨g2, 22, none⟩ (.int .u8 x228) fun w262 =>
  SetVC w262 ⟨g2, 23, none⟩ (.int .u8 x237) fun w263 =>
  SetVC w263 ⟨g2, 24, none⟩ (.int .u8 x247) fun w264 =>
  SetVC w264 ⟨g2, 25, none⟩ (.int .u8 x257) fun w265 =>
  SetVC w265 ⟨g2, 26, none⟩ (.int .u8 x267) fun w266 =>
  SetVC w266 ⟨g2, 27, none⟩ (.int .u8 x277) fun w267 =>
  ∃ res07 : Int, ∃ res127 : Int, ∃ res220 : Int, ∃ res37 : Int, ∃ res47 : Int, ∃ res57 : Int, ∃ res67 : Int, ∃ res77 : Int, ∃ res87 : Int, ∃ res97 : Int, ∃ res107 : Int, ∃ res1111 : Int, ∃ res128 : Int, ∃ res137 : Int, ∃ res147 : Int, ∃ res157 : Int, ∃ res167 : Int, ∃ res177 : Int, ∃ res187 : Bool, ∃ res197 : Bool, ∃ res207 : Bool, ∃ res2110 : Bool, ∃ res227 : Int, ∃ res237 : Int, ∃ res247 : Int, ∃ res257 : Int, ∃ res267 : Int, ∃ res277 : Int, CellsAt w267 ⟨g2, 0, none⟩ 0 [.int .i64 res07, .int .i64 res127, .int .u8 res220, .int .u8 res37, .int .u8 res47, .int .u8 res57, .int .u8 res67, .int .u8 res77, .int .u8 res87, .int .u8 res97, .int .u8 res107, .int .u8 res1111, .int .u8 res128, .int .u8 res137, .int .u8 res147, .int .u8 res157, .int .u8 res167, .int .u8 res177, .bool res187, .bool res197, .bool res207, .bool res2110, .int .u8 res227, .int .u8 res237, .int .u8 res247, .int .u8 res257, .int .u8 res267, .int .u8 res277] ∧
  R (.returned (.tuple #[.agg #[.int .i64 res07, .int .i64 res127, .int .u8 res220, .int .u8 res37, .int .u8 res47, .int .u8 res57, .int .u8 res67, .int .u8 res77, .int .u8 res87, .int .u8 res97, .int .u8 res107, .int .u8 res1111, .int .u8 res128, .int .u8 res137, .int .u8 res147, .int .u8 res157, .int .u8 res167, .int .u8 res177, .bool res187, .bool res197, .bool res207, .bool res2110, .int .u8 res227, .int .u8 res237, .int .u8 res247, .int .u8 res257, .int .u8 res267, .int .u8 res277], .int .i64 85])) w267)
      (IdxVC bA bn 1 1 fun a3 =>
      ∃ x60 : Int, w211.cell? a3 = some (.int .u8 x60) ∧
      Br (decide ((bn : Int) < IntKind.i64.wrap (IntKind.i64.wrap x60 * 8)))
    (∃ x010 : Int, ∃ x130 : Int, ∃ x229 : Int, ∃ x314 : Int, ∃ x412 : Int, ∃ x510 : Int, ∃ x69 : Int, ∃ x79 : Int, ∃ x89 : Int, ∃ x99 : Int, ∃ x109 : Int, ∃ x1114 : Int, ∃ x1211 : Int, ∃ x139 : Int, ∃ x149 : Int, ∃ x159 : Int, ∃ x169 : Int, ∃ x178 : Int, ∃ x188 : Bool, ∃ x198 : Bool, ∃ x208 : Bool, ∃ x2113 : Bool, ∃ x2210 : Int, ∃ x238 : Int, ∃ x248 : Int, ∃ x258 : Int, ∃ x268 : Int, ∃ x278 : Int, CellsAt w211 ⟨g3, 0, none⟩ 0 [.int .i64 x010, .int .i64 x130, .int .u8 x229, .int .u8 x314, .int .u8 x412, .int .u8 x510, .int .u8 x69, .int .u8 x79, .int .u8 x89, .int .u8 x99, .int .u8 x109, .int .u8 x1114, .int .u8 x1211, .int .u8 x139, .int .u8 x149, .int .u8 x159, .int .u8 x169, .int .u8 x178, .bool x188, .bool x198, .bool x208, .bool x2113, .int .u8 x2210, .int .u8 x238, .int .u8 x248, .int .u8 x258, .int .u8 x268, .int .u8 x278] ∧
    SetVC w211 ⟨g2, 0, none⟩ (.int .i64 x010) fun w268 =>
    SetVC w268 ⟨g2, 1, none⟩ (.int .i64 x130) fun w269 =>
    SetVC w269 ⟨g2, 2, none⟩ (.int .u8 x229) fun w270 =>
    SetVC w270 ⟨g2, 3, none⟩ (.int .u8 x314) fun w271 =>
    SetVC w271 ⟨g2, 4, none⟩ (.int .u8 x412) fun w272 =>
    SetVC w272 ⟨g2, 5, none⟩ (.int .u8 x510) fun w273 =>
    SetVC w273 ⟨g2, 6, none⟩ (.int .u8 x69) fun w274 =>
    SetVC w274 ⟨g2, 7, none⟩ (.int .u8 x79) fun w275 =>
    SetVC w275 ⟨g2, 8, none⟩ (.int .u8 x89) fun w276 =>
    SetVC w276 ⟨g2, 9, none⟩ (.int .u8 x99) fun w277 =>
    SetVC w277 ⟨g2, 10, none⟩ (.int .u8 x109) fun w278 =>
    SetVC w278 ⟨g2, 11, none⟩ (.int .u8 x1114) fun w279 =>
    SetVC w279 ⟨g2, 12, none⟩ (.int .u8 x1211) fun w280 =>
    SetVC w280 ⟨g2, 13, none⟩ (.int .u8 x139) fun w281 =>
    SetVC w281 ⟨g2, 14, none⟩ (.int .u8 x149) fun w282 =>
    SetVC w282 ⟨g2, 15, none⟩ (.int .u8 x159) fun w283 =>
    SetVC w283 ⟨g2, 16, none⟩ (.int .u8 x169) fun w284 =>
    SetVC w284 ⟨g2, 17, none⟩ (.int .u8 x178) fun w285 =>
    SetVC w285 ⟨g2, 18, none⟩ (.bool x188) fun w286 =>
    SetVC w286 ⟨g2, 19, none⟩ (.bool x198) fun w287 =>
    SetVC w287 ⟨g2, 20, none⟩ (.bool x208) fun w288 =>
    SetVC w288 ⟨g2, 21, none⟩ (.bool x2113) fun w289 =>
    SetVC w289 ⟨g2, 22, none⟩ (.int .u8 x2210) fun w290 =>
    SetVC w290 ⟨g2, 23, none⟩ (.int .u8 x238) fun w291 =>
    SetVC w291 ⟨g2, 24, none⟩ (.int .u8 x248) fun w292 =>
    SetVC w292 ⟨g2, 25, none⟩ (.int .u8 x258) fun w293 =>
    SetVC w293 ⟨g2, 26, none⟩ (.int .u8 x268) fun w294 =>
    SetVC w294 ⟨g2, 27, none⟩ (.int .u8 x278) fun w295 =>
    ∃ res08 : Int, ∃ res129 : Int, ∃ res228 : Int, ∃ res38 : Int, ∃ res48 : Int, ∃ res58 : Int, ∃ res68 : Int, ∃ res78 : Int, ∃ res88 : Int, ∃ res98 : Int, ∃ res108 : Int, ∃ res1112 : Int, ∃ res1210 : Int, ∃ res138 : Int, ∃ res148 : Int, ∃ res158 : Int, ∃ res168 : Int, ∃ res178 : Int, ∃ res188 : Bool, ∃ res198 : Bool, ∃ res208 : Bool, ∃ res2111 : Bool, ∃ res229 : Int, ∃ res238 : Int, ∃ res248 : Int, ∃ res258 : Int, ∃ res268 : Int, ∃ res278 : Int, CellsAt w295 ⟨g2, 0, none⟩ 0 [.int .i64 res08, .int .i64 res129, .int .u8 res228, .int .u8 res38, .int .u8 res48, .int .u8 res58, .int .u8 res68, .int .u8 res78, .int .u8 res88, .int .u8 res98, .int .u8 res108, .int .u8 res1112, .int .u8 res1210, .int .u8 res138, .int .u8 res148, .int .u8 res158, .int .u8 res168, .int .u8 res178, .bool res188, .bool res198, .bool res208, .bool res2111, .int .u8 res229, .int .u8 res238, .int .u8 res248, .int .u8 res258, .int .u8 res268, .int .u8 res278] ∧
  R (.returned (.tuple #[.agg #[.int .i64 res08, .int .i64 res129, .int .u8 res228, .int .u8 res38, .int .u8 res48, .int .u8 res58, .int .u8 res68, .int .u8 res78, .int .u8 res88, .int .u8 res98, .int .u8 res108, .int .u8 res1112, .int .u8 res1210, .int .u8 res138, .int .u8 res148, .int .u8 res158, .int .u8 res168, .int .u8 res178, .bool res188, .bool res198, .bool res208, .bool res2111, .int .u8 res229, .int .u8 res238, .int .u8 res248, .int .u8 res258, .int .u8 res268, .int .u8 res278], .int .i64 85])) w295)
    (DrawVC w211 fun S1 w296 =>
  IdxVC bA bn 1 0 fun a4 =>
  ∃ x70 : Int, (∀ w' : World, S1 w' → w'.cell? a4 = some (.int .u8 x70)) ∧
  ∃ x80 : Int, (∀ w' : World, S1 w' → w'.cell? ⟨g4, 0, none⟩ = some (.int .i64 x80)) ∧
  Br (decide (IntKind.i64.wrap x70 = x80))
    (IdxVC bA bn 1 1 fun a5 =>
    ∃ x90 : Int, w296.cell? a5 = some (.int .u8 x90) ∧
    Br (decide (x90 ≠ 1))
      (∃ x011 : Int, ∃ x140 : Int, ∃ x230 : Int, ∃ x315 : Int, ∃ x413 : Int, ∃ x511 : Int, ∃ x610 : Int, ∃ x710 : Int, ∃ x810 : Int, ∃ x910 : Int, ∃ x1010 : Int, ∃ x1115 : Int, ∃ x1212 : Int, ∃ x1310 : Int, ∃ x1410 : Int, ∃ x1510 : Int, ∃ x1610 : Int, ∃ x179 : Int, ∃ x189 : Bool, ∃ x199 : Bool, ∃ x209 : Bool, ∃ x2114 : Bool, ∃ x2211 : Int, ∃ x239 : Int, ∃ x249 : Int, ∃ x259 : Int, ∃ x269 : Int, ∃ x279 : Int, CellsAt w296 ⟨g3, 0, none⟩ 0 [.int .i64 x011, .int .i64 x140, .int .u8 x230, .int .u8 x315, .int .u8 x413, .int .u8 x511, .int .u8 x610, .int .u8 x710, .int .u8 x810, .int .u8 x910, .int .u8 x1010, .int .u8 x1115, .int .u8 x1212, .int .u8 x1310, .int .u8 x1410, .int .u8 x1510, .int .u8 x1610, .int .u8 x179, .bool x189, .bool x199, .bool x209, .bool x2114, .int .u8 x2211, .int .u8 x239, .int .u8 x249, .int .u8 x259, .int .u8 x269, .int .u8 x279] ∧
      SetVC w296 ⟨g2, 0, none⟩ (.int .i64 x011) fun w297 =>
      SetVC w297 ⟨g2, 1, none⟩ (.int .i64 x140) fun w298 =>
      SetVC w298 ⟨g2, 2, none⟩ (.int .u8 x230) fun w299 =>
      SetVC w299 ⟨g2, 3, none⟩ (.int .u8 x315) fun w300 =>
      SetVC w300 ⟨g2, 4, none⟩ (.int .u8 x413) fun w301 =>
      SetVC w301 ⟨g2, 5, none⟩ (.int .u8 x511) fun w302 =>
      SetVC w302 ⟨g2, 6, none⟩ (.int .u8 x610) fun w303 =>
      SetVC w303 ⟨g2, 7, none⟩ (.int .u8 x710) fun w304 =>
      SetVC w304 ⟨g2, 8, none⟩ (.int .u8 x810) fun w305 =>
      SetVC w305 ⟨g2, 9, none⟩ (.int .u8 x910) fun w306 =>
      SetVC w306 ⟨g2, 10, none⟩ (.int .u8 x1010) fun w307 =>
      SetVC w307 ⟨g2, 11, none⟩ (.int .u8 x1115) fun w308 =>
      SetVC w308 ⟨g2, 12, none⟩ (.int .u8 x1212) fun w309 =>
      SetVC w309 ⟨g2, 13, none⟩ (.int .u8 x1310) fun w310 =>
      SetVC w310 ⟨g2, 14, none⟩ (.int .u8 x1410) fun w311 =>
      SetVC w311 ⟨g2, 15, none⟩ (.int .u8 x1510) fun w312 =>
      SetVC w312 ⟨g2, 16, none⟩ (.int .u8 x1610) fun w313 =>
      SetVC w313 ⟨g2, 17, none⟩ (.int .u8 x179) fun w314 =>
      SetVC w314 ⟨g2, 18, none⟩ (.bool x189) fun w315 =>
      SetVC w315 ⟨g2, 19, none⟩ (.bool x199) fun w316 =>
      SetVC w316 ⟨g2, 20, none⟩ (.bool x209) fun w317 =>
      SetVC w317 ⟨g2, 21, none⟩ (.bool x2114) fun w318 =>
      SetVC w318 ⟨g2, 22, none⟩ (.int .u8 x2211) fun w319 =>
      SetVC w319 ⟨g2, 23, none⟩ (.int .u8 x239) fun w320 =>
      SetVC w320 ⟨g2, 24, none⟩ (.int .u8 x249) fun w321 =>
      SetVC w321 ⟨g2, 25, none⟩ (.int .u8 x259) fun w322 =>
      SetVC w322 ⟨g2, 26, none⟩ (.int .u8 x269) fun w323 =>
      SetVC w323 ⟨g2, 27, none⟩ (.int .u8 x279) fun w324 =>
      ∃ res09 : Int, ∃ res130 : Int, ∃ res230 : Int, ∃ res39 : Int, ∃ res49 : Int, ∃ res59 : Int, ∃ res69 : Int, ∃ res79 : Int, ∃ res89 : Int, ∃ res99 : Int, ∃ res109 : Int, ∃ res1113 : Int, ∃ res1211 : Int, ∃ res139 : Int, ∃ res149 : Int, ∃ res159 : Int, ∃ res169 : Int, ∃ res179 : Int, ∃ res189 : Bool, ∃ res199 : Bool, ∃ res209 : Bool, ∃ res2112 : Bool, ∃ res2210 : Int, ∃ res239 : Int, ∃ res249 : Int, ∃ res259 : Int, ∃ res269 : Int, ∃ res279 : Int, CellsAt w324 ⟨g2, 0, none⟩ 0 [.int .i64 res09, .int .i64 res130, .int .u8 res230, .int .u8 res39, .int .u8 res49, .int .u8 res59, .int .u8 res69, .int .u8 res79, .int .u8 res89, .int .u8 res99, .int .u8 res109, .int .u8 res1113, .int .u8 res1211, .int .u8 res139, .int .u8 res149, .int .u8 res159, .int .u8 res169, .int .u8 res179, .bool res189, .bool res199, .bool res209, .bool res2112, .int .u8 res2210, .int .u8 res239, .int .u8 res249, .int .u8 res259, .int .u8 res269, .int .u8 res279] ∧
  R (.returned (.tuple #[.agg #[.int .i64 res09, .int .i64 res130, .int .u8 res230, .int .u8 res39, .int .u8 res49, .int .u8 res59, .int .u8 res69, .int .u8 res79, .int .u8 res89, .int .u8 res99, .int .u8 res109, .int .u8 res1113, .int .u8 res1211, .int .u8 res139, .int .u8 res149, .int .u8 res159, .int .u8 res169, .int .u8 res179, .bool res189, .bool res199, .bool res209, .bool res2112, .int .u8 res2210, .int .u8 res239, .int .u8 res249, .int .u8 res259, .int .u8 res269, .int .u8 res279], .int .i64 85])) w324)
      (∃ x100 : Bool, w296.cell? ⟨g4, 21, none⟩ = some (.bool x100) ∧
    Br (!x100)
      (SetVC w296 ⟨g4, 21, none⟩ (.bool true) fun w325 =>
      LoopVC (S := Int) (fun s_ w326 K134187702 => weirref8_ParseND_L134187702 g4 bA bn bc K16380 s_ w326 K134187702) 0 w325)
      (IdxVC bA bn 1 1 fun a9 =>
  ∃ x170 : Int, w296.cell? a9 = some (.int .u8 x170) ∧
  SliceVC bA bn bc 1 (some (IntKind.i64.wrap (IntKind.i64.wrap x170 * 8))) none none fun sA1 sn1 sc1 =>
  K16380 (sA1, sn1, sc1) w296)))
    (IdxVC bA bn 1 1 fun a10 =>
  ∃ x180 : Int, w296.cell? a10 = some (.int .u8 x180) ∧
  SliceVC bA bn bc 1 (some (IntKind.i64.wrap (IntKind.i64.wrap x180 * 8))) none none fun sA2 sn2 sc2 =>
  K16380 (sA2, sn2, sc2) w296)))))
    (∃ x012 : Int, ∃ x190 : Int, ∃ x240 : Int, ∃ x316 : Int, ∃ x414 : Int, ∃ x512 : Int, ∃ x611 : Int, ∃ x711 : Int, ∃ x811 : Int, ∃ x911 : Int, ∃ x1011 : Int, ∃ x1116 : Int, ∃ x1213 : Int, ∃ x1311 : Int, ∃ x1411 : Int, ∃ x1511 : Int, ∃ x1611 : Int, ∃ x1710 : Int, ∃ x1810 : Bool, ∃ x1910 : Bool, ∃ x2010 : Bool, ∃ x2115 : Bool, ∃ x2212 : Int, ∃ x2310 : Int, ∃ x2410 : Int, ∃ x2510 : Int, ∃ x2610 : Int, ∃ x2710 : Int, CellsAt w211 ⟨g4, 0, none⟩ 0 [.int .i64 x012, .int .i64 x190, .int .u8 x240, .int .u8 x316, .int .u8 x414, .int .u8 x512, .int .u8 x611, .int .u8 x711, .int .u8 x811, .int .u8 x911, .int .u8 x1011, .int .u8 x1116, .int .u8 x1213, .int .u8 x1311, .int .u8 x1411, .int .u8 x1511, .int .u8 x1611, .int .u8 x1710, .bool x1810, .bool x1910, .bool x2010, .bool x2115, .int .u8 x2212, .int .u8 x2310, .int .u8 x2410, .int .u8 x2510, .int .u8 x2610, .int .u8 x2710] ∧
  SetVC w211 ⟨g2, 0, none⟩ (.int .i64 x012) fun w328 =>
  SetVC w328 ⟨g2, 1, none⟩ (.int .i64 x190) fun w329 =>
  SetVC w329 ⟨g2, 2, none⟩ (.int .u8 x240) fun w330 =>
  SetVC w330 ⟨g2, 3, none⟩ (.int .u8 x316) fun w331 =>
  SetVC w331 ⟨g2, 4, none⟩ (.int .u8 x414) fun w332 =>
  SetVC w332 ⟨g2, 5, none⟩ (.int .u8 x512) fun w333 =>
  SetVC w333 ⟨g2, 6, none⟩ (.int .u8 x611) fun w334 =>
  SetVC w334 ⟨g2, 7, none⟩ (.int .u8 x711) fun w335 =>
  SetVC w335 ⟨g2, 8, none⟩ (.int .u8 x811) fun w336 =>
  SetVC w336 ⟨g2, 9, none⟩ (.int .u8 x911) fun w337 =>
  SetVC w337 ⟨g2, 10, none⟩ (.int .u8 x1011) fun w338 =>
  SetVC w338 ⟨g2, 11, none⟩ (.int .u8 x1116) fun w339 =>
  SetVC w339 ⟨g2, 12, none⟩ (.int .u8 x1213) fun w340 =>
  SetVC w340 ⟨g2, 13, none⟩ (.int .u8 x1311) fun w341 =>
  SetVC w341 ⟨g2, 14, none⟩ (.int .u8 x1411) fun w342 =>
  SetVC w342 ⟨g2, 15, none⟩ (.int .u8 x1511) fun w343 =>
  SetVC w343 ⟨g2, 16, none⟩ (.int .u8 x1611) fun w344 =>
  SetVC w344 ⟨g2, 17, none⟩ (.int .u8 x1710) fun w345 =>
  SetVC w345 ⟨g2, 18, none⟩ (.bool x1810) fun w346 =>
  SetVC w346 ⟨g2, 19, none⟩ (.bool x1910) fun w347 =>
  SetVC w347 ⟨g2, 20, none⟩ (.bool x2010) fun w348 =>
  SetVC w348 ⟨g2, 21, none⟩ (.bool x2115) fun w349 =>
  SetVC w349 ⟨g2, 22, none⟩ (.int .u8 x2212) fun w350 =>
  SetVC w350 ⟨g2, 23, none⟩ (.int .u8 x2310) fun w351 =>
  SetVC w351 ⟨g2, 24, none⟩ (.int .u8 x2410) fun w352 =>
  SetVC w352 ⟨g2, 25, none⟩ (.int .u8 x2510) fun w353 =>
  SetVC w353 ⟨g2, 26, none⟩ (.int .u8 x2610) fun w354 =>
  SetVC w354 ⟨g2, 27, none⟩ (.int .u8 x2710) fun w355 =>
  ∃ res010 : Int, ∃ res140 : Int, ∃ res240 : Int, ∃ res310 : Int, ∃ res410 : Int, ∃ res510 : Int, ∃ res610 : Int, ∃ res710 : Int, ∃ res810 : Int, ∃ res910 : Int, ∃ res1010 : Int, ∃ res1114 : Int, ∃ res1212 : Int, ∃ res1310 : Int, ∃ res1410 : Int, ∃ res1510 : Int, ∃ res1610 : Int, ∃ res1710 : Int, ∃ res1810 : Bool, ∃ res1910 : Bool, ∃ res2010 : Bool, ∃ res2113 : Bool, ∃ res2211 : Int, ∃ res2310 : Int, ∃ res2410 : Int, ∃ res2510 : Int, ∃ res2610 : Int, ∃ res2710 : Int, CellsAt w355 ⟨g2, 0, none⟩ 0 [.int .i64 res010, .int .i64 res140, .int .u8 res240, .int .u8 res310, .int .u8 res410, .int .u8 res510, .int .u8 res610, .int .u8 res710, .int .u8 res810, .int .u8 res910, .int .u8 res1010, .int .u8 res1114, .int .u8 res1212, .int .u8 res1310, .int .u8 res1410, .int .u8 res1510, .int .u8 res1610, .int .u8 res1710, .bool res1810, .bool res1910, .bool res2010, .bool res2113, .int .u8 res2211, .int .u8 res2310, .int .u8 res2410, .int .u8 res2510, .int .u8 res2610, .int .u8 res2710] ∧
  R (.returned (.tuple #[.agg #[.int .i64 res010, .int .i64 res140, .int .u8 res240, .int .u8 res310, .int .u8 res410, .int .u8 res510, .int .u8 res610, .int .u8 res710, .int .u8 res810, .int .u8 res910, .int .u8 res1010, .int .u8 res1114, .int .u8 res1212, .int .u8 res1310, .int .u8 res1410, .int .u8 res1510, .int .u8 res1610, .int .u8 res1710, .bool res1810, .bool res1910, .bool res2010, .bool res2113, .int .u8 res2211, .int .u8 res2310, .int .u8 res2410, .int .u8 res2510, .int .u8 res2610, .int .u8 res2710], .int .i64 0])) w355)
set_option maxRecDepth 100000 in
def weirref8_ParseND_J1023 (R : Ending → World → Prop) (g1 : Nat) (g2 : Nat) (g3 : Nat) (g4 : Nat)  (w209 : World) : Prop :=
  ∃ (xA2 : Option Addr) (xn2 xc2 : Nat), w209.cell? ⟨g1, 4, none⟩ = some (.slice xA2 xn2 xc2) ∧
  ∃ (xA3 : Option Addr) (xn3 xc3 : Nat), w209.cell? ⟨g1, 4, none⟩ = some (.slice xA3 xn3 xc3) ∧
  Calls Tryd.prog 54 #[.slice xA2 xn2 xc2, .int .i64 16, .int .i64 (xn3 : Int)] w209 (onRet (fun r_2 w210 => ∃ (xA4 : Option Addr) (xn4 xc4 : Nat), r_2 = .slice xA4 xn4 xc4 ∧
  LoopVC (S := (Option Addr × Nat × Nat)) (fun s_ w211 K16380 => weirref8_ParseND_L16380 R g2 g3 g4 s_.1 s_.2.1 s_.2.2 w211 K16380) (xA4, xn4, xc4) w210)
    (fun ch2 w210 => R (.panicked ch2) w210))
set_option maxRecDepth 100000 in
def weirref8_ParseND_L2042 (R : Ending → World → Prop) (g1 : Nat) (g2 : Nat) (g3 : Nat) (g4 : Nat) (i : Int) (w175 : World) (K2042 : (Int → World → Prop)) : Prop :=
  Br (decide (i < 16))
    (∃ (xA1 : Option Addr) (xn1 xc1 : Nat), w175.cell? ⟨g1, 4, none⟩ = some (.slice xA1 xn1 xc1) ∧
  IdxVC xA1 xn1 1 i fun a =>
  ∃ x39 : Int, w175.cell? a = some (.int .u8 x39) ∧
  IdxVC (some ⟨g4, 2, none⟩) 16 1 i fun a1 =>
  SetVC w175 a1 (.int .u8 x39) fun w176 =>
  K2042 (IntKind.i64.wrap (i + 1)) w176)
    (∃ x06 : Int, ∃ x119 : Int, ∃ x218 : Int, ∃ x310 : Int, ∃ x45 : Int, ∃ x55 : Int, ∃ x65 : Int, ∃ x75 : Int, ∃ x85 : Int, ∃ x95 : Int, ∃ x105 : Int, ∃ x1110 : Int, ∃ x125 : Int, ∃ x135 : Int, ∃ x145 : Int, ∃ x155 : Int, ∃ x165 : Int, CellsAt w175 ⟨g4, 1, none⟩ 0 [.int .i64 x06, .int .u8 x119, .int .u8 x218, .int .u8 x310, .int .u8 x45, .int .u8 x55, .int .u8 x65, .int .u8 x75, .int .u8 x85, .int .u8 x95, .int .u8 x105, .int .u8 x1110, .int .u8 x125, .int .u8 x135, .int .u8 x145, .int .u8 x155, .int .u8 x165] ∧
  Calls Tryd.prog 53 #[.agg #[.int .i64 x06, .int .u8 x119, .int .u8 x218, .int .u8 x310, .int .u8 x45, .int .u8 x55, .int .u8 x65, .int .u8 x75, .int .u8 x85, .int .u8 x95, .int .u8 x105, .int .u8 x1110, .int .u8 x125, .int .u8 x135, .int .u8 x145, .int .u8 x155, .int .u8 x165]] w175 (onRet (fun r_1 w177 => ∃ x40 : Bool, r_1 = .bool x40 ∧
  Br (!x40)
    (∃ x07 : Int, ∃ x120 : Int, ∃ x219 : Int, ∃ x311 : Int, ∃ x46 : Int, ∃ x56 : Int, ∃ x66 : Int, ∃ x76 : Int, ∃ x86 : Int, ∃ x96 : Int, ∃ x106 : Int, ∃ x1111 : Int, ∃ x126 : Int, ∃ x136 : Int, ∃ x146 : Int, ∃ x156 : Int, ∃ x166 : Int, ∃ x175 : Int, ∃ x185 : Bool, ∃ x195 : Bool, ∃ x205 : Bool, ∃ x2110 : Bool, ∃ x225 : Int, ∃ x235 : Int, ∃ x245 : Int, ∃ x255 : Int, ∃ x265 : Int, ∃ x275 : Int, CellsAt w177 ⟨g3, 0, none⟩ 0 [.int .i64 x07, .int .i64 x120, .int .u8 x219, .int .u8 x311, .int .u8 x46, .int .u8 x56, .int .u8 x66, .int .u8 x76, .int .u8 x86, .int .u8 x96, .int .u8 x106, .int .u8 x1111, .int .u8 x126, .int .u8 x136, .int .u8 x146, .int .u8 x156, .int .u8 x166, .int .u8 x175, .bool x185, .bool x195, .bool x205, .bool x2110, .int .u8 x225, .int .u8 x235, .int .u8 x245, .int .u8 x255, .int .u8 x265, .int .u8 x275] ∧
    SetVC w177 ⟨g2, 0, none⟩ (.int .i64 x07) fun w178 =>
    SetVC w178 ⟨g2, 1, none⟩ (.int .i64 x120) fun w179 =>
    SetVC w179 ⟨g2, 2, none⟩ (.int .u8 x219) fun w180 =>
    SetVC w180 ⟨g2, 3, none⟩ (.int .u8 x311) fun w181 =>
    SetVC w181 ⟨g2, 4, none⟩ (.int .u8 x46) fun w182 =>
    SetVC w182 ⟨g2, 5, none⟩ (.int .u8 x56) fun w183 =>
    SetVC w183 ⟨g2, 6, none⟩ (.int .u8 x66) fun w184 =>
    SetVC w184 ⟨g2, 7, none⟩ (.int .u8 x76) fun w185 =>
    SetVC w185 ⟨g2, 8, none⟩ (.int .u8 x86) fun w186 =>
    SetVC w186 ⟨g2, 9, none⟩ (.int .u8 x96) fun w187 =>
    SetVC w187 ⟨g2, 10, none⟩ (.int .u8 x106) fun w188 =>
    SetVC w188 ⟨g2, 11, none⟩ (.int .u8 x1111) fun w189 =>
    SetVC w189 ⟨g2, 12, none⟩ (.int .u8 x126) fun w190 =>
    SetVC w190 ⟨g2, 13, none⟩ (.int .u8 x136) fun w191 =>
    SetVC w191 ⟨g2, 14, none⟩ (.int .u8 x146) fun w192 =>
    SetVC w192 ⟨g2, 15, none⟩ (.int .u8 x156) fun w193 =>
    SetVC w193 ⟨g2, 16, none⟩ (.int .u8 x166) fun w194 =>
    SetVC w194 ⟨g2, 17, none⟩ (.int .u8 x175) fun w195 =>
    SetVC w195 ⟨g2, 18, none⟩ (.bool x185) fun w196 =>
    SetVC w196 ⟨g2, 19, none⟩ (.bool x195) fun w197 =>
    SetVC w197 ⟨g2, 20, none⟩ (.bool x205) fun w198 =>
    SetVC w198 ⟨g2, 21, none⟩ (.bool x2110) fun w199 =>
    SetVC w199 ⟨g2, 22, none⟩ (.int .u8 x225) fun w200 =>
    SetVC w200 ⟨g2, 23, none⟩ (.int .u8 x235) fun w201 =>
    SetVC w201 ⟨g2, 24, none⟩ (.int .u8 x245) fun w202 =>
    SetVC w202 ⟨g2, 25, none⟩ (.int .u8 x255) fun w203 =>
    SetVC w203 ⟨g2, 26, none⟩ (.int .u8 x265) fun w204 =>
    SetVC w204 ⟨g2, 27, none⟩ (.int .u8 x275) fun w205 =>
    ∃ res05 : Int, ∃ res118 : Int, ∃ res216 : Int, ∃ res35 : Int, ∃ res45 : Int, ∃ res55 : Int, ∃ res65 : Int, ∃ res75 : Int, ∃ res85 : Int, ∃ res95 : Int, ∃ res105 : Int, ∃ res119 : Int, ∃ res125 : Int, ∃ res135 : Int, ∃ res145 : Int, ∃ res155 : Int, ∃ res165 : Int, ∃ res175 : Int, ∃ res185 : Bool, ∃ res195 : Bool, ∃ res205 : Bool, ∃ res217 : Bool, ∃ res225 : Int, ∃ res235 : Int, ∃ res245 : Int, ∃ res255 : Int, ∃ res265 : Int, ∃ res275 : Int, CellsAt w205 ⟨g2, 0, none⟩ 0 [.int .i64 res05, .int .i64 res118, .int .u8 res216, .int .u8 res35, .int .u8 res45, .int .u8 res55, .int .u8 res65, .int .u8 res75, .int .u8 res85, .int .u8 res95, .int .u8 res105, .int .u8 res119, .int .u8 res125, .int .u8 res135, .int .u8 res145, .int .u8 res155, .int .u8 res165, .int .u8 res175, .bool res185, .bool res195, .bool res205, .bool res217, .int .u8 res225, .int .u8 res235, .int .u8 res245, .int .u8 res255, .int .u8 res265, .int .u8 res275] ∧
  R (.returned (.tuple #[.agg #[.int .i64 res05, .int .i64 res118, .int .u8 res216, .int .u8 res35, .int .u8 res45, .int .u8 res55, .int .u8 res65, .int .u8 res75, .int .u8 res85, .int .u8 res95, .int .u8 res105, .int .u8 res119, .int .u8 res125, .int .u8 res135, .int .u8 res145, .int .u8 res155, .int .u8 res165, .int .u8 res175, .bool res185, .bool res195, .bool res205, .bool res217, .int .u8 res225, .int .u8 res235, .int .u8 res245, .int .u8 res255, .int .u8 res265, .int .u8 res275], .int .i64 86])) w205)
    (JoinVC (S := Unit) (fun J1023 =>
      ∃ x47 : Int, w177.cell? ⟨g4, 0, none⟩ = some (.int .i64 x47) ∧
      Br (decide (x47 = 2))
        (∃ x48 : Int, w177.cell? ⟨g1, 3, none⟩ = some (.int .i64 x48) ∧
        SetVC w177 ⟨g4, 18, none⟩ (.bool (decide (Int.tmod (IntKind.i64.wrap (Int.tdiv x48 2147483648)) 2 = 1))) fun w206 =>
        ∃ x49 : Int, w206.cell? ⟨g1, 3, none⟩ = some (.int .i64 x49) ∧
        SetVC w206 ⟨g4, 19, none⟩ (.bool (decide (Int.tmod (IntKind.i64.wrap (Int.tdiv x49 1073741824)) 2 = 1))) fun w207 =>
        ∃ x50 : Int, w207.cell? ⟨g1, 3, none⟩ = some (.int .i64 x50) ∧
        SetVC w207 ⟨g4, 20, none⟩ (.bool (decide (Int.tmod (IntKind.i64.wrap (Int.tdiv x50 536870912)) 2 = 1))) fun w208 =>
        J1023 () w208)
        (J1023 () w177))
    (fun _ w209 => weirref8_ParseND_J1023 R g1 g2 g3 g4 w209)))
    (fun ch1 w177 => R (.panicked ch1) w177)))
set_option maxRecDepth 100000 in
def weirref8_ParseND_J31 (R : Ending → World → Prop) (g1 : Nat) (g2 : Nat) (g3 : Nat)  (w117 : World) : Prop :=
  ∃ (xA : Option Addr) (xn xc : Nat), w117.cell? ⟨g1, 4, none⟩ = some (.slice xA xn xc) ∧
  Br (decide ((xn : Int) < 16))
    (∃ x05 : Int, ∃ x117 : Int, ∃ x216 : Int, ∃ x37 : Int, ∃ x44 : Int, ∃ x54 : Int, ∃ x64 : Int, ∃ x74 : Int, ∃ x84 : Int, ∃ x94 : Int, ∃ x104 : Int, ∃ x118 : Int, ∃ x124 : Int, ∃ x134 : Int, ∃ x144 : Int, ∃ x154 : Int, ∃ x164 : Int, ∃ x174 : Int, ∃ x184 : Bool, ∃ x194 : Bool, ∃ x204 : Bool, ∃ x217 : Bool, ∃ x224 : Int, ∃ x234 : Int, ∃ x244 : Int, ∃ x254 : Int, ∃ x264 : Int, ∃ x274 : Int, CellsAt w117 ⟨g3, 0, none⟩ 0 [.int .i64 x05, .int .i64 x117, .int .u8 x216, .int .u8 x37, .int .u8 x44, .int .u8 x54, .int .u8 x64, .int .u8 x74, .int .u8 x84, .int .u8 x94, .int .u8 x104, .int .u8 x118, .int .u8 x124, .int .u8 x134, .int .u8 x144, .int .u8 x154, .int .u8 x164, .int .u8 x174, .bool x184, .bool x194, .bool x204, .bool x217, .int .u8 x224, .int .u8 x234, .int .u8 x244, .int .u8 x254, .int .u8 x264, .int .u8 x274] ∧
    SetVC w117 ⟨g2, 0, none⟩ (.int .i64 x05) fun w118 =>
    SetVC w118 ⟨g2, 1, none⟩ (.int .i64 x117) fun w119 =>
    SetVC w119 ⟨g2, 2, none⟩ (.int .u8 x216) fun w120 =>
    SetVC w120 ⟨g2, 3, none⟩ (.int .u8 x37) fun w121 =>
    SetVC w121 ⟨g2, 4, none⟩ (.int .u8 x44) fun w122 =>
    SetVC w122 ⟨g2, 5, none⟩ (.int .u8 x54) fun w123 =>
    SetVC w123 ⟨g2, 6, none⟩ (.int .u8 x64) fun w124 =>
    SetVC w124 ⟨g2, 7, none⟩ (.int .u8 x74) fun w125 =>
    SetVC w125 ⟨g2, 8, none⟩ (.int .u8 x84) fun w126 =>
    SetVC w126 ⟨g2, 9, none⟩ (.int .u8 x94) fun w127 =>
    SetVC w127 ⟨g2, 10, none⟩ (.int .u8 x104) fun w128 =>
    SetVC w128 ⟨g2, 11, none⟩ (.int .u8 x118) fun w129 =>
    SetVC w129 ⟨g2, 12, none⟩ (.int .u8 x124) fun w130 =>
    SetVC w130 ⟨g2, 13, none⟩ (.int .u8 x134) fun w131 =>
    SetVC w131 ⟨g2, 14, none⟩ (.int .u8 x144) fun w132 =>
    SetVC w132 ⟨g2, 15, none⟩ (.int .u8 x154) fun w133 =>
    SetVC w133 ⟨g2, 16, none⟩ (.int .u8 x164) fun w134 =>
    SetVC w134 ⟨g2, 17, none⟩ (.int .u8 x174) fun w135 =>
    SetVC w135 ⟨g2, 18, none⟩ (.bool x184) fun w136 =>
    SetVC w136 ⟨g2, 19, none⟩ (.bool x194) fun w137 =>
    SetVC w137 ⟨g2, 20, none⟩ (.bool x204) fun w138 =>
    SetVC w138 ⟨g2, 21, none⟩ (.bool x217) fun w139 =>
    SetVC w139 ⟨g2, 22, none⟩ (.int .u8 x224) fun w140 =>
    SetVC w140 ⟨g2, 23, none⟩ (.int .u8 x234) fun w141 =>
    SetVC w141 ⟨g2, 24, none⟩ (.int .u8 x244) fun w142 =>
    SetVC w142 ⟨g2, 25, none⟩ (.int .u8 x254) fun w143 =>
    SetVC w143 ⟨g2, 26, none⟩ (.int .u8 x264) fun w144 =>
    SetVC w144 ⟨g2, 27, none⟩ (.int .u8 x274) fun w145 =>
    ∃ res04 : Int, ∃ res116 : Int, ∃ res214 : Int, ∃ res34 : Int, ∃ res44 : Int, ∃ res54 : Int, ∃ res64 : Int, ∃ res74 : Int, ∃ res84 : Int, ∃ res94 : Int, ∃ res104 : Int, ∃ res117 : Int, ∃ res124 : Int, ∃ res134 : Int, ∃ res144 : Int, ∃ res154 : Int, ∃ res164 : Int, ∃ res174 : Int, ∃ res184 : Bool, ∃ res194 : Bool, ∃ res204 : Bool, ∃ res215 : Bool, ∃ res224 : Int, ∃ res234 : Int, ∃ res244 : Int, ∃ res254 : Int, ∃ res264 : Int, ∃ res274 : Int, CellsAt w145 ⟨g2, 0, none⟩ 0 [.int .i64 res04, .int .i64 res116, .int .u8 res214, .int .u8 res34, .int .u8 res44, .int .u8 res54, .int .u8 res64, .int .u8 res74, .int .u8 res84, .int .u8 res94, .int .u8 res104, .int .u8 res117, .int .u8 res124, .int .u8 res134, .int .u8 res144, .int .u8 res154, .int .u8 res164, .int .u8 res174, .bool res184, .bool res194, .bool res204, .bool res215, .int .u8 res224, .int .u8 res234, .int .u8 res244, .int .u8 res254, .int .u8 res264, .int .u8 res274] ∧
  R (.returned (.tuple #[.agg #[.int .i64 res04, .int .i64 res116, .int .u8 res214, .int .u8 res34, .int .u8 res44, .int .u8 res54, .int .u8 res64, .int .u8 res74, .int .u8 res84, .int .u8 res94, .int .u8 res104, .int .u8 res117, .int .u8 res124, .int .u8 res134, .int .u8 res144, .int .u8 res154, .int .u8 res164, .int .u8 res174, .bool res184, .bool res194, .bool res204, .bool res215, .int .u8 res224, .int .u8 res234, .int .u8 res244, .int .u8 res254, .int .u8 res264, .int .u8 res274], .int .i64 84])) w145)
    (∃ x38 : Int, w117.cell? ⟨g1, 1, none⟩ = some (.int .i64 x38) ∧
  NewVC w117 (.cells #[.int .i64 0, .int .i64 0, .int .u8 0, .int .u8 0, .int .u8 0, .int .u8 0, .int .u8 0, .int .u8 0, .int .u8 0, .int .u8 0, .int .u8 0, .int .u8 0, .int .u8 0, .int .u8 0, .int .u8 0, .int .u8 0, .int .u8 0, .int .u8 0, .bool false, .bool false, .bool false, .bool false, .int .u8 0, .int .u8 0, .int .u8 0, .int .u8 0, .int .u8 0, .int .u8 0] 35) fun g4 w146 =>
  SetVC w146 ⟨g4, 0, none⟩ (.int .i64 (IntKind.i64.wrap (x38 - 134))) fun w147 =>
  SetVC w147 ⟨g4, 1, none⟩ (.int .i64 6) fun w148 =>
  SetVC w148 ⟨g4, 2, none⟩ (.int .u8 0) fun w149 =>
  SetVC w149 ⟨g4, 3, none⟩ (.int .u8 0) fun w150 =>
  SetVC w150 ⟨g4, 4, none⟩ (.int .u8 0) fun w151 =>
  SetVC w151 ⟨g4, 5, none⟩ (.int .u8 0) fun w152 =>
  SetVC w152 ⟨g4, 6, none⟩ (.int .u8 0) fun w153 =>
  SetVC w153 ⟨g4, 7, none⟩ (.int .u8 0) fun w154 =>
  SetVC w154 ⟨g4, 8, none⟩ (.int .u8 0) fun w155 =>
  SetVC w155 ⟨g4, 9, none⟩ (.int .u8 0) fun w156 =>
  SetVC w156 ⟨g4, 10, none⟩ (.int .u8 0) fun w157 =>
  SetVC w157 ⟨g4, 11, none⟩ (.int .u8 0) fun w158 =>
  SetVC w158 ⟨g4, 12, none⟩ (.int .u8 0) fun w159 =>
  SetVC w159 ⟨g4, 13, none⟩ (.int .u8 0) fun w160 =>
  SetVC w160 ⟨g4, 14, none⟩ (.int .u8 0) fun w161 =>
  SetVC w161 ⟨g4, 15, none⟩ (.int .u8 0) fun w162 =>
  SetVC w162 ⟨g4, 16, none⟩ (.int .u8 0) fun w163 =>
  SetVC w163 ⟨g4, 17, none⟩ (.int .u8 0) fun w164 =>
  SetVC w164 ⟨g4, 18, none⟩ (.bool false) fun w165 =>
  SetVC w165 ⟨g4, 19, none⟩ (.bool false) fun w166 =>
  SetVC w166 ⟨g4, 20, none⟩ (.bool false) fun w167 =>
  SetVC w167 ⟨g4, 21, none⟩ (.bool false) fun w168 =>
  SetVC w168 ⟨g4, 22, none⟩ (.int .u8 0) fun w169 =>
  SetVC w169 ⟨g4, 23, none⟩ (.int .u8 0) fun w170 =>
  SetVC w170 ⟨g4, 24, none⟩ (.int .u8 0) fun w171 =>
  SetVC w171 ⟨g4, 25, none⟩ (.int .u8 0) fun w172 =>
  SetVC w172 ⟨g4, 26, none⟩ (.int .u8 0) fun w173 =>
  SetVC w173 ⟨g4, 27, none⟩ (.int .u8 0) fun w174 =>
  LoopVC (S := Int) (fun s_ w175 K2042 => weirref8_ParseND_L2042 R g1 g2 g3 g4 s_ w175 K2042) 0 w174)
set_option maxRecDepth 100000 in
def weirref8_ParseND_VC (m_V : Int) (m_Type : Int) (m_Code : Int) (m_Rest : Int) (m_DataA : Option Addr) (m_Datan : Nat) (m_Datac : Nat) (w : World) (R : Ending → World → Prop) : Prop :=
  NewVC w (.cells #[.int .i64 m_V, .int .i64 m_Type, .int .i64 m_Code, .int .i64 m_Rest, .slice m_DataA m_Datan m_Datac] 24) fun g1 w1 =>
  NewVC w1 (.cells #[.int .i64 0, .int .i64 0, .int .u8 0, .int .u8 0, .int .u8 0, .int .u8 0, .int .u8 0, .int .u8 0, .int .u8 0, .int .u8 0, .int .u8 0, .int .u8 0, .int .u8 0, .int .u8 0, .int .u8 0, .int .u8 0, .int .u8 0, .int .u8 0, .bool false, .bool false, .bool false, .bool false, .int .u8 0, .int .u8 0, .int .u8 0, .int .u8 0, .int .u8 0, .int .u8 0] 35) fun g2 w2 =>
  NewVC w2 (.cells #[.int .i64 0, .int .i64 0, .int .u8 0, .int .u8 0, .int .u8 0, .int .u8 0, .int .u8 0, .int .u8 0, .int .u8 0, .int .u8 0, .int .u8 0, .int .u8 0, .int .u8 0, .int .u8 0, .int .u8 0, .int .u8 0, .int .u8 0, .int .u8 0, .bool false, .bool false, .bool false, .bool false, .int .u8 0, .int .u8 0, .int .u8 0, .int .u8 0, .int .u8 0, .int .u8 0] 35) fun g3 w3 =>
  ∃ x0 : Int, ∃ x1 : Int, ∃ x2 : Int, ∃ x3 : Int, ∃ (x4A : Option Addr) (x4n x4c : Nat), CellsAt w3 ⟨g1, 0, none⟩ 0 [.int .i64 x0, .int .i64 x1, .int .i64 x2, .int .i64 x3, .slice x4A x4n x4c] ∧
  Calls Tryd.prog 28 #[.agg #[.int .i64 x0, .int .i64 x1, .int .i64 x2, .int .i64 x3, .slice x4A x4n x4c]] w3 (onRet (fun r_ w4 => ∃ x : Int, r_ = .int .i64 x ∧
  Br (decide (x ≠ 0))
    (∃ x01 : Int, ∃ x11 : Int, ∃ x21 : Int, ∃ x31 : Int, ∃ x4 : Int, ∃ x5 : Int, ∃ x6 : Int, ∃ x7 : Int, ∃ x8 : Int, ∃ x9 : Int, ∃ x10 : Int, ∃ x111 : Int, ∃ x12 : Int, ∃ x13 : Int, ∃ x14 : Int, ∃ x15 : Int, ∃ x16 : Int, ∃ x17 : Int, ∃ x18 : Bool, ∃ x19 : Bool, ∃ x20 : Bool, ∃ x211 : Bool, ∃ x22 : Int, ∃ x23 : Int, ∃ x24 : Int, ∃ x25 : Int, ∃ x26 : Int, ∃ x27 : Int, CellsAt w4 ⟨g3, 0, none⟩ 0 [.int .i64 x01, .int .i64 x11, .int .u8 x21, .int .u8 x31, .int .u8 x4, .int .u8 x5, .int .u8 x6, .int .u8 x7, .int .u8 x8, .int .u8 x9, .int .u8 x10, .int .u8 x111, .int .u8 x12, .int .u8 x13, .int .u8 x14, .int .u8 x15, .int .u8 x16, .int .u8 x17, .bool x18, .bool x19, .bool x20, .bool x211, .int .u8 x22, .int .u8 x23, .int .u8 x24, .int .u8 x25, .int .u8 x26, .int .u8 x27] ∧
    SetVC w4 ⟨g2, 0, none⟩ (.int .i64 x01) fun w5 =>
    SetVC w5 ⟨g2, 1, none⟩ (.int .i64 x11) fun w6 =>
    SetVC w6 ⟨g2, 2, none⟩ (.int .u8 x21) fun w7 =>
    SetVC w7 ⟨g2, 3, none⟩ (.int .u8 x31) fun w8 =>
    SetVC w8 ⟨g2, 4, none⟩ (.int .u8 x4) fun w9 =>
    SetVC w9 ⟨g2, 5, none⟩ (.int .u8 x5) fun w10 =>
    SetVC w10 ⟨g2, 6, none⟩ (.int .u8 x6) fun w11 =>
    SetVC w11 ⟨g2, 7, none⟩ (.int .u8 x7) fun w12 =>
    SetVC w12 ⟨g2, 8, none⟩ (.int .u8 x8) fun w13 =>
    SetVC w13 ⟨g2, 9, none⟩ (.int .u8 x9) fun w14 =>
    SetVC w14 ⟨g2, 10, none⟩ (.int .u8 x10) fun w15 =>
    SetVC w15 ⟨g2, 11, none⟩ (.int .u8 x111) fun w16 =>
    SetVC w16 ⟨g2, 12, none⟩ (.int .u8 x12) fun w17 =>
    SetVC w17 ⟨g2, 13, none⟩ (.int .u8 x13) fun w18 =>
    SetVC w18 ⟨g2, 14, none⟩ (.int .u8 x14) fun w19 =>
    SetVC w19 ⟨g2, 15, none⟩ (.int .u8 x15) fun w20 =>
    SetVC w20 ⟨g2, 16, none⟩ (.int .u8 x16) fun w21 =>
    SetVC w21 ⟨g2, 17, none⟩ (.int .u8 x17) fun w22 =>
    SetVC w22 ⟨g2, 18, none⟩ (.bool x18) fun w23 =>
    SetVC w23 ⟨g2, 19, none⟩ (.bool x19) fun w24 =>
    SetVC w24 ⟨g2, 20, none⟩ (.bool x20) fun w25 =>
    SetVC w25 ⟨g2, 21, none⟩ (.bool x211) fun w26 =>
    SetVC w26 ⟨g2, 22, none⟩ (.int .u8 x22) fun w27 =>
    SetVC w27 ⟨g2, 23, none⟩ (.int .u8 x23) fun w28 =>
    SetVC w28 ⟨g2, 24, none⟩ (.int .u8 x24) fun w29 =>
    SetVC w29 ⟨g2, 25, none⟩ (.int .u8 x25) fun w30 =>
    SetVC w30 ⟨g2, 26, none⟩ (.int .u8 x26) fun w31 =>
    SetVC w31 ⟨g2, 27, none⟩ (.int .u8 x27) fun w32 =>
    ∃ res0 : Int, ∃ res1 : Int, ∃ res2 : Int, ∃ res3 : Int, ∃ res4 : Int, ∃ res5 : Int, ∃ res6 : Int, ∃ res7 : Int, ∃ res8 : Int, ∃ res9 : Int, ∃ res10 : Int, ∃ res11 : Int, ∃ res12 : Int, ∃ res13 : Int, ∃ res14 : Int, ∃ res15 : Int, ∃ res16 : Int, ∃ res17 : Int, ∃ res18 : Bool, ∃ res19 : Bool, ∃ res20 : Bool, ∃ res21 : Bool, ∃ res22 : Int, ∃ res23 : Int, ∃ res24 : Int, ∃ res25 : Int, ∃ res26 : Int, ∃ res27 : Int, CellsAt w32 ⟨g2, 0, none⟩ 0 [.int .i64 res0, .int .i64 res1, .int .u8 res2, .int .u8 res3, .int .u8 res4, .int .u8 res5, .int .u8 res6, .int .u8 res7, .int .u8 res8, .int .u8 res9, .int .u8 res10, .int .u8 res11, .int .u8 res12, .int .u8 res13, .int .u8 res14, .int .u8 res15, .int .u8 res16, .int .u8 res17, .bool res18, .bool res19, .bool res20, .bool res21, .int .u8 res22, .int .u8 res23, .int .u8 res24, .int .u8 res25, .int .u8 res26, .int .u8 res27] ∧
  R (.returned (.tuple #[.agg #[.int .i64 res0, .int .i64 res1, .int .u8 res2, .int .u8 res3, .int .u8 res4, .int .u8 res5, .int .u8 res6, .int .u8 res7, .int .u8 res8, .int .u8 res9, .int .u8 res10, .int .u8 res11, .int .u8 res12, .int .u8 res13, .int .u8 res14, .int .u8 res15, .int .u8 res16, .int .u8 res17, .bool res18, .bool res19, .bool res20, .bool res21, .int .u8 res22, .int .u8 res23, .int .u8 res24, .int .u8 res25, .int .u8 res26, .int .u8 res27], .int .i64 x])) w32)
    (JoinVC (S := Unit) (fun J31 =>
      ∃ x28 : Int, w4.cell? ⟨g1, 0, none⟩ = some (.int .i64 x28) ∧
      Br (decide (x28 ≠ 6))
        (∃ x02 : Int, ∃ x110 : Int, ∃ x29 : Int, ∃ x32 : Int, ∃ x41 : Int, ∃ x51 : Int, ∃ x61 : Int, ∃ x71 : Int, ∃ x81 : Int, ∃ x91 : Int, ∃ x101 : Int, ∃ x112 : Int, ∃ x121 : Int, ∃ x131 : Int, ∃ x141 : Int, ∃ x151 : Int, ∃ x161 : Int, ∃ x171 : Int, ∃ x181 : Bool, ∃ x191 : Bool, ∃ x201 : Bool, ∃ x212 : Bool, ∃ x221 : Int, ∃ x231 : Int, ∃ x241 : Int, ∃ x251 : Int, ∃ x261 : Int, ∃ x271 : Int, CellsAt w4 ⟨g3, 0, none⟩ 0 [.int .i64 x02, .int .i64 x110, .int .u8 x29, .int .u8 x32, .int .u8 x41, .int .u8 x51, .int .u8 x61, .int .u8 x71, .int .u8 x81, .int .u8 x91, .int .u8 x101, .int .u8 x112, .int .u8 x121, .int .u8 x131, .int .u8 x141, .int .u8 x151, .int .u8 x161, .int .u8 x171, .bool x181, .bool x191, .bool x201, .bool x212, .int .u8 x221, .int .u8 x231, .int .u8 x241, .int .u8 x251, .int .u8 x261, .int .u8 x271] ∧
      SetVC w4 ⟨g2, 0, none⟩ (.int .i64 x02) fun w33 =>
      SetVC w33 ⟨g2, 1, none⟩ (.int .i64 x110) fun w34 =>
      SetVC w34 ⟨g2, 2, none⟩ (.int .u8 x29) fun w35 =>
      SetVC w35 ⟨g2, 3, none⟩ (.int .u8 x32) fun w36 =>
      SetVC w36 ⟨g2, 4, none⟩ (.int .u8 x41) fun w37 =>
      SetVC w37 ⟨g2, 5, none⟩ (.int .u8 x51) fun w38 =>
      SetVC w38 ⟨g2, 6, none⟩ (.int .u8 x61) fun w39 =>
      SetVC w39 ⟨g2, 7, none⟩ (.int .u8 x71) fun w40 =>
      SetVC w40 ⟨g2, 8, none⟩ (.int .u8 x81) fun w41 =>
      SetVC w41 ⟨g2, 9, none⟩ (.int .u8 x91) fun w42 =>
      SetVC w42 ⟨g2, 10, none⟩ (.int .u8 x101) fun w43 =>
      SetVC w43 ⟨g2, 11, none⟩ (.int .u8 x112) fun w44 =>
      SetVC w44 ⟨g2, 12, none⟩ (.int .u8 x121) fun w45 =>
      SetVC w45 ⟨g2, 13, none⟩ (.int .u8 x131) fun w46 =>
      SetVC w46 ⟨g2, 14, none⟩ (.int .u8 x141) fun w47 =>
      SetVC w47 ⟨g2, 15, none⟩ (.int .u8 x151) fun w48 =>
      SetVC w48 ⟨g2, 16, none⟩ (.int .u8 x161) fun w49 =>
      SetVC w49 ⟨g2, 17, none⟩ (.int .u8 x171) fun w50 =>
      SetVC w50 ⟨g2, 18, none⟩ (.bool x181) fun w51 =>
      SetVC w51 ⟨g2, 19, none⟩ (.bool x191) fun w52 =>
      SetVC w52 ⟨g2, 20, none⟩ (.bool x201) fun w53 =>
      SetVC w53 ⟨g2, 21, none⟩ (.bool x212) fun w54 =>
      SetVC w54 ⟨g2, 22, none⟩ (.int .u8 x221) fun w55 =>
      SetVC w55 ⟨g2, 23, none⟩ (.int .u8 x231) fun w56 =>
      SetVC w56 ⟨g2, 24, none⟩ (.int .u8 x241) fun w57 =>
      SetVC w57 ⟨g2, 25, none⟩ (.int .u8 x251) fun w58 =>
      SetVC w58 ⟨g2, 26, none⟩ (.int .u8 x261) fun w59 =>
      SetVC w59 ⟨g2, 27, none⟩ (.int .u8 x271) fun w60 =>
      ∃ res01 : Int, ∃ res110 : Int, ∃ res28 : Int, ∃ res31 : Int, ∃ res41 : Int, ∃ res51 : Int, ∃ res61 : Int, ∃ res71 : Int, ∃ res81 : Int, ∃ res91 : Int, ∃ res101 : Int, ∃ res111 : Int, ∃ res121 : Int, ∃ res131 : Int, ∃ res141 : Int, ∃ res151 : Int, ∃ res161 : Int, ∃ res171 : Int, ∃ res181 : Bool, ∃ res191 : Bool, ∃ res201 : Bool, ∃ res211 : Bool, ∃ res221 : Int, ∃ res231 : Int, ∃ res241 : Int, ∃ res251 : Int, ∃ res261 : Int, ∃ res271 : Int, CellsAt w60 ⟨g2, 0, none⟩ 0 [.int .i64 res01, .int .i64 res110, .int .u8 res28, .int .u8 res31, .int .u8 res41, .int .u8 res51, .int .u8 res61, .int .u8 res71, .int .u8 res81, .int .u8 res91, .int .u8 res101, .int .u8 res111, .int .u8 res121, .int .u8 res131, .int .u8 res141, .int .u8 res151, .int .u8 res161, .int .u8 res171, .bool res181, .bool res191, .bool res201, .bool res211, .int .u8 res221, .int .u8 res231, .int .u8 res241, .int .u8 res251, .int .u8 res261, .int .u8 res271] ∧
  R (.returned (.tuple #[.agg #[.int .i64 res01, .int .i64 res110, .int .u8 res28, .int .u8 res31, .int .u8 res41, .int .u8 res51, .int .u8 res61, .int .u8 res71, .int .u8 res81, .int .u8 res91, .int .u8 res101, .int .u8 res111, .int .u8 res121, .int .u8 res131, .int .u8 res141, .int .u8 res151, .int .u8 res161, .int .u8 res171, .bool res181, .bool res191, .bool res201, .bool res211, .int .u8 res221, .int .u8 res231, .int .u8 res241, .int .u8 res251, .int .u8 res261, .int .u8 res271], .int .i64 83])) w60)
        (∃ x30 : Int, w4.cell? ⟨g1, 2, none⟩ = some (.int .i64 x30) ∧
        Br (decide (x30 ≠ 0))
          (∃ x03 : Int, ∃ x113 : Int, ∃ x210 : Int, ∃ x33 : Int, ∃ x42 : Int, ∃ x52 : Int, ∃ x62 : Int, ∃ x72 : Int, ∃ x82 : Int, ∃ x92 : Int, ∃ x102 : Int, ∃ x114 : Int, ∃ x122 : Int, ∃ x132 : Int, ∃ x142 : Int, ∃ x152 : Int, ∃ x162 : Int, ∃ x172 : Int, ∃ x182 : Bool, ∃ x192 : Bool, ∃ x202 : Bool, ∃ x213 : Bool, ∃ x222 : Int, ∃ x232 : Int, ∃ x242 : Int, ∃ x252 : Int, ∃ x262 : Int, ∃ x272 : Int, CellsAt w4 ⟨g3, 0, none⟩ 0 [.int .i64 x03, .int .i64 x113, .int .u8 x210, .int .u8 x33, .int .u8 x42, .int .u8 x52, .int .u8 x62, .int .u8 x72, .int .u8 x82, .int .u8 x92, .int .u8 x102, .int .u8 x114, .int .u8 x122, .int .u8 x132, .int .u8 x142, .int .u8 x152, .int .u8 x162, .int .u8 x172, .bool x182, .bool x192, .bool x202, .bool x213, .int .u8 x222, .int .u8 x232, .int .u8 x242, .int .u8 x252, .int .u8 x262, .int .u8 x272] ∧
      SetVC w4 ⟨g2, 0, none⟩ (.int .i64 x03) fun w61 =>
      SetVC w61 ⟨g2, 1, none⟩ (.int .i64 x113) fun w62 =>
      SetVC w62 ⟨g2, 2, none⟩ (.int .u8 x210) fun w63 =>
      SetVC w63 ⟨g2, 3, none⟩ (.int .u8 x33) fun w64 =>
      SetVC w64 ⟨g2, 4, none⟩ (.int .u8 x42) fun w65 =>
      SetVC w65 ⟨g2, 5, none⟩ (.int .u8 x52) fun w66 =>
      SetVC w66 ⟨g2, 6, none⟩ (.int .u8 x62) fun w67 =>
      SetVC w67 ⟨g2, 7, none⟩ (.int .u8 x72) fun w68 =>
      SetVC w68 ⟨g2, 8, none⟩ (.int .u8 x82) fun w69 =>
      SetVC w69 ⟨g2, 9, none⟩ (.int .u8 x92) fun w70 =>
      SetVC w70 ⟨g2, 10, none⟩ (.int .u8 x102) fun w71 =>
      SetVC w71 ⟨g2, 11, none⟩ (.int .u8 x114) fun w72 =>
      SetVC w72 ⟨g2, 12, none⟩ (.int .u8 x122) fun w73 =>
      SetVC w73 ⟨g2, 13, none⟩ (.int .u8 x132) fun w74 =>
      SetVC w74 ⟨g2, 14, none⟩ (.int .u8 x142) fun w75 =>
      SetVC w75 ⟨g2, 15, none⟩ (.int .u8 x152) fun w76 =>
      SetVC w76 ⟨g2, 16, none⟩ (.int .u8 x162) fun w77 =>
      SetVC w77 ⟨g2, 17, none⟩ (.int .u8 x172) fun w78 =>
      SetVC w78 ⟨g2, 18, none⟩ (.bool x182) fun w79 =>
      SetVC w79 ⟨g2, 19, none⟩ (.bool x192) fun w80 =>
      SetVC w80 ⟨g2, 20, none⟩ (.bool x202) fun w81 =>
      SetVC w81 ⟨g2, 21, none⟩ (.bool x213) fun w82 =>
      SetVC w82 ⟨g2, 22, none⟩ (.int .u8 x222) fun w83 =>
      SetVC w83 ⟨g2, 23, none⟩ (.int .u8 x232) fun w84 =>
      SetVC w84 ⟨g2, 24, none⟩ (.int .u8 x242) fun w85 =>
      SetVC w85 ⟨g2, 25, none⟩ (.int .u8 x252) fun w86 =>
      SetVC w86 ⟨g2, 26, none⟩ (.int .u8 x262) fun w87 =>
      SetVC w87 ⟨g2, 27, none⟩ (.int .u8 x272) fun w88 =>
      ∃ res02 : Int, ∃ res112 : Int, ∃ res29 : Int, ∃ res32 : Int, ∃ res42 : Int, ∃ res52 : Int, ∃ res62 : Int, ∃ res72 : Int, ∃ res82 : Int, ∃ res92 : Int, ∃ res102 : Int, ∃ res113 : Int, ∃ res122 : Int, ∃ res132 : Int, ∃ res142 : Int, ∃ res152 : Int, ∃ res162 : Int, ∃ res172 : Int, ∃ res182 : Bool, ∃ res192 : Bool, ∃ res202 : Bool, ∃ res212 : Bool, ∃ res222 : Int, ∃ res232 : Int, ∃ res242 : Int, ∃ res252 : Int, ∃ res262 : Int, ∃ res272 : Int, CellsAt w88 ⟨g2, 0, none⟩ 0 [.int .i64 res02, .int .i64 res112, .int .u8 res29, .int .u8 res32, .int .u8 res42, .int .u8 res52, .int .u8 res62, .int .u8 res72, .int .u8 res82, .int .u8 res92, .int .u8 res102, .int .u8 res113, .int .u8 res122, .int .u8 res132, .int .u8 res142, .int .u8 res152, .int .u8 res162, .int .u8 res172, .bool res182, .bool res192, .bool res202, .bool res212, .int .u8 res222, .int .u8 res232, .int .u8 res242, .int .u8 res252, .int .u8 res262, .int .u8 res272] ∧
  R (.returned (.tuple #[.agg #[.int .i64 res02, .int .i64 res112, .int .u8 res29, .int .u8 res32, .int .u8 res42, .int .u8 res52, .int .u8 res62, .int .u8 res72, .int .u8 res82, .int .u8 res92, .int .u8 res102, .int .u8 res113, .int .u8 res122, .int .u8 res132, .int .u8 res142, .int .u8 res152, .int .u8 res162, .int .u8 res172, .bool res182, .bool res192, .bool res202, .bool res212, .int .u8 res222, .int .u8 res232, .int .u8 res242, .int .u8 res252, .int .u8 res262, .int .u8 res272], .int .i64 83])) w88)
          (∃ x34 : Int, w4.cell? ⟨g1, 1, none⟩ = some (.int .i64 x34) ∧
          Br (decide (x34 ≠ 135))
            (∃ x35 : Int, w4.cell? ⟨g1, 1, none⟩ = some (.int .i64 x35) ∧
            Br (decide (x35 ≠ 136))
        (∃ x04 : Int, ∃ x115 : Int, ∃ x214 : Int, ∃ x36 : Int, ∃ x43 : Int, ∃ x53 : Int, ∃ x63 : Int, ∃ x73 : Int, ∃ x83 : Int, ∃ x93 : Int, ∃ x103 : Int, ∃ x116 : Int, ∃ x123 : Int, ∃ x133 : Int, ∃ x143 : Int, ∃ x153 : Int, ∃ x163 : Int, ∃ x173 : Int, ∃ x183 : Bool, ∃ x193 : Bool, ∃ x203 : Bool, ∃ x215 : Bool, ∃ x223 : Int, ∃ x233 : Int, ∃ x243 : Int, ∃ x253 : Int, ∃ x263 : Int, ∃ x273 : Int, CellsAt w4 ⟨g3, 0, none⟩ 0 [.int .i64 x04, .int .i64 x115, .int .u8 x214, .int .u8 x36, .int .u8 x43, .int .u8 x53, .int .u8 x63, .int .u8 x73, .int .u8 x83, .int .u8 x93, .int .u8 x103, .int .u8 x116, .int .u8 x123, .int .u8 x133, .int .u8 x143, .int .u8 x153, .int .u8 x163, .int .u8 x173, .bool x183, .bool x193, .bool x203, .bool x215, .int .u8 x223, .int .u8 x233, .int .u8 x243, .int .u8 x253, .int .u8 x263, .int .u8 x273] ∧
        SetVC w4 ⟨g2, 0, none⟩ (.int .i64 x04) fun w89 =>
        SetVC w89 ⟨g2, 1, none⟩ (.int .i64 x115) fun w90 =>
        SetVC w90 ⟨g2, 2, none⟩ (.int .u8 x214) fun w91 =>
        SetVC w91 ⟨g2, 3, none⟩ (.int .u8 x36) fun w92 =>
        SetVC w92 ⟨g2, 4, none⟩ (.int .u8 x43) fun w93 =>
        SetVC w93 ⟨g2, 5, none⟩ (.int .u8 x53) fun w94 =>
        SetVC w94 ⟨g2, 6, none⟩ (.int .u8 x63) fun w95 =>
        SetVC w95 ⟨g2, 7, none⟩ (.int .u8 x73) fun w96 =>
        SetVC w96 ⟨g2, 8, none⟩ (.int .u8 x83) fun w97 =>
        SetVC w97 ⟨g2, 9, none⟩ (.int .u8 x93) fun w98 =>
        SetVC w98 ⟨g2, 10, none⟩ (.int .u8 x103) fun w99 =>
        SetVC w99 ⟨g2, 11, none⟩ (.int .u8 x116) fun w100 =>
        SetVC w100 ⟨g2, 12, none⟩ (.int .u8 x123) fun w101 =>
        SetVC w101 ⟨g2, 13, none⟩ (.int .u8 x133) fun w102 =>
        SetVC w102 ⟨g2, 14, none⟩ (.int .u8 x143) fun w103 =>
        SetVC w103 ⟨g2, 15, none⟩ (.int .u8 x153) fun w104 =>
        SetVC w104 ⟨g2, 16, none⟩ (.int .u8 x163) fun w105 =>
        SetVC w105 ⟨g2, 17, none⟩ (.int .u8 x173) fun w106 =>
        SetVC w106 ⟨g2, 18, none⟩ (.bool x183) fun w107 =>
        SetVC w107 ⟨g2, 19, none⟩ (.bool x193) fun w108 =>
        SetVC w108 ⟨g2, 20, none⟩ (.bool x203) fun w109 =>
        SetVC w109 ⟨g2, 21, none⟩ (.bool x215) fun w110 =>
        SetVC w110 ⟨g2, 22, none⟩ (.int .u8 x223) fun w111 =>
        SetVC w111 ⟨g2, 23, none⟩ (.int .u8 x233) fun w112 =>
        SetVC w112 ⟨g2, 24, none⟩ (.int .u8 x243) fun w113 =>
        SetVC w113 ⟨g2, 25, none⟩ (.int .u8 x253) fun w114 =>
        SetVC w114 ⟨g2, 26, none⟩ (.int .u8 x263) fun w115 =>
        SetVC w115 ⟨g2, 27, none⟩ (.int .u8 x273) fun w116 =>
        ∃ res03 : Int, ∃ res114 : Int, ∃ res210 : Int, ∃ res33 : Int, ∃ res43 : Int, ∃ res53 : Int, ∃ res63 : Int, ∃ res73 : Int, ∃ res83 : Int, ∃ res93 : Int, ∃ res103 : Int, ∃ res115 : Int, ∃ res123 : Int, ∃ res133 : Int, ∃ res143 : Int, ∃ res153 : Int, ∃ res163 : Int, ∃ res173 : Int, ∃ res183 : Bool, ∃ res193 : Bool, ∃ res203 : Bool, ∃ res213 : Bool, ∃ res223 : Int, ∃ res233 : Int, ∃ res243 : Int, ∃ res253 : Int, ∃ res263 : Int, ∃ res273 : Int, CellsAt w116 ⟨g2, 0, none⟩ 0 [.int .i64 res03, .int .i64 res114, .int .u8 res210, .int .u8 res33, .int .u8 res43, .int .u8 res53, .int .u8 res63, .int .u8 res73, .int .u8 res83, .int .u8 res93, .int .u8 res103, .int .u8 res115, .int .u8 res123, .int .u8 res133, .int .u8 res143, .int .u8 res153, .int .u8 res163, .int .u8 res173, .bool res183, .bool res193, .bool res203, .bool res213, .int .u8 res223, .int .u8 res233, .int .u8 res243, .int .u8 res253, .int .u8 res263, .int .u8 res273] ∧
  R (.returned (.tuple #[.agg #[.int .i64 res03, .int .i64 res114, .int .u8 res210, .int .u8 res33, .int .u8 res43, .int .u8 res53, .int .u8 res63, .int .u8 res73, .int .u8 res83, .int .u8 res93, .int .u8 res103, .int .u8 res115, .int .u8 res123, .int .u8 res133, .int .u8 res143, .int .u8 res153, .int .u8 res163, .int .u8 res173, .bool res183, .bool res193, .bool res203, .bool res213, .int .u8 res223, .int .u8 res233, .int .u8 res243, .int .u8 res253, .int .u8 res263, .int .u8 res273], .int .i64 83])) w116)
        (J31 () w4))
            (J31 () w4))))
    (fun _ w117 => weirref8_ParseND_J31 R g1 g2 g3 w117)))
    (fun ch w4 => R (.panicked ch) w4))
def weirref8_ParseND_H : Hints := [(31, []), (2042, [(7, .int .i64)]), (1023, []), (16380, [(8, .slice)]), (134187702, [(9, .int .i64)])]
set_option maxRecDepth 100000 in
theorem weirref8_ParseND_of (m_V : Int) (m_Type : Int) (m_Code : Int) (m_Rest : Int) (m_DataA : Option Addr) (m_Datan : Nat) (m_Datac : Nat) (w : World) (R : Ending → World → Prop) (h : weirref8_ParseND_VC m_V m_Type m_Code m_Rest m_DataA m_Datan m_Datac w R) :
    Calls Tryd.prog 17 #[.agg #[.int .i64 m_V, .int .i64 m_Type, .int .i64 m_Code, .int .i64 m_Rest, .slice m_DataA m_Datan m_Datac]] w R :=
  calls_of_wpc callOk mixedOk (H := weirref8_ParseND_H) (args := [.agg #[.int .i64 m_V, .int .i64 m_Type, .int .i64 m_Code, .int .i64 m_Rest, .slice m_DataA m_Datan m_Datac]]) (fn := Tryd.f17) (c := bodyOf Tryd.f17) Tryd.func17 rfl (Nat.le_of_ble_eq_true rfl)
    (Eq.mp (by kernel_rfl : weirref8_ParseND_VC m_V m_Type m_Code m_Rest m_DataA m_Datan m_Datac w R = wpc Tryd.prog callF Tryd.f17.ntmps weirref8_ParseND_H 1 (bodyOf Tryd.f17) (argEnv 0 [.agg #[.int .i64 m_V, .int .i64 m_Type, .int .i64 m_Code, .int .i64 m_Rest, .slice m_DataA m_Datan m_Datac]]) [] w (finish Tryd.prog callF Tryd.f17.results.toList R)) h)

set_option maxRecDepth 100000 in
def weirlaw8_whom_VC  (w : World) (R : Ending → World → Prop) : Prop :=
  NewVC w (.cells #[.int .i64 0, .int .i64 0, .int .u8 0, .int .u8 0, .int .u8 0, .int .u8 0, .int .u8 0, .int .u8 0, .int .u8 0, .int .u8 0, .int .u8 0, .int .u8 0, .int .u8 0, .int .u8 0, .int .u8 0, .int .u8 0, .int .u8 0, .int .u8 0, .bool false, .bool false, .bool false, .bool false, .int .u8 0, .int .u8 0, .int .u8 0, .int .u8 0, .int .u8 0, .int .u8 0] 35) fun g1 w1 =>
  SetVC w1 ⟨g1, 0, none⟩ (.int .i64 1) fun w2 =>
  SetVC w2 ⟨g1, 1, none⟩ (.int .i64 6) fun w3 =>
  SetVC w3 ⟨g1, 2, none⟩ (.int .u8 32) fun w4 =>
  SetVC w4 ⟨g1, 3, none⟩ (.int .u8 1) fun w5 =>
  SetVC w5 ⟨g1, 4, none⟩ (.int .u8 0) fun w6 =>
  SetVC w6 ⟨g1, 5, none⟩ (.int .u8 0) fun w7 =>
  SetVC w7 ⟨g1, 6, none⟩ (.int .u8 0) fun w8 =>
  SetVC w8 ⟨g1, 7, none⟩ (.int .u8 0) fun w9 =>
  SetVC w9 ⟨g1, 8, none⟩ (.int .u8 0) fun w10 =>
  SetVC w10 ⟨g1, 9, none⟩ (.int .u8 0) fun w11 =>
  SetVC w11 ⟨g1, 10, none⟩ (.int .u8 0) fun w12 =>
  SetVC w12 ⟨g1, 11, none⟩ (.int .u8 0) fun w13 =>
  SetVC w13 ⟨g1, 12, none⟩ (.int .u8 0) fun w14 =>
  SetVC w14 ⟨g1, 13, none⟩ (.int .u8 0) fun w15 =>
  SetVC w15 ⟨g1, 14, none⟩ (.int .u8 0) fun w16 =>
  SetVC w16 ⟨g1, 15, none⟩ (.int .u8 0) fun w17 =>
  SetVC w17 ⟨g1, 16, none⟩ (.int .u8 0) fun w18 =>
  SetVC w18 ⟨g1, 17, none⟩ (.int .u8 1) fun w19 =>
  SetVC w19 ⟨g1, 18, none⟩ (.bool false) fun w20 =>
  SetVC w20 ⟨g1, 19, none⟩ (.bool false) fun w21 =>
  SetVC w21 ⟨g1, 20, none⟩ (.bool false) fun w22 =>
  SetVC w22 ⟨g1, 21, none⟩ (.bool true) fun w23 =>
  SetVC w23 ⟨g1, 22, none⟩ (.int .u8 2) fun w24 =>
  SetVC w24 ⟨g1, 23, none⟩ (.int .u8 0) fun w25 =>
  SetVC w25 ⟨g1, 24, none⟩ (.int .u8 0) fun w26 =>
  SetVC w26 ⟨g1, 25, none⟩ (.int .u8 0) fun w27 =>
  SetVC w27 ⟨g1, 26, none⟩ (.int .u8 0) fun w28 =>
  SetVC w28 ⟨g1, 27, none⟩ (.int .u8 1) fun w29 =>
  ∃ res0 : Int, ∃ res1 : Int, ∃ res2 : Int, ∃ res3 : Int, ∃ res4 : Int, ∃ res5 : Int, ∃ res6 : Int, ∃ res7 : Int, ∃ res8 : Int, ∃ res9 : Int, ∃ res10 : Int, ∃ res11 : Int, ∃ res12 : Int, ∃ res13 : Int, ∃ res14 : Int, ∃ res15 : Int, ∃ res16 : Int, ∃ res17 : Int, ∃ res18 : Bool, ∃ res19 : Bool, ∃ res20 : Bool, ∃ res21 : Bool, ∃ res22 : Int, ∃ res23 : Int, ∃ res24 : Int, ∃ res25 : Int, ∃ res26 : Int, ∃ res27 : Int, CellsAt w29 ⟨g1, 0, none⟩ 0 [.int .i64 res0, .int .i64 res1, .int .u8 res2, .int .u8 res3, .int .u8 res4, .int .u8 res5, .int .u8 res6, .int .u8 res7, .int .u8 res8, .int .u8 res9, .int .u8 res10, .int .u8 res11, .int .u8 res12, .int .u8 res13, .int .u8 res14, .int .u8 res15, .int .u8 res16, .int .u8 res17, .bool res18, .bool res19, .bool res20, .bool res21, .int .u8 res22, .int .u8 res23, .int .u8 res24, .int .u8 res25, .int .u8 res26, .int .u8 res27] ∧
  R (.returned (.agg #[.int .i64 res0, .int .i64 res1, .int .u8 res2, .int .u8 res3, .int .u8 res4, .int .u8 res5, .int .u8 res6, .int .u8 res7, .int .u8 res8, .int .u8 res9, .int .u8 res10, .int .u8 res11, .int .u8 res12, .int .u8 res13, .int .u8 res14, .int .u8 res15, .int .u8 res16, .int .u8 res17, .bool res18, .bool res19, .bool res20, .bool res21, .int .u8 res22, .int .u8 res23, .int .u8 res24, .int .u8 res25, .int .u8 res26, .int .u8 res27])) w29
def weirlaw8_whom_H : Hints := []
set_option maxRecDepth 100000 in
theorem weirlaw8_whom_of  (w : World) (R : Ending → World → Prop) (h : weirlaw8_whom_VC  w R) :
    Calls Tryd.prog 46 #[] w R :=
  calls_of_wpc callOk mixedOk (H := weirlaw8_whom_H) (args := []) (fn := Tryd.f46) (c := bodyOf Tryd.f46) Tryd.func46 rfl (Nat.le_of_ble_eq_true rfl)
    (Eq.mp (by kernel_rfl : weirlaw8_whom_VC  w R = wpc Tryd.prog callF Tryd.f46.ntmps weirlaw8_whom_H 1 (bodyOf Tryd.f46) (argEnv 0 []) [] w (finish Tryd.prog callF Tryd.f46.results.toList R)) h)

set_option maxRecDepth 100000 in
def view_At_VC (bA : Option Addr) (bn : Nat) (bc : Nat) (w : World) (R : Ending → World → Prop) : Prop :=
  NewVC w (.cells #[.slice bA bn bc, .int .i64 0] 136) fun g1 w1 =>
  R (.returned (.pointer (some ⟨g1, 0, none⟩))) w1
def view_At_H : Hints := []
set_option maxRecDepth 100000 in
theorem view_At_of (bA : Option Addr) (bn : Nat) (bc : Nat) (w : World) (R : Ending → World → Prop) (h : view_At_VC bA bn bc w R) :
    Calls Tryd.prog 48 #[.slice bA bn bc] w R :=
  calls_of_wpc callOk mixedOk (H := view_At_H) (args := [.slice bA bn bc]) (fn := Tryd.f48) (c := bodyOf Tryd.f48) Tryd.func48 rfl (Nat.le_of_ble_eq_true rfl)
    (Eq.mp (by kernel_rfl : view_At_VC bA bn bc w R = wpc Tryd.prog callF Tryd.f48.ntmps view_At_H 1 (bodyOf Tryd.f48) (argEnv 0 [.slice bA bn bc]) [] w (finish Tryd.prog callF Tryd.f48.results.toList R)) h)

set_option maxRecDepth 100000 in
def view_Cursor_Skip_VC (c : Option Addr) (n : Int) (w : World) (R : Ending → World → Prop) : Prop :=
  Calls Tryd.prog 52 #[.pointer c, .int .i64 n] w (onRet (fun r_ w1 => ∃ (x0A : Option Addr) (x0n x0c : Nat), ∃ x1 : Int, r_ = .tuple #[.slice x0A x0n x0c, .int .i64 x1] ∧
  R (.returned (.int .i64 x1)) w1)
    (fun ch w1 => R (.panicked ch) w1))
def view_Cursor_Skip_H : Hints := []
set_option maxRecDepth 100000 in
theorem view_Cursor_Skip_of (c : Option Addr) (n : Int) (w : World) (R : Ending → World → Prop) (h : view_Cursor_Skip_VC c n w R) :
    Calls Tryd.prog 49 #[.pointer c, .int .i64 n] w R :=
  calls_of_wpc callOk mixedOk (H := view_Cursor_Skip_H) (args := [.pointer c, .int .i64 n]) (fn := Tryd.f49) (c := bodyOf Tryd.f49) Tryd.func49 rfl (Nat.le_of_ble_eq_true rfl)
    (Eq.mp (by kernel_rfl : view_Cursor_Skip_VC c n w R = wpc Tryd.prog callF Tryd.f49.ntmps view_Cursor_Skip_H 1 (bodyOf Tryd.f49) (argEnv 0 [.pointer c, .int .i64 n]) [] w (finish Tryd.prog callF Tryd.f49.results.toList R)) h)

set_option maxRecDepth 100000 in
def view_Cursor_Left_VC (c : Option Addr) (w : World) (R : Ending → World → Prop) : Prop :=
  DrawVC w fun S1 w1 =>
  NilVC c fun p =>
  ∃ (xA : Option Addr) (xn xc : Nat), (∀ w' : World, S1 w' → w'.cell? p = some (.slice xA xn xc)) ∧
  NilVC c fun p1 =>
  ∃ x : Int, (∀ w' : World, S1 w' → w'.cell? (p1.add 1) = some (.int .i64 x)) ∧
  R (.returned (.int .i64 (IntKind.i64.wrap ((xn : Int) - x)))) w1
def view_Cursor_Left_H : Hints := []
set_option maxRecDepth 100000 in
theorem view_Cursor_Left_of (c : Option Addr) (w : World) (R : Ending → World → Prop) (h : view_Cursor_Left_VC c w R) :
    Calls Tryd.prog 50 #[.pointer c] w R :=
  calls_of_wpc callOk mixedOk (H := view_Cursor_Left_H) (args := [.pointer c]) (fn := Tryd.f50) (c := bodyOf Tryd.f50) Tryd.func50 rfl (Nat.le_of_ble_eq_true rfl)
    (Eq.mp (by kernel_rfl : view_Cursor_Left_VC c w R = wpc Tryd.prog callF Tryd.f50.ntmps view_Cursor_Left_H 1 (bodyOf Tryd.f50) (argEnv 0 [.pointer c]) [] w (finish Tryd.prog callF Tryd.f50.results.toList R)) h)

set_option maxRecDepth 100000 in
def view_Cursor_Uint_VC (c : Option Addr) (n : Int) (w : World) (R : Ending → World → Prop) : Prop :=
  DrawVC w fun S1 w1 =>
  NilVC c fun p =>
  ∃ (xA : Option Addr) (xn xc : Nat), (∀ w' : World, S1 w' → w'.cell? p = some (.slice xA xn xc)) ∧
  NilVC c fun p1 =>
  ∃ x : Int, (∀ w' : World, S1 w' → w'.cell? (p1.add 1) = some (.int .i64 x)) ∧
  Calls Tryd.prog 85 #[.slice xA xn xc, .int .i64 x, .int .i64 n] w1 (onRet (fun r_ w2 => ∃ x0 : Int, ∃ x1 : Int, r_ = .tuple #[.int .u64 x0, .int .i64 x1] ∧
  S1 w2 ∧
  Br (decide (x1 = 0))
    (NilVC c fun p2 =>
    ∃ x2 : Int, w2.cell? (p2.add 1) = some (.int .i64 x2) ∧
    NilVC c fun p3 =>
    SetVC w2 (p3.add 1) (.int .i64 (IntKind.i64.wrap (x2 + n))) fun w3 =>
    R (.returned (.tuple #[.int .u64 x0, .int .i64 x1])) w3)
    (R (.returned (.tuple #[.int .u64 x0, .int .i64 x1])) w2))
    (fun _ _ => False))
def view_Cursor_Uint_H : Hints := []
set_option maxRecDepth 100000 in
theorem view_Cursor_Uint_of (c : Option Addr) (n : Int) (w : World) (R : Ending → World → Prop) (h : view_Cursor_Uint_VC c n w R) :
    Calls Tryd.prog 51 #[.pointer c, .int .i64 n] w R :=
  calls_of_wpc callOk mixedOk (H := view_Cursor_Uint_H) (args := [.pointer c, .int .i64 n]) (fn := Tryd.f51) (c := bodyOf Tryd.f51) Tryd.func51 rfl (Nat.le_of_ble_eq_true rfl)
    (Eq.mp (by kernel_rfl : view_Cursor_Uint_VC c n w R = wpc Tryd.prog callF Tryd.f51.ntmps view_Cursor_Uint_H 1 (bodyOf Tryd.f51) (argEnv 0 [.pointer c, .int .i64 n]) [] w (finish Tryd.prog callF Tryd.f51.results.toList R)) h)

set_option maxRecDepth 100000 in
def view_Cursor_Window_VC (c : Option Addr) (n : Int) (w : World) (R : Ending → World → Prop) : Prop :=
  DrawVC w fun S1 w1 =>
  NilVC c fun p =>
  ∃ (xA : Option Addr) (xn xc : Nat), (∀ w' : World, S1 w' → w'.cell? p = some (.slice xA xn xc)) ∧
  NilVC c fun p1 =>
  ∃ x : Int, (∀ w' : World, S1 w' → w'.cell? (p1.add 1) = some (.int .i64 x)) ∧
  Calls Tryd.prog 86 #[.slice xA xn xc, .int .i64 x, .int .i64 n] w1 (onRet (fun r_ w2 => ∃ (x0A : Option Addr) (x0n x0c : Nat), ∃ x1 : Int, r_ = .tuple #[.slice x0A x0n x0c, .int .i64 x1] ∧
  S1 w2 ∧
  Br (decide (x1 = 0))
    (NilVC c fun p2 =>
    ∃ x2 : Int, w2.cell? (p2.add 1) = some (.int .i64 x2) ∧
    NilVC c fun p3 =>
    SetVC w2 (p3.add 1) (.int .i64 (IntKind.i64.wrap (x2 + n))) fun w3 =>
    R (.returned (.tuple #[.slice x0A x0n x0c, .int .i64 x1])) w3)
    (R (.returned (.tuple #[.slice x0A x0n x0c, .int .i64 x1])) w2))
    (fun _ _ => False))
def view_Cursor_Window_H : Hints := []
set_option maxRecDepth 100000 in
theorem view_Cursor_Window_of (c : Option Addr) (n : Int) (w : World) (R : Ending → World → Prop) (h : view_Cursor_Window_VC c n w R) :
    Calls Tryd.prog 52 #[.pointer c, .int .i64 n] w R :=
  calls_of_wpc callOk mixedOk (H := view_Cursor_Window_H) (args := [.pointer c, .int .i64 n]) (fn := Tryd.f52) (c := bodyOf Tryd.f52) Tryd.func52 rfl (Nat.le_of_ble_eq_true rfl)
    (Eq.mp (by kernel_rfl : view_Cursor_Window_VC c n w R = wpc Tryd.prog callF Tryd.f52.ntmps view_Cursor_Window_H 1 (bodyOf Tryd.f52) (argEnv 0 [.pointer c, .int .i64 n]) [] w (finish Tryd.prog callF Tryd.f52.results.toList R)) h)

set_option maxRecDepth 100000 in
def view_Uint_VC (bA : Option Addr) (bn : Nat) (bc : Nat) (at_ : Int) (n : Int) (w : World) (R : Ending → World → Prop) : Prop :=
  NewVC w (.cells #[.int .u64 0] 98) fun g1 w1 =>
  NewVC w1 (.cells #[.int .i64 0] 36) fun g2 w2 =>
  Calls Tryd.prog 111 #[.int .i64 n] w2 (onRet (fun r_ w3 => ∃ x : Bool, r_ = .bool x ∧
  Br (!x)
    (SetVC w3 ⟨g1, 0, none⟩ (.int .u64 0) fun w4 =>
    SetVC w4 ⟨g2, 0, none⟩ (.int .i64 1) fun w5 =>
    ∃ res : Int, w5.cell? ⟨g1, 0, none⟩ = some (.int .u64 res) ∧
  ∃ res1 : Int, w5.cell? ⟨g2, 0, none⟩ = some (.int .i64 res1) ∧
  R (.returned (.tuple #[.int .u64 res, .int .i64 res1])) w5)
    (Calls Tryd.prog 113 #[.slice bA bn bc, .int .i64 at_, .int .i64 n] w3 (onRet (fun r_1 w6 => ∃ x1 : Int, r_1 = .int .u64 x1 ∧
  SetVC w6 ⟨g1, 0, none⟩ (.int .u64 x1) fun w7 =>
  SetVC w7 ⟨g2, 0, none⟩ (.int .i64 0) fun w8 =>
  leaveWp Tryd.prog callF (fun w9 => ∃ res2 : Int, w9.cell? ⟨g1, 0, none⟩ = some (.int .u64 res2) ∧
    ∃ res3 : Int, w9.cell? ⟨g2, 0, none⟩ = some (.int .i64 res3) ∧
    R (.returned (.tuple #[.int .u64 res2, .int .i64 res3])) w9)
    R [{ target := .fn (.func 112) #[.pointer (some ⟨g1, 0, none⟩), .pointer (some ⟨g2, 0, none⟩)], args := #[] }] .returning w8)
    (fun ch1 w6 => leaveWp Tryd.prog callF (fun w10 => ∃ res4 : Int, w10.cell? ⟨g1, 0, none⟩ = some (.int .u64 res4) ∧
    ∃ res5 : Int, w10.cell? ⟨g2, 0, none⟩ = some (.int .i64 res5) ∧
    R (.returned (.tuple #[.int .u64 res4, .int .i64 res5])) w10)
    R [{ target := .fn (.func 112) #[.pointer (some ⟨g1, 0, none⟩), .pointer (some ⟨g2, 0, none⟩)], args := #[] }] (.panicking ch1) w6))))
    (fun ch w3 => R (.panicked ch) w3))
def view_Uint_H : Hints := []
set_option maxRecDepth 100000 in
theorem view_Uint_of (bA : Option Addr) (bn : Nat) (bc : Nat) (at_ : Int) (n : Int) (w : World) (R : Ending → World → Prop) (h : view_Uint_VC bA bn bc at_ n w R) :
    Calls Tryd.prog 85 #[.slice bA bn bc, .int .i64 at_, .int .i64 n] w R :=
  calls_of_wpc callOk mixedOk (H := view_Uint_H) (args := [.slice bA bn bc, .int .i64 at_, .int .i64 n]) (fn := Tryd.f85) (c := bodyOf Tryd.f85) Tryd.func85 rfl (Nat.le_of_ble_eq_true rfl)
    (Eq.mp (by kernel_rfl : view_Uint_VC bA bn bc at_ n w R = wpc Tryd.prog callF Tryd.f85.ntmps view_Uint_H 1 (bodyOf Tryd.f85) (argEnv 0 [.slice bA bn bc, .int .i64 at_, .int .i64 n]) [] w (finish Tryd.prog callF Tryd.f85.results.toList R)) h)

set_option maxRecDepth 100000 in
def view_Window_VC (bA : Option Addr) (bn : Nat) (bc : Nat) (at_ : Int) (n : Int) (w : World) (R : Ending → World → Prop) : Prop :=
  NewVC w (.cells #[.slice none 0 0] 22) fun g1 w1 =>
  NewVC w1 (.cells #[.int .i64 0] 36) fun g2 w2 =>
  Br (decide (n < 0))
    (SetVC w2 ⟨g1, 0, none⟩ (.slice none 0 0) fun w3 =>
    SetVC w3 ⟨g2, 0, none⟩ (.int .i64 1) fun w4 =>
    ∃ (resA : Option Addr) (resn resc : Nat), w4.cell? ⟨g1, 0, none⟩ = some (.slice resA resn resc) ∧
  ∃ res : Int, w4.cell? ⟨g2, 0, none⟩ = some (.int .i64 res) ∧
  R (.returned (.tuple #[.slice resA resn resc, .int .i64 res])) w4)
    (Calls Tryd.prog 93 #[.slice bA bn bc, .int .i64 at_, .int .i64 n] w2 (onRet (fun r_ w5 => ∃ (xA : Option Addr) (xn xc : Nat), r_ = .slice xA xn xc ∧
  SetVC w5 ⟨g1, 0, none⟩ (.slice xA xn xc) fun w6 =>
  SetVC w6 ⟨g2, 0, none⟩ (.int .i64 0) fun w7 =>
  leaveWp Tryd.prog callF (fun w8 => ∃ (resA1 : Option Addr) (resn1 resc1 : Nat), w8.cell? ⟨g1, 0, none⟩ = some (.slice resA1 resn1 resc1) ∧
    ∃ res1 : Int, w8.cell? ⟨g2, 0, none⟩ = some (.int .i64 res1) ∧
    R (.returned (.tuple #[.slice resA1 resn1 resc1, .int .i64 res1])) w8)
    R [{ target := .fn (.func 114) #[.pointer (some ⟨g1, 0, none⟩), .pointer (some ⟨g2, 0, none⟩)], args := #[] }] .returning w7)
    (fun ch w5 => leaveWp Tryd.prog callF (fun w9 => ∃ (resA2 : Option Addr) (resn2 resc2 : Nat), w9.cell? ⟨g1, 0, none⟩ = some (.slice resA2 resn2 resc2) ∧
    ∃ res2 : Int, w9.cell? ⟨g2, 0, none⟩ = some (.int .i64 res2) ∧
    R (.returned (.tuple #[.slice resA2 resn2 resc2, .int .i64 res2])) w9)
    R [{ target := .fn (.func 114) #[.pointer (some ⟨g1, 0, none⟩), .pointer (some ⟨g2, 0, none⟩)], args := #[] }] (.panicking ch) w5)))
def view_Window_H : Hints := []
set_option maxRecDepth 100000 in
theorem view_Window_of (bA : Option Addr) (bn : Nat) (bc : Nat) (at_ : Int) (n : Int) (w : World) (R : Ending → World → Prop) (h : view_Window_VC bA bn bc at_ n w R) :
    Calls Tryd.prog 86 #[.slice bA bn bc, .int .i64 at_, .int .i64 n] w R :=
  calls_of_wpc callOk mixedOk (H := view_Window_H) (args := [.slice bA bn bc, .int .i64 at_, .int .i64 n]) (fn := Tryd.f86) (c := bodyOf Tryd.f86) Tryd.func86 rfl (Nat.le_of_ble_eq_true rfl)
    (Eq.mp (by kernel_rfl : view_Window_VC bA bn bc at_ n w R = wpc Tryd.prog callF Tryd.f86.ntmps view_Window_H 1 (bodyOf Tryd.f86) (argEnv 0 [.slice bA bn bc, .int .i64 at_, .int .i64 n]) [] w (finish Tryd.prog callF Tryd.f86.results.toList R)) h)

set_option maxRecDepth 100000 in
def view_sized_VC (n : Int) (w : World) (R : Ending → World → Prop) : Prop :=
  Br (decide ((1 : Int) ≤ n))
    (R (.returned (.bool (decide (n ≤ 8)))) w)
    (R (.returned (.bool false)) w)
def view_sized_H : Hints := []
set_option maxRecDepth 100000 in
theorem view_sized_of (n : Int) (w : World) (R : Ending → World → Prop) (h : view_sized_VC n w R) :
    Calls Tryd.prog 111 #[.int .i64 n] w R :=
  calls_of_wpc callOk mixedOk (H := view_sized_H) (args := [.int .i64 n]) (fn := Tryd.f111) (c := bodyOf Tryd.f111) Tryd.func111 rfl (Nat.le_of_ble_eq_true rfl)
    (Eq.mp (by kernel_rfl : view_sized_VC n w R = wpc Tryd.prog callF Tryd.f111.ntmps view_sized_H 1 (bodyOf Tryd.f111) (argEnv 0 [.int .i64 n]) [] w (finish Tryd.prog callF Tryd.f111.results.toList R)) h)

set_option maxRecDepth 100000 in
def view_number_L122 (R : Ending → World → Prop) (bA : Option Addr) (bn : Nat) (bc : Nat) (at_ : Int) (n : Int) (v_ : Int) (t20_ : Int) (w1 : World) (K122 : (Int × Int → World → Prop)) : Prop :=
  Br (decide (t20_ < n))
    (Calls Tryd.prog 94 #[.slice bA bn bc, .int .i64 (IntKind.i64.wrap (at_ + t20_))] w1 (onRet (fun r_ w2 => ∃ x : Int, r_ = .int .u8 x ∧
  K122 (bitv .or .u64 (IntKind.u64.wrap (v_ * 256)) (IntKind.u64.wrap x), IntKind.i64.wrap (t20_ + 1)) w2)
    (fun ch w2 => R (.panicked ch) w2)))
    (R (.returned (.int .u64 v_)) w1)
set_option maxRecDepth 100000 in
def view_number_VC (bA : Option Addr) (bn : Nat) (bc : Nat) (at_ : Int) (n : Int) (w : World) (R : Ending → World → Prop) : Prop :=
  Br (decide (at_ < 0))
    (R (.panicked [{ v := .iface 166 (.agg #[]), recovered := false }]) w)
    (Br (decide ((bn : Int) < at_))
    (R (.panicked [{ v := .iface 166 (.agg #[]), recovered := false }]) w)
    (LoopVC (S := Int × Int) (fun s_ w1 K122 => view_number_L122 R bA bn bc at_ n s_.1 s_.2 w1 K122) (0, 0) w))
def view_number_H : Hints := [(122, [(7, .int .u64), (20, .int .i64)])]
set_option maxRecDepth 100000 in
theorem view_number_of (bA : Option Addr) (bn : Nat) (bc : Nat) (at_ : Int) (n : Int) (w : World) (R : Ending → World → Prop) (h : view_number_VC bA bn bc at_ n w R) :
    Calls Tryd.prog 113 #[.slice bA bn bc, .int .i64 at_, .int .i64 n] w R :=
  calls_of_wpc callOk mixedOk (H := view_number_H) (args := [.slice bA bn bc, .int .i64 at_, .int .i64 n]) (fn := Tryd.f113) (c := bodyOf Tryd.f113) Tryd.func113 rfl (Nat.le_of_ble_eq_true rfl)
    (Eq.mp (by kernel_rfl : view_number_VC bA bn bc at_ n w R = wpc Tryd.prog callF Tryd.f113.ntmps view_number_H 1 (bodyOf Tryd.f113) (argEnv 0 [.slice bA bn bc, .int .i64 at_, .int .i64 n]) [] w (finish Tryd.prog callF Tryd.f113.results.toList R)) h)
end Nd
end Go.Proofs.YtjngdcilnipjcaaDoor
