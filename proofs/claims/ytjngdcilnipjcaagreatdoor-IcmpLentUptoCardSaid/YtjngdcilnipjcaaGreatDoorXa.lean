/- WRITTEN BY a program of this session (vc.py): for each Go function the condition that is enough for its contract, and the theorem that it is. -/
import Derived.Test.YtjngdcilnipjcaaGreatDoorProg
import Derived.Test.YtjngdcilnipjcaaGreatDoorBq
import Derived.Test.YtjngdcilnipjcaaGreatDoorBf
import Derived.Test.YtjngdcilnipjcaaGreatDoorBn
import Derived.Test.YtjngdcilnipjcaaGreatDoorBt
import Derived.Test.YtjngdcilnipjcaaGreatDoorBd
namespace Go.Proofs.YtjngdcilnipjcaaGreatDoor
set_option maxRecDepth 100000
open Go.Eng
namespace Nd
def weirlaw8_neighbours_VC  (w : World) (R : EWP) : Prop :=
 Calls Tryz.prog 18 #[] w (onRet (fun r_ w1 => ∃ x0 x1 x2 x3 x4 x5 x6 x7 x8 x9 x10 x11 x12 x13 x14 x15 x16 x17 x18 x19 x20 x21 x22 x23 x24 x25 x26 x27, r_ = .agg #[I6 x0, I6 x1, U8 x2, U8 x3, U8 x4, U8 x5, U8 x6, U8 x7, U8 x8, U8 x9, U8 x10, U8 x11, U8 x12, U8 x13, U8 x14, U8 x15, U8 x16, U8 x17, .bool x18, .bool x19, .bool x20, .bool x21, U8 x22, U8 x23, U8 x24, U8 x25, U8 x26, U8 x27] ∧
 Calls Tryz.prog 16 #[.agg #[I6 x0, I6 x1, U8 x2, U8 x3, U8 x4, U8 x5, U8 x6, U8 x7, U8 x8, U8 x9, U8 x10, U8 x11, U8 x12, U8 x13, U8 x14, U8 x15, U8 x16, U8 x17, .bool x18, .bool x19, .bool x20, .bool x21, U8 x22, U8 x23, U8 x24, U8 x25, U8 x26, U8 x27]] w1 (onRet (fun r_1 w2 => ∃ x00 x01 x02 x03 x04A x04n x04c x110, r_1 = .tuple #[.agg #[I6 x00, I6 x01, I6 x02, I6 x03, .slice x04A x04n x04c], I6 x110] ∧
 NewVC w2 (.cells #[I6 0, I6 0, I6 0, I6 0, .slice none 0 0] 27) fun g1 w3 => SetVC w3 ⟨g1, 0, none⟩ (I6 x00) fun w4 => SetVC w4 ⟨g1, 1, none⟩ (I6 x01) fun w5 => SetVC w5 ⟨g1, 2, none⟩ (I6 x02) fun w6 => SetVC w6 ⟨g1, 3, none⟩ (I6 x03) fun w7 =>
 SetVC w7 ⟨g1, 4, none⟩ (.slice x04A x04n x04c) fun w8 => ∃ x04 x111 x28 x31 x4A x4n x4c, CA_ w8 g1 [I6 x04, I6 x111, I6 x28, I6 x31, .slice x4A x4n x4c] ∧
 Calls Tryz.prog 26 #[.agg #[I6 x04, I6 x111, I6 x28, I6 x31, .slice x4A x4n x4c]] w8 (onRet (fun r_2 w9 => ∃ x001 x011 x021 x031 x041 x05 x06 x07 x08 x09 x010 x0111 x012 x013 x014 x015 x016 x017 x018 x019 x020 x0211 x022 x023 x024 x025 x026 x027 x112, r_2 = .tuple #[.agg #[I6 x001, I6 x011, U8 x021, U8 x031, U8 x041, U8 x05, U8 x06, U8 x07, U8 x08, U8 x09, U8 x010, U8 x0111, U8 x012, U8 x013, U8 x014, U8 x015, U8 x016, U8 x017, .bool x018, .bool x019, .bool x020, .bool x0211, U8 x022, U8 x023, U8 x024, U8 x025, U8 x026, U8 x027], I6 x112] ∧
 NewVC w9 (.cells #[I6 0, I6 0, U8 0, U8 0, U8 0, U8 0, U8 0, U8 0, U8 0, U8 0, U8 0, U8 0, U8 0, U8 0, U8 0, U8 0, U8 0, U8 0, .bool false, .bool false, .bool false, .bool false, U8 0, U8 0, U8 0, U8 0, U8 0, U8 0] 41) fun g2 w10 => SetVC w10 ⟨g2, 0, none⟩ (I6 x001) fun w11 =>
 SetVC w11 ⟨g2, 1, none⟩ (I6 x011) fun w12 => SetVC w12 ⟨g2, 2, none⟩ (U8 x021) fun w13 => SetVC w13 ⟨g2, 3, none⟩ (U8 x031) fun w14 => SetVC w14 ⟨g2, 4, none⟩ (U8 x041) fun w15 => SetVC w15 ⟨g2, 5, none⟩ (U8 x05) fun w16 => SetVC w16 ⟨g2, 6, none⟩ (U8 x06) fun w17 =>
 SetVC w17 ⟨g2, 7, none⟩ (U8 x07) fun w18 => SetVC w18 ⟨g2, 8, none⟩ (U8 x08) fun w19 => SetVC w19 ⟨g2, 9, none⟩ (U8 x09) fun w20 => SetVC w20 ⟨g2, 10, none⟩ (U8 x010) fun w21 => SetVC w21 ⟨g2, 11, none⟩ (U8 x0111) fun w22 => SetVC w22 ⟨g2, 12, none⟩ (U8 x012) fun w23 =>
 SetVC w23 ⟨g2, 13, none⟩ (U8 x013) fun w24 => SetVC w24 ⟨g2, 14, none⟩ (U8 x014) fun w25 => SetVC w25 ⟨g2, 15, none⟩ (U8 x015) fun w26 => SetVC w26 ⟨g2, 16, none⟩ (U8 x016) fun w27 => SetVC w27 ⟨g2, 17, none⟩ (U8 x017) fun w28 => SetVC w28 ⟨g2, 18, none⟩ (.bool x018) fun w29 =>
 SetVC w29 ⟨g2, 19, none⟩ (.bool x019) fun w30 => SetVC w30 ⟨g2, 20, none⟩ (.bool x020) fun w31 => SetVC w31 ⟨g2, 21, none⟩ (.bool x0211) fun w32 => SetVC w32 ⟨g2, 22, none⟩ (U8 x022) fun w33 => SetVC w33 ⟨g2, 23, none⟩ (U8 x023) fun w34 => SetVC w34 ⟨g2, 24, none⟩ (U8 x024) fun w35 =>
 SetVC w35 ⟨g2, 25, none⟩ (U8 x025) fun w36 => SetVC w36 ⟨g2, 26, none⟩ (U8 x026) fun w37 => SetVC w37 ⟨g2, 27, none⟩ (U8 x027) fun w38 => DrawVC w38 fun S1 w39 => Br (decide (x110 = 0)) (Br (decide (x112 = 0))
 (∃ x028 x113 x29 x32 x41 x51 x61 x71 x81 x91 x101 x114 x121 x131 x141 x151 x161 x171 x181 x191 x201 x211 x221 x231 x241 x251 x261 x271, (∀ w' : World, S1 w' → CellsAt w' ⟨g2, 0, none⟩ 0 [I6 x028, I6 x113, U8 x29, U8 x32, U8 x41, U8 x51, U8 x61, U8 x71, U8 x81, U8 x91, U8 x101, U8 x114, U8 x121, U8 x131, U8 x141, U8 x151, U8 x161, U8 x171, .bool x181, .bool x191, .bool x201, .bool x211, U8 x221, U8 x231, U8 x241, U8 x251, U8 x261, U8 x271]) ∧
 Calls Tryz.prog 18 #[] w39 (onRet (fun r_3 w40 => ∃ x029 x115 x210 x33 x42 x52 x62 x72 x82 x92 x102 x116 x122 x132 x142 x152 x162 x172 x182 x192 x202 x212 x222 x232 x242 x252 x262 x272, r_3 = .agg #[I6 x029, I6 x115, U8 x210, U8 x33, U8 x42, U8 x52, U8 x62, U8 x72, U8 x82, U8 x92, U8 x102, U8 x116, U8 x122, U8 x132, U8 x142, U8 x152, U8 x162, U8 x172, .bool x182, .bool x192, .bool x202, .bool x212, U8 x222, U8 x232, U8 x242, U8 x252, U8 x262, U8 x272] ∧
 S1 w40 ∧
 Br ((decide (x028 = x029)) && (((decide (x113 = x115)) && (((decide (x29 = x210)) && ((decide (x32 = x33)) && ((decide (x41 = x42)) && ((decide (x51 = x52)) && ((decide (x61 = x62)) && ((decide (x71 = x72)) && ((decide (x81 = x82)) && ((decide (x91 = x92)) && ((decide (x101 = x102)) && ((decide (x114 = x116)) && ((decide (x121 = x122)) && ((decide (x131 = x132)) && ((decide (x141 = x142)) && ((decide (x151 = x152)) && ((decide (x161 = x162)) && ((decide (x171 = x172)) && true)))))))))))))))) && true)) && ((x181 == x182) && ((x191 == x192) && ((x201 == x202) && ((x211 == x212) && (((decide (x221 = x222)) && ((decide (x231 = x232)) && ((decide (x241 = x242)) && ((decide (x251 = x252)) && ((decide (x261 = x262)) && ((decide (x271 = x272)) && true)))))) && true)))))))
 (∃ xA xn xc, (∀ w' : World, S1 w' → w'.cell? ⟨g1, 4, none⟩ = some (.slice xA xn xc)) ∧ Br (decide ((xn : Int) = 24)) (∃ x, (∀ w' : World, S1 w' → w'.cell? ⟨g1, 1, none⟩ = some (I6 x)) ∧ Br (decide (x = 135)) (∃ x30, (∀ w' : World, S1 w' → w'.cell? ⟨g1, 0, none⟩ = some (I6 x30)) ∧
 R (.returned (.bool (decide (x30 = 6)))) w40) (R (.returned (.bool false)) w40)) (R (.returned (.bool false)) w40)) (R (.returned (.bool false)) w40)) (fun _ _ => False))) (R (.returned (.bool false)) w39)) (R (.returned (.bool false)) w39)) (pn_ R))) (pn_ R))) (pn_ R))
def weirlaw8_neighbours_H : Hints := []
theorem weirlaw8_neighbours_of  (w : World) (R : EWP) (h_ : weirlaw8_neighbours_VC  w R) : Calls Tryz.prog 6 #[] w R := calls_of_wpc callOk mixedOk (H := weirlaw8_neighbours_H) (c := bodyOf Tryz.f6) Tryz.func6 rfl (nb_ rfl) (Eq.mp (by kernel_rfl) h_)
def weirlaw8_whom_VC  (w : World) (R : EWP) : Prop := NewVC w (.cells #[I6 0, I6 0, U8 0, U8 0, U8 0, U8 0, U8 0, U8 0, U8 0, U8 0, U8 0, U8 0, U8 0, U8 0, U8 0, U8 0, U8 0, U8 0, .bool false, .bool false, .bool false, .bool false, U8 0, U8 0, U8 0, U8 0, U8 0, U8 0] 41) fun g1 w1 =>
 SetVC w1 ⟨g1, 0, none⟩ (I6 1) fun w2 => SetVC w2 ⟨g1, 1, none⟩ (I6 6) fun w3 => SetVC w3 ⟨g1, 2, none⟩ (U8 32) fun w4 => SetVC w4 ⟨g1, 3, none⟩ (U8 1) fun w5 => SetVC w5 ⟨g1, 4, none⟩ (U8 0) fun w6 => SetVC w6 ⟨g1, 5, none⟩ (U8 0) fun w7 => SetVC w7 ⟨g1, 6, none⟩ (U8 0) fun w8 =>
 SetVC w8 ⟨g1, 7, none⟩ (U8 0) fun w9 => SetVC w9 ⟨g1, 8, none⟩ (U8 0) fun w10 => SetVC w10 ⟨g1, 9, none⟩ (U8 0) fun w11 => SetVC w11 ⟨g1, 10, none⟩ (U8 0) fun w12 => SetVC w12 ⟨g1, 11, none⟩ (U8 0) fun w13 => SetVC w13 ⟨g1, 12, none⟩ (U8 0) fun w14 => SetVC w14 ⟨g1, 13, none⟩ (U8 0) fun w15 =>
 SetVC w15 ⟨g1, 14, none⟩ (U8 0) fun w16 => SetVC w16 ⟨g1, 15, none⟩ (U8 0) fun w17 => SetVC w17 ⟨g1, 16, none⟩ (U8 0) fun w18 => SetVC w18 ⟨g1, 17, none⟩ (U8 1) fun w19 => SetVC w19 ⟨g1, 18, none⟩ (.bool false) fun w20 => SetVC w20 ⟨g1, 19, none⟩ (.bool false) fun w21 =>
 SetVC w21 ⟨g1, 20, none⟩ (.bool false) fun w22 => SetVC w22 ⟨g1, 21, none⟩ (.bool true) fun w23 => SetVC w23 ⟨g1, 22, none⟩ (U8 2) fun w24 => SetVC w24 ⟨g1, 23, none⟩ (U8 0) fun w25 => SetVC w25 ⟨g1, 24, none⟩ (U8 0) fun w26 => SetVC w26 ⟨g1, 25, none⟩ (U8 0) fun w27 =>
 SetVC w27 ⟨g1, 26, none⟩ (U8 0) fun w28 => SetVC w28 ⟨g1, 27, none⟩ (U8 1) fun w29 =>
 ∃ res0 res1 res2 res3 res4 res5 res6 res7 res8 res9 res10 res11 res12 res13 res14 res15 res16 res17 res18 res19 res20 res21 res22 res23 res24 res25 res26 res27, CA_ w29 g1 [I6 res0, I6 res1, U8 res2, U8 res3, U8 res4, U8 res5, U8 res6, U8 res7, U8 res8, U8 res9, U8 res10, U8 res11, U8 res12, U8 res13, U8 res14, U8 res15, U8 res16, U8 res17, .bool res18, .bool res19, .bool res20, .bool res21, U8 res22, U8 res23, U8 res24, U8 res25, U8 res26, U8 res27] ∧
 R (.returned (.agg #[I6 res0, I6 res1, U8 res2, U8 res3, U8 res4, U8 res5, U8 res6, U8 res7, U8 res8, U8 res9, U8 res10, U8 res11, U8 res12, U8 res13, U8 res14, U8 res15, U8 res16, U8 res17, .bool res18, .bool res19, .bool res20, .bool res21, U8 res22, U8 res23, U8 res24, U8 res25, U8 res26, U8 res27])) w29
def weirlaw8_whom_H : Hints := []
theorem weirlaw8_whom_of  (w : World) (R : EWP) (h_ : weirlaw8_whom_VC  w R) : Calls Tryz.prog 18 #[] w R := calls_of_wpc callOk mixedOk (H := weirlaw8_whom_H) (c := bodyOf Tryz.f18) Tryz.func18 rfl (nb_ rfl) (Eq.mp (by kernel_rfl) h_)
def icmp_ParseND_L4092 (R : EWP) (g2 g3 : Nat) (x24 : Option Addr)  (w239 : World) (K4092 : (Unit → World → Prop)) : Prop := Calls Tryz.prog 57 #[.pointer x24] w239 (onRet (fun r_4 w240 => ∃ x26, r_4 = I6 x26 ∧ Br (decide ((0 : Int) < x26))
 (Calls Tryz.prog 58 #[.pointer x24, I6 1] w240 (onRet (fun r_5 w241 => ∃ x03 x110, r_5 = .tuple #[.int .u64 x03, I6 x110] ∧ Calls Tryz.prog 58 #[.pointer x24, I6 1] w241 (onRet (fun r_6 w242 => ∃ x04 x113, r_6 = .tuple #[.int .u64 x04, I6 x113] ∧ Br (decide (x113 ≠ 0))
 (SetVC w242 ⟨g2, 0, none⟩ (I6 0) fun w243 => SetVC w243 ⟨g2, 1, none⟩ (I6 0) fun w244 => SetVC w244 ⟨g2, 2, none⟩ (U8 0) fun w245 => SetVC w245 ⟨g2, 3, none⟩ (U8 0) fun w246 => SetVC w246 ⟨g2, 4, none⟩ (U8 0) fun w247 => SetVC w247 ⟨g2, 5, none⟩ (U8 0) fun w248 =>
 SetVC w248 ⟨g2, 6, none⟩ (U8 0) fun w249 => SetVC w249 ⟨g2, 7, none⟩ (U8 0) fun w250 => SetVC w250 ⟨g2, 8, none⟩ (U8 0) fun w251 => SetVC w251 ⟨g2, 9, none⟩ (U8 0) fun w252 => SetVC w252 ⟨g2, 10, none⟩ (U8 0) fun w253 => SetVC w253 ⟨g2, 11, none⟩ (U8 0) fun w254 =>
 SetVC w254 ⟨g2, 12, none⟩ (U8 0) fun w255 => SetVC w255 ⟨g2, 13, none⟩ (U8 0) fun w256 => SetVC w256 ⟨g2, 14, none⟩ (U8 0) fun w257 => SetVC w257 ⟨g2, 15, none⟩ (U8 0) fun w258 => SetVC w258 ⟨g2, 16, none⟩ (U8 0) fun w259 => SetVC w259 ⟨g2, 17, none⟩ (U8 0) fun w260 =>
 SetVC w260 ⟨g2, 18, none⟩ (.bool false) fun w261 => SetVC w261 ⟨g2, 19, none⟩ (.bool false) fun w262 => SetVC w262 ⟨g2, 20, none⟩ (.bool false) fun w263 => SetVC w263 ⟨g2, 21, none⟩ (.bool false) fun w264 => SetVC w264 ⟨g2, 22, none⟩ (U8 0) fun w265 => SetVC w265 ⟨g2, 23, none⟩ (U8 0) fun w266 =>
 SetVC w266 ⟨g2, 24, none⟩ (U8 0) fun w267 => SetVC w267 ⟨g2, 25, none⟩ (U8 0) fun w268 => SetVC w268 ⟨g2, 26, none⟩ (U8 0) fun w269 => SetVC w269 ⟨g2, 27, none⟩ (U8 0) fun w270 =>
 ∃ res07 res127 res220 res37 res47 res57 res67 res77 res87 res97 res107 res1111 res128 res137 res147 res157 res167 res177 res187 res197 res207 res2110 res227 res237 res247 res257 res267 res277, CA_ w270 g2 [I6 res07, I6 res127, U8 res220, U8 res37, U8 res47, U8 res57, U8 res67, U8 res77, U8 res87, U8 res97, U8 res107, U8 res1111, U8 res128, U8 res137, U8 res147, U8 res157, U8 res167, U8 res177, .bool res187, .bool res197, .bool res207, .bool res2110, U8 res227, U8 res237, U8 res247, U8 res257, U8 res267, U8 res277] ∧
 R (.returned (.tuple #[.agg #[I6 res07, I6 res127, U8 res220, U8 res37, U8 res47, U8 res57, U8 res67, U8 res77, U8 res87, U8 res97, U8 res107, U8 res1111, U8 res128, U8 res137, U8 res147, U8 res157, U8 res167, U8 res177, .bool res187, .bool res197, .bool res207, .bool res2110, U8 res227, U8 res237, U8 res247, U8 res257, U8 res267, U8 res277], I6 85])) w270)
 (Br (decide (x04 = 0)) (SetVC w242 ⟨g2, 0, none⟩ (I6 0) fun w271 => SetVC w271 ⟨g2, 1, none⟩ (I6 0) fun w272 => SetVC w272 ⟨g2, 2, none⟩ (U8 0) fun w273 => SetVC w273 ⟨g2, 3, none⟩ (U8 0) fun w274 => SetVC w274 ⟨g2, 4, none⟩ (U8 0) fun w275 => SetVC w275 ⟨g2, 5, none⟩ (U8 0) fun w276 =>
 SetVC w276 ⟨g2, 6, none⟩ (U8 0) fun w277 => SetVC w277 ⟨g2, 7, none⟩ (U8 0) fun w278 => SetVC w278 ⟨g2, 8, none⟩ (U8 0) fun w279 => SetVC w279 ⟨g2, 9, none⟩ (U8 0) fun w280 => SetVC w280 ⟨g2, 10, none⟩ (U8 0) fun w281 => SetVC w281 ⟨g2, 11, none⟩ (U8 0) fun w282 =>
 SetVC w282 ⟨g2, 12, none⟩ (U8 0) fun w283 => SetVC w283 ⟨g2, 13, none⟩ (U8 0) fun w284 => SetVC w284 ⟨g2, 14, none⟩ (U8 0) fun w285 => SetVC w285 ⟨g2, 15, none⟩ (U8 0) fun w286 => SetVC w286 ⟨g2, 16, none⟩ (U8 0) fun w287 => SetVC w287 ⟨g2, 17, none⟩ (U8 0) fun w288 =>
 SetVC w288 ⟨g2, 18, none⟩ (.bool false) fun w289 => SetVC w289 ⟨g2, 19, none⟩ (.bool false) fun w290 => SetVC w290 ⟨g2, 20, none⟩ (.bool false) fun w291 => SetVC w291 ⟨g2, 21, none⟩ (.bool false) fun w292 => SetVC w292 ⟨g2, 22, none⟩ (U8 0) fun w293 => SetVC w293 ⟨g2, 23, none⟩ (U8 0) fun w294 =>
 SetVC w294 ⟨g2, 24, none⟩ (U8 0) fun w295 => SetVC w295 ⟨g2, 25, none⟩ (U8 0) fun w296 => SetVC w296 ⟨g2, 26, none⟩ (U8 0) fun w297 => SetVC w297 ⟨g2, 27, none⟩ (U8 0) fun w298 =>
 ∃ res08 res129 res228 res38 res48 res58 res68 res78 res88 res98 res108 res1112 res1210 res138 res148 res158 res168 res178 res188 res198 res208 res2111 res229 res238 res248 res258 res268 res278, CA_ w298 g2 [I6 res08, I6 res129, U8 res228, U8 res38, U8 res48, U8 res58, U8 res68, U8 res78, U8 res88, U8 res98, U8 res108, U8 res1112, U8 res1210, U8 res138, U8 res148, U8 res158, U8 res168, U8 res178, .bool res188, .bool res198, .bool res208, .bool res2111, U8 res229, U8 res238, U8 res248, U8 res258, U8 res268, U8 res278] ∧
 R (.returned (.tuple #[.agg #[I6 res08, I6 res129, U8 res228, U8 res38, U8 res48, U8 res58, U8 res68, U8 res78, U8 res88, U8 res98, U8 res108, U8 res1112, U8 res1210, U8 res138, U8 res148, U8 res158, U8 res168, U8 res178, .bool res188, .bool res198, .bool res208, .bool res2111, U8 res229, U8 res238, U8 res248, U8 res258, U8 res268, U8 res278], I6 85])) w298)
 (Calls Tryz.prog 59 #[.pointer x24, I6 (IntKind.i64.wrap (IntKind.i64.wrap (8 * IntKind.i64.wrap x04) - 2))] w242 (onRet (fun r_7 w299 => ∃ x0A x0n x0c x114, r_7 = .tuple #[.slice x0A x0n x0c, I6 x114] ∧ Br (decide (x114 ≠ 0)) (SetVC w299 ⟨g2, 0, none⟩ (I6 0) fun w300 =>
 SetVC w300 ⟨g2, 1, none⟩ (I6 0) fun w301 => SetVC w301 ⟨g2, 2, none⟩ (U8 0) fun w302 => SetVC w302 ⟨g2, 3, none⟩ (U8 0) fun w303 => SetVC w303 ⟨g2, 4, none⟩ (U8 0) fun w304 => SetVC w304 ⟨g2, 5, none⟩ (U8 0) fun w305 => SetVC w305 ⟨g2, 6, none⟩ (U8 0) fun w306 =>
 SetVC w306 ⟨g2, 7, none⟩ (U8 0) fun w307 => SetVC w307 ⟨g2, 8, none⟩ (U8 0) fun w308 => SetVC w308 ⟨g2, 9, none⟩ (U8 0) fun w309 => SetVC w309 ⟨g2, 10, none⟩ (U8 0) fun w310 => SetVC w310 ⟨g2, 11, none⟩ (U8 0) fun w311 => SetVC w311 ⟨g2, 12, none⟩ (U8 0) fun w312 =>
 SetVC w312 ⟨g2, 13, none⟩ (U8 0) fun w313 => SetVC w313 ⟨g2, 14, none⟩ (U8 0) fun w314 => SetVC w314 ⟨g2, 15, none⟩ (U8 0) fun w315 => SetVC w315 ⟨g2, 16, none⟩ (U8 0) fun w316 => SetVC w316 ⟨g2, 17, none⟩ (U8 0) fun w317 => SetVC w317 ⟨g2, 18, none⟩ (.bool false) fun w318 =>
 SetVC w318 ⟨g2, 19, none⟩ (.bool false) fun w319 => SetVC w319 ⟨g2, 20, none⟩ (.bool false) fun w320 => SetVC w320 ⟨g2, 21, none⟩ (.bool false) fun w321 => SetVC w321 ⟨g2, 22, none⟩ (U8 0) fun w322 => SetVC w322 ⟨g2, 23, none⟩ (U8 0) fun w323 => SetVC w323 ⟨g2, 24, none⟩ (U8 0) fun w324 =>
 SetVC w324 ⟨g2, 25, none⟩ (U8 0) fun w325 => SetVC w325 ⟨g2, 26, none⟩ (U8 0) fun w326 => SetVC w326 ⟨g2, 27, none⟩ (U8 0) fun w327 =>
 ∃ res09 res130 res230 res39 res49 res59 res69 res79 res89 res99 res109 res1113 res1211 res139 res149 res159 res169 res179 res189 res199 res209 res2112 res2210 res239 res249 res259 res269 res279, CA_ w327 g2 [I6 res09, I6 res130, U8 res230, U8 res39, U8 res49, U8 res59, U8 res69, U8 res79, U8 res89, U8 res99, U8 res109, U8 res1113, U8 res1211, U8 res139, U8 res149, U8 res159, U8 res169, U8 res179, .bool res189, .bool res199, .bool res209, .bool res2112, U8 res2210, U8 res239, U8 res249, U8 res259, U8 res269, U8 res279] ∧
 R (.returned (.tuple #[.agg #[I6 res09, I6 res130, U8 res230, U8 res39, U8 res49, U8 res59, U8 res69, U8 res79, U8 res89, U8 res99, U8 res109, U8 res1113, U8 res1211, U8 res139, U8 res149, U8 res159, U8 res169, U8 res179, .bool res189, .bool res199, .bool res209, .bool res2112, U8 res2210, U8 res239, U8 res249, U8 res259, U8 res269, U8 res279], I6 85])) w327)
 (∃ x27, w299.cell? (ad_ g3 0) = some (I6 x27) ∧ Br (decide (IntKind.i64.wrap x03 ≠ x27)) (K4092 () w299) (Br (decide (x04 ≠ 1)) (SetVC w299 ⟨g2, 0, none⟩ (I6 0) fun w328 => SetVC w328 ⟨g2, 1, none⟩ (I6 0) fun w329 => SetVC w329 ⟨g2, 2, none⟩ (U8 0) fun w330 =>
 SetVC w330 ⟨g2, 3, none⟩ (U8 0) fun w331 => SetVC w331 ⟨g2, 4, none⟩ (U8 0) fun w332 => SetVC w332 ⟨g2, 5, none⟩ (U8 0) fun w333 => SetVC w333 ⟨g2, 6, none⟩ (U8 0) fun w334 => SetVC w334 ⟨g2, 7, none⟩ (U8 0) fun w335 => SetVC w335 ⟨g2, 8, none⟩ (U8 0) fun w336 =>
 SetVC w336 ⟨g2, 9, none⟩ (U8 0) fun w337 => SetVC w337 ⟨g2, 10, none⟩ (U8 0) fun w338 => SetVC w338 ⟨g2, 11, none⟩ (U8 0) fun w339 => SetVC w339 ⟨g2, 12, none⟩ (U8 0) fun w340 => SetVC w340 ⟨g2, 13, none⟩ (U8 0) fun w341 => SetVC w341 ⟨g2, 14, none⟩ (U8 0) fun w342 =>
 SetVC w342 ⟨g2, 15, none⟩ (U8 0) fun w343 => SetVC w343 ⟨g2, 16, none⟩ (U8 0) fun w344 => SetVC w344 ⟨g2, 17, none⟩ (U8 0) fun w345 => SetVC w345 ⟨g2, 18, none⟩ (.bool false) fun w346 => SetVC w346 ⟨g2, 19, none⟩ (.bool false) fun w347 => SetVC w347 ⟨g2, 20, none⟩ (.bool false) fun w348 =>
 SetVC w348 ⟨g2, 21, none⟩ (.bool false) fun w349 => SetVC w349 ⟨g2, 22, none⟩ (U8 0) fun w350 => SetVC w350 ⟨g2, 23, none⟩ (U8 0) fun w351 => SetVC w351 ⟨g2, 24, none⟩ (U8 0) fun w352 => SetVC w352 ⟨g2, 25, none⟩ (U8 0) fun w353 => SetVC w353 ⟨g2, 26, none⟩ (U8 0) fun w354 =>
 SetVC w354 ⟨g2, 27, none⟩ (U8 0) fun w355 =>
 ∃ res010 res140 res240 res310 res410 res510 res610 res710 res810 res910 res1010 res1114 res1212 res1310 res1410 res1510 res1610 res1710 res1810 res1910 res2010 res2113 res2211 res2310 res2410 res2510 res2610 res2710, CA_ w355 g2 [I6 res010, I6 res140, U8 res240, U8 res310, U8 res410, U8 res510, U8 res610, U8 res710, U8 res810, U8 res910, U8 res1010, U8 res1114, U8 res1212, U8 res1310, U8 res1410, U8 res1510, U8 res1610, U8 res1710, .bool res1810, .bool res1910, .bool res2010, .bool res2113, U8 res2211, U8 res2310, U8 res2410, U8 res2510, U8 res2610, U8 res2710] ∧
 R (.returned (.tuple #[.agg #[I6 res010, I6 res140, U8 res240, U8 res310, U8 res410, U8 res510, U8 res610, U8 res710, U8 res810, U8 res910, U8 res1010, U8 res1114, U8 res1212, U8 res1310, U8 res1410, U8 res1510, U8 res1610, U8 res1710, .bool res1810, .bool res1910, .bool res2010, .bool res2113, U8 res2211, U8 res2310, U8 res2410, U8 res2510, U8 res2610, U8 res2710], I6 85])) w355)
 (∃ x28, w299.cell? (ad_ g3 21) = some (.bool x28) ∧ Br (!x28) (DrawVC w299 fun S2 w356 => 6 ≤ x0n ∧ NilVC x0A fun p1 => ∃ x05 x115 x29 x33 x43 x53, (∀ w' : World, S2 w' → CellsAt w' p1 0 [U8 x05, U8 x115, U8 x29, U8 x33, U8 x43, U8 x53]) ∧ SetVC w356 ⟨g3, 21, none⟩ (.bool true) fun w357 =>
 S2 w357 ∧ SetVC w357 ⟨g3, 22, none⟩ (U8 x05) fun w358 => SetVC w358 ⟨g3, 23, none⟩ (U8 x115) fun w359 => SetVC w359 ⟨g3, 24, none⟩ (U8 x29) fun w360 => SetVC w360 ⟨g3, 25, none⟩ (U8 x33) fun w361 => SetVC w361 ⟨g3, 26, none⟩ (U8 x43) fun w362 => SetVC w362 ⟨g3, 27, none⟩ (U8 x53) fun w363 =>
 K4092 () w363) (K4092 () w299))))) (pn_ R))))) (pn_ R))) (pn_ R)))
 (∃ x06 x116 x210 x34 x44 x54 x63 x73 x83 x92 x102 x117 x122 x132 x142 x152 x162 x171 x181 x191 x201 x211 x221 x231 x241 x251 x261 x271, CA_ w240 g3 [I6 x06, I6 x116, U8 x210, U8 x34, U8 x44, U8 x54, U8 x63, U8 x73, U8 x83, U8 x92, U8 x102, U8 x117, U8 x122, U8 x132, U8 x142, U8 x152, U8 x162, U8 x171, .bool x181, .bool x191, .bool x201, .bool x211, U8 x221, U8 x231, U8 x241, U8 x251, U8 x261, U8 x271] ∧
 SetVC w240 ⟨g2, 0, none⟩ (I6 x06) fun w364 => SetVC w364 ⟨g2, 1, none⟩ (I6 x116) fun w365 => SetVC w365 ⟨g2, 2, none⟩ (U8 x210) fun w366 => SetVC w366 ⟨g2, 3, none⟩ (U8 x34) fun w367 => SetVC w367 ⟨g2, 4, none⟩ (U8 x44) fun w368 => SetVC w368 ⟨g2, 5, none⟩ (U8 x54) fun w369 =>
 SetVC w369 ⟨g2, 6, none⟩ (U8 x63) fun w370 => SetVC w370 ⟨g2, 7, none⟩ (U8 x73) fun w371 => SetVC w371 ⟨g2, 8, none⟩ (U8 x83) fun w372 => SetVC w372 ⟨g2, 9, none⟩ (U8 x92) fun w373 => SetVC w373 ⟨g2, 10, none⟩ (U8 x102) fun w374 => SetVC w374 ⟨g2, 11, none⟩ (U8 x117) fun w375 =>
 SetVC w375 ⟨g2, 12, none⟩ (U8 x122) fun w376 => SetVC w376 ⟨g2, 13, none⟩ (U8 x132) fun w377 => SetVC w377 ⟨g2, 14, none⟩ (U8 x142) fun w378 => SetVC w378 ⟨g2, 15, none⟩ (U8 x152) fun w379 => SetVC w379 ⟨g2, 16, none⟩ (U8 x162) fun w380 => SetVC w380 ⟨g2, 17, none⟩ (U8 x171) fun w381 =>
 SetVC w381 ⟨g2, 18, none⟩ (.bool x181) fun w382 => SetVC w382 ⟨g2, 19, none⟩ (.bool x191) fun w383 => SetVC w383 ⟨g2, 20, none⟩ (.bool x201) fun w384 => SetVC w384 ⟨g2, 21, none⟩ (.bool x211) fun w385 => SetVC w385 ⟨g2, 22, none⟩ (U8 x221) fun w386 =>
 SetVC w386 ⟨g2, 23, none⟩ (U8 x231) fun w387 => SetVC w387 ⟨g2, 24, none⟩ (U8 x241) fun w388 => SetVC w388 ⟨g2, 25, none⟩ (U8 x251) fun w389 => SetVC w389 ⟨g2, 26, none⟩ (U8 x261) fun w390 => SetVC w390 ⟨g2, 27, none⟩ (U8 x271) fun w391 =>
 ∃ res011 res150 res250 res311 res411 res511 res611 res711 res811 res911 res1011 res1115 res1213 res1311 res1411 res1511 res1611 res1711 res1811 res1911 res2011 res2114 res2212 res2311 res2411 res2511 res2611 res2711, CA_ w391 g2 [I6 res011, I6 res150, U8 res250, U8 res311, U8 res411, U8 res511, U8 res611, U8 res711, U8 res811, U8 res911, U8 res1011, U8 res1115, U8 res1213, U8 res1311, U8 res1411, U8 res1511, U8 res1611, U8 res1711, .bool res1811, .bool res1911, .bool res2011, .bool res2114, U8 res2212, U8 res2311, U8 res2411, U8 res2511, U8 res2611, U8 res2711] ∧
 R (.returned (.tuple #[.agg #[I6 res011, I6 res150, U8 res250, U8 res311, U8 res411, U8 res511, U8 res611, U8 res711, U8 res811, U8 res911, U8 res1011, U8 res1115, U8 res1213, U8 res1311, U8 res1411, U8 res1511, U8 res1611, U8 res1711, .bool res1811, .bool res1911, .bool res2011, .bool res2114, U8 res2212, U8 res2311, U8 res2411, U8 res2511, U8 res2611, U8 res2711], I6 0])) w391))
 (pn_ R))
def icmp_ParseND_J127 (R : EWP) (g1 g2 g3 : Nat)  (w236 : World) : Prop := ∃ xA2 xn2 xc2, w236.cell? (ad_ g1 4) = some (.slice xA2 xn2 xc2) ∧ Calls Tryz.prog 55 #[.slice xA2 xn2 xc2] w236 (onRet (fun r_2 w237 => ∃ x24 : Option Addr, r_2 = .pointer x24 ∧
 Calls Tryz.prog 56 #[.pointer x24, I6 16] w237 (onRet (fun r_3 w238 => ∃ x25, r_3 = I6 x25 ∧ LoopVC (S := Unit) (fun _ w239 K4092 => icmp_ParseND_L4092 R g2 g3 x24 w239 K4092) () w238) (pn_ R))) (pn_ R))
def icmp_ParseND_J7 (R : EWP) (g1 g2 : Nat)  (w144 : World) : Prop := ∃ xA xn xc, w144.cell? (ad_ g1 4) = some (.slice xA xn xc) ∧ Br (decide ((xn : Int) < 16)) (SetVC w144 ⟨g2, 0, none⟩ (I6 0) fun w145 => SetVC w145 ⟨g2, 1, none⟩ (I6 0) fun w146 => SetVC w146 ⟨g2, 2, none⟩ (U8 0) fun w147 =>
 SetVC w147 ⟨g2, 3, none⟩ (U8 0) fun w148 => SetVC w148 ⟨g2, 4, none⟩ (U8 0) fun w149 => SetVC w149 ⟨g2, 5, none⟩ (U8 0) fun w150 => SetVC w150 ⟨g2, 6, none⟩ (U8 0) fun w151 => SetVC w151 ⟨g2, 7, none⟩ (U8 0) fun w152 => SetVC w152 ⟨g2, 8, none⟩ (U8 0) fun w153 =>
 SetVC w153 ⟨g2, 9, none⟩ (U8 0) fun w154 => SetVC w154 ⟨g2, 10, none⟩ (U8 0) fun w155 => SetVC w155 ⟨g2, 11, none⟩ (U8 0) fun w156 => SetVC w156 ⟨g2, 12, none⟩ (U8 0) fun w157 => SetVC w157 ⟨g2, 13, none⟩ (U8 0) fun w158 => SetVC w158 ⟨g2, 14, none⟩ (U8 0) fun w159 =>
 SetVC w159 ⟨g2, 15, none⟩ (U8 0) fun w160 => SetVC w160 ⟨g2, 16, none⟩ (U8 0) fun w161 => SetVC w161 ⟨g2, 17, none⟩ (U8 0) fun w162 => SetVC w162 ⟨g2, 18, none⟩ (.bool false) fun w163 => SetVC w163 ⟨g2, 19, none⟩ (.bool false) fun w164 => SetVC w164 ⟨g2, 20, none⟩ (.bool false) fun w165 =>
 SetVC w165 ⟨g2, 21, none⟩ (.bool false) fun w166 => SetVC w166 ⟨g2, 22, none⟩ (U8 0) fun w167 => SetVC w167 ⟨g2, 23, none⟩ (U8 0) fun w168 => SetVC w168 ⟨g2, 24, none⟩ (U8 0) fun w169 => SetVC w169 ⟨g2, 25, none⟩ (U8 0) fun w170 => SetVC w170 ⟨g2, 26, none⟩ (U8 0) fun w171 =>
 SetVC w171 ⟨g2, 27, none⟩ (U8 0) fun w172 =>
 ∃ res05 res118 res216 res35 res45 res55 res65 res75 res85 res95 res105 res119 res125 res135 res145 res155 res165 res175 res185 res195 res205 res217 res225 res235 res245 res255 res265 res275, CA_ w172 g2 [I6 res05, I6 res118, U8 res216, U8 res35, U8 res45, U8 res55, U8 res65, U8 res75, U8 res85, U8 res95, U8 res105, U8 res119, U8 res125, U8 res135, U8 res145, U8 res155, U8 res165, U8 res175, .bool res185, .bool res195, .bool res205, .bool res217, U8 res225, U8 res235, U8 res245, U8 res255, U8 res265, U8 res275] ∧
 R (.returned (.tuple #[.agg #[I6 res05, I6 res118, U8 res216, U8 res35, U8 res45, U8 res55, U8 res65, U8 res75, U8 res85, U8 res95, U8 res105, U8 res119, U8 res125, U8 res135, U8 res145, U8 res155, U8 res165, U8 res175, .bool res185, .bool res195, .bool res205, .bool res217, U8 res225, U8 res235, U8 res245, U8 res255, U8 res265, U8 res275], I6 84])) w172)
 (∃ xA1 xn1 xc1, w144.cell? (ad_ g1 4) = some (.slice xA1 xn1 xc1) ∧ SliceVC xA1 xn1 xc1 1 none (some 16) none fun sA sn _sc => 16 ≤ sn ∧ NilVC sA fun p =>
 ∃ x01 x11 x21 x31 x41 x51 x61 x71 x81 x9 x10 x111 x12 x13 x14 x15, CellsAt w144 p 0 [U8 x01, U8 x11, U8 x21, U8 x31, U8 x41, U8 x51, U8 x61, U8 x71, U8 x81, U8 x9, U8 x10, U8 x111, U8 x12, U8 x13, U8 x14, U8 x15] ∧
 NewVC w144 (.cells #[I6 0, I6 0, U8 0, U8 0, U8 0, U8 0, U8 0, U8 0, U8 0, U8 0, U8 0, U8 0, U8 0, U8 0, U8 0, U8 0, U8 0, U8 0, .bool false, .bool false, .bool false, .bool false, U8 0, U8 0, U8 0, U8 0, U8 0, U8 0] 41) fun g3 w173 => SetVC w173 ⟨g3, 0, none⟩ (I6 1) fun w174 =>
 SetVC w174 ⟨g3, 1, none⟩ (I6 6) fun w175 => SetVC w175 ⟨g3, 2, none⟩ (U8 x01) fun w176 => SetVC w176 ⟨g3, 3, none⟩ (U8 x11) fun w177 => SetVC w177 ⟨g3, 4, none⟩ (U8 x21) fun w178 => SetVC w178 ⟨g3, 5, none⟩ (U8 x31) fun w179 => SetVC w179 ⟨g3, 6, none⟩ (U8 x41) fun w180 =>
 SetVC w180 ⟨g3, 7, none⟩ (U8 x51) fun w181 => SetVC w181 ⟨g3, 8, none⟩ (U8 x61) fun w182 => SetVC w182 ⟨g3, 9, none⟩ (U8 x71) fun w183 => SetVC w183 ⟨g3, 10, none⟩ (U8 x81) fun w184 => SetVC w184 ⟨g3, 11, none⟩ (U8 x9) fun w185 => SetVC w185 ⟨g3, 12, none⟩ (U8 x10) fun w186 =>
 SetVC w186 ⟨g3, 13, none⟩ (U8 x111) fun w187 => SetVC w187 ⟨g3, 14, none⟩ (U8 x12) fun w188 => SetVC w188 ⟨g3, 15, none⟩ (U8 x13) fun w189 => SetVC w189 ⟨g3, 16, none⟩ (U8 x14) fun w190 => SetVC w190 ⟨g3, 17, none⟩ (U8 x15) fun w191 => SetVC w191 ⟨g3, 18, none⟩ (.bool false) fun w192 =>
 SetVC w192 ⟨g3, 19, none⟩ (.bool false) fun w193 => SetVC w193 ⟨g3, 20, none⟩ (.bool false) fun w194 => SetVC w194 ⟨g3, 21, none⟩ (.bool false) fun w195 => SetVC w195 ⟨g3, 22, none⟩ (U8 0) fun w196 => SetVC w196 ⟨g3, 23, none⟩ (U8 0) fun w197 => SetVC w197 ⟨g3, 24, none⟩ (U8 0) fun w198 =>
 SetVC w198 ⟨g3, 25, none⟩ (U8 0) fun w199 => SetVC w199 ⟨g3, 26, none⟩ (U8 0) fun w200 => SetVC w200 ⟨g3, 27, none⟩ (U8 0) fun w201 =>
 ∃ x02 x16 x22 x32 x42 x52 x62 x72 x82 x91 x101 x112 x121 x131 x141 x151 x161, CellsAt w201 ⟨g3, 1, none⟩ 0 [I6 x02, U8 x16, U8 x22, U8 x32, U8 x42, U8 x52, U8 x62, U8 x72, U8 x82, U8 x91, U8 x101, U8 x112, U8 x121, U8 x131, U8 x141, U8 x151, U8 x161] ∧
 Calls Tryz.prog 50 #[.agg #[I6 x02, U8 x16, U8 x22, U8 x32, U8 x42, U8 x52, U8 x62, U8 x72, U8 x82, U8 x91, U8 x101, U8 x112, U8 x121, U8 x131, U8 x141, U8 x151, U8 x161]] w201 (onRet (fun r_1 w202 => ∃ x17, r_1 = .bool x17 ∧ Br x17 (SetVC w202 ⟨g2, 0, none⟩ (I6 0) fun w203 =>
 SetVC w203 ⟨g2, 1, none⟩ (I6 0) fun w204 => SetVC w204 ⟨g2, 2, none⟩ (U8 0) fun w205 => SetVC w205 ⟨g2, 3, none⟩ (U8 0) fun w206 => SetVC w206 ⟨g2, 4, none⟩ (U8 0) fun w207 => SetVC w207 ⟨g2, 5, none⟩ (U8 0) fun w208 => SetVC w208 ⟨g2, 6, none⟩ (U8 0) fun w209 =>
 SetVC w209 ⟨g2, 7, none⟩ (U8 0) fun w210 => SetVC w210 ⟨g2, 8, none⟩ (U8 0) fun w211 => SetVC w211 ⟨g2, 9, none⟩ (U8 0) fun w212 => SetVC w212 ⟨g2, 10, none⟩ (U8 0) fun w213 => SetVC w213 ⟨g2, 11, none⟩ (U8 0) fun w214 => SetVC w214 ⟨g2, 12, none⟩ (U8 0) fun w215 =>
 SetVC w215 ⟨g2, 13, none⟩ (U8 0) fun w216 => SetVC w216 ⟨g2, 14, none⟩ (U8 0) fun w217 => SetVC w217 ⟨g2, 15, none⟩ (U8 0) fun w218 => SetVC w218 ⟨g2, 16, none⟩ (U8 0) fun w219 => SetVC w219 ⟨g2, 17, none⟩ (U8 0) fun w220 => SetVC w220 ⟨g2, 18, none⟩ (.bool false) fun w221 =>
 SetVC w221 ⟨g2, 19, none⟩ (.bool false) fun w222 => SetVC w222 ⟨g2, 20, none⟩ (.bool false) fun w223 => SetVC w223 ⟨g2, 21, none⟩ (.bool false) fun w224 => SetVC w224 ⟨g2, 22, none⟩ (U8 0) fun w225 => SetVC w225 ⟨g2, 23, none⟩ (U8 0) fun w226 => SetVC w226 ⟨g2, 24, none⟩ (U8 0) fun w227 =>
 SetVC w227 ⟨g2, 25, none⟩ (U8 0) fun w228 => SetVC w228 ⟨g2, 26, none⟩ (U8 0) fun w229 => SetVC w229 ⟨g2, 27, none⟩ (U8 0) fun w230 =>
 ∃ res06 res120 res218 res36 res46 res56 res66 res76 res86 res96 res106 res1110 res126 res136 res146 res156 res166 res176 res186 res196 res206 res219 res226 res236 res246 res256 res266 res276, CA_ w230 g2 [I6 res06, I6 res120, U8 res218, U8 res36, U8 res46, U8 res56, U8 res66, U8 res76, U8 res86, U8 res96, U8 res106, U8 res1110, U8 res126, U8 res136, U8 res146, U8 res156, U8 res166, U8 res176, .bool res186, .bool res196, .bool res206, .bool res219, U8 res226, U8 res236, U8 res246, U8 res256, U8 res266, U8 res276] ∧
 R (.returned (.tuple #[.agg #[I6 res06, I6 res120, U8 res218, U8 res36, U8 res46, U8 res56, U8 res66, U8 res76, U8 res86, U8 res96, U8 res106, U8 res1110, U8 res126, U8 res136, U8 res146, U8 res156, U8 res166, U8 res176, .bool res186, .bool res196, .bool res206, .bool res219, U8 res226, U8 res236, U8 res246, U8 res256, U8 res266, U8 res276], I6 86])) w230)
 (JoinVC (S := Unit) (fun J127 => ∃ x18, w202.cell? (ad_ g1 1) = some (I6 x18) ∧ Br (decide (x18 = 136)) (SetVC w202 ⟨g3, 0, none⟩ (I6 2) fun w231 => DrawVC w231 fun S1 w232 => ∃ x19, (∀ w' : World, S1 w' → w'.cell? ⟨g1, 3, none⟩ = some (I6 x19)) ∧
 ∃ x20, (∀ w' : World, S1 w' → w'.cell? ⟨g1, 3, none⟩ = some (I6 x20)) ∧ ∃ x23, (∀ w' : World, S1 w' → w'.cell? ⟨g1, 3, none⟩ = some (I6 x23)) ∧ SetVC w232 ⟨g3, 18, none⟩ (.bool (decide (bitv .and .i64 x19 2147483648 ≠ 0))) fun w233 => S1 w233 ∧
 SetVC w233 ⟨g3, 19, none⟩ (.bool (decide (bitv .and .i64 x20 1073741824 ≠ 0))) fun w234 => S1 w234 ∧ SetVC w234 ⟨g3, 20, none⟩ (.bool (decide (bitv .and .i64 x23 536870912 ≠ 0))) fun w235 => J127 () w235) (J127 () w202)) (fun _ w236 => icmp_ParseND_J127 R g1 g2 g3 w236))) (pn_ R)))
def icmp_ParseND_VC (m_V m_Type m_Code m_Rest : Int) (m_DataA : Option Addr) (m_Datan m_Datac : Nat) (w : World) (R : EWP) : Prop := NewVC w (.cells #[I6 m_V, I6 m_Type, I6 m_Code, I6 m_Rest, .slice m_DataA m_Datan m_Datac] 27) fun g1 w1 =>
 NewVC w1 (.cells #[I6 0, I6 0, U8 0, U8 0, U8 0, U8 0, U8 0, U8 0, U8 0, U8 0, U8 0, U8 0, U8 0, U8 0, U8 0, U8 0, U8 0, U8 0, .bool false, .bool false, .bool false, .bool false, U8 0, U8 0, U8 0, U8 0, U8 0, U8 0] 41) fun g2 w2 =>
 ∃ x0 x1 x2 x3 x4A x4n x4c, CA_ w2 g1 [I6 x0, I6 x1, I6 x2, I6 x3, .slice x4A x4n x4c] ∧ Calls Tryz.prog 39 #[.agg #[I6 x0, I6 x1, I6 x2, I6 x3, .slice x4A x4n x4c]] w2 (onRet (fun r_ w3 => ∃ x, r_ = I6 x ∧ Br (decide (x ≠ 0)) (SetVC w3 ⟨g2, 0, none⟩ (I6 0) fun w4 =>
 SetVC w4 ⟨g2, 1, none⟩ (I6 0) fun w5 => SetVC w5 ⟨g2, 2, none⟩ (U8 0) fun w6 => SetVC w6 ⟨g2, 3, none⟩ (U8 0) fun w7 => SetVC w7 ⟨g2, 4, none⟩ (U8 0) fun w8 => SetVC w8 ⟨g2, 5, none⟩ (U8 0) fun w9 => SetVC w9 ⟨g2, 6, none⟩ (U8 0) fun w10 => SetVC w10 ⟨g2, 7, none⟩ (U8 0) fun w11 =>
 SetVC w11 ⟨g2, 8, none⟩ (U8 0) fun w12 => SetVC w12 ⟨g2, 9, none⟩ (U8 0) fun w13 => SetVC w13 ⟨g2, 10, none⟩ (U8 0) fun w14 => SetVC w14 ⟨g2, 11, none⟩ (U8 0) fun w15 => SetVC w15 ⟨g2, 12, none⟩ (U8 0) fun w16 => SetVC w16 ⟨g2, 13, none⟩ (U8 0) fun w17 => SetVC w17 ⟨g2, 14, none⟩ (U8 0) fun w18 =>
 SetVC w18 ⟨g2, 15, none⟩ (U8 0) fun w19 => SetVC w19 ⟨g2, 16, none⟩ (U8 0) fun w20 => SetVC w20 ⟨g2, 17, none⟩ (U8 0) fun w21 => SetVC w21 ⟨g2, 18, none⟩ (.bool false) fun w22 => SetVC w22 ⟨g2, 19, none⟩ (.bool false) fun w23 => SetVC w23 ⟨g2, 20, none⟩ (.bool false) fun w24 =>
 SetVC w24 ⟨g2, 21, none⟩ (.bool false) fun w25 => SetVC w25 ⟨g2, 22, none⟩ (U8 0) fun w26 => SetVC w26 ⟨g2, 23, none⟩ (U8 0) fun w27 => SetVC w27 ⟨g2, 24, none⟩ (U8 0) fun w28 => SetVC w28 ⟨g2, 25, none⟩ (U8 0) fun w29 => SetVC w29 ⟨g2, 26, none⟩ (U8 0) fun w30 =>
 SetVC w30 ⟨g2, 27, none⟩ (U8 0) fun w31 =>
 ∃ res0 res1 res2 res3 res4 res5 res6 res7 res8 res9 res10 res11 res12 res13 res14 res15 res16 res17 res18 res19 res20 res21 res22 res23 res24 res25 res26 res27, CA_ w31 g2 [I6 res0, I6 res1, U8 res2, U8 res3, U8 res4, U8 res5, U8 res6, U8 res7, U8 res8, U8 res9, U8 res10, U8 res11, U8 res12, U8 res13, U8 res14, U8 res15, U8 res16, U8 res17, .bool res18, .bool res19, .bool res20, .bool res21, U8 res22, U8 res23, U8 res24, U8 res25, U8 res26, U8 res27] ∧
 R (.returned (.tuple #[.agg #[I6 res0, I6 res1, U8 res2, U8 res3, U8 res4, U8 res5, U8 res6, U8 res7, U8 res8, U8 res9, U8 res10, U8 res11, U8 res12, U8 res13, U8 res14, U8 res15, U8 res16, U8 res17, .bool res18, .bool res19, .bool res20, .bool res21, U8 res22, U8 res23, U8 res24, U8 res25, U8 res26, U8 res27], I6 x])) w31)
 (JoinVC (S := Unit) (fun J7 => ∃ x4, w3.cell? (ad_ g1 0) = some (I6 x4) ∧ Br (decide (x4 ≠ 6)) (SetVC w3 ⟨g2, 0, none⟩ (I6 0) fun w32 => SetVC w32 ⟨g2, 1, none⟩ (I6 0) fun w33 => SetVC w33 ⟨g2, 2, none⟩ (U8 0) fun w34 => SetVC w34 ⟨g2, 3, none⟩ (U8 0) fun w35 =>
 SetVC w35 ⟨g2, 4, none⟩ (U8 0) fun w36 => SetVC w36 ⟨g2, 5, none⟩ (U8 0) fun w37 => SetVC w37 ⟨g2, 6, none⟩ (U8 0) fun w38 => SetVC w38 ⟨g2, 7, none⟩ (U8 0) fun w39 => SetVC w39 ⟨g2, 8, none⟩ (U8 0) fun w40 => SetVC w40 ⟨g2, 9, none⟩ (U8 0) fun w41 => SetVC w41 ⟨g2, 10, none⟩ (U8 0) fun w42 =>
 SetVC w42 ⟨g2, 11, none⟩ (U8 0) fun w43 => SetVC w43 ⟨g2, 12, none⟩ (U8 0) fun w44 => SetVC w44 ⟨g2, 13, none⟩ (U8 0) fun w45 => SetVC w45 ⟨g2, 14, none⟩ (U8 0) fun w46 => SetVC w46 ⟨g2, 15, none⟩ (U8 0) fun w47 => SetVC w47 ⟨g2, 16, none⟩ (U8 0) fun w48 =>
 SetVC w48 ⟨g2, 17, none⟩ (U8 0) fun w49 => SetVC w49 ⟨g2, 18, none⟩ (.bool false) fun w50 => SetVC w50 ⟨g2, 19, none⟩ (.bool false) fun w51 => SetVC w51 ⟨g2, 20, none⟩ (.bool false) fun w52 => SetVC w52 ⟨g2, 21, none⟩ (.bool false) fun w53 => SetVC w53 ⟨g2, 22, none⟩ (U8 0) fun w54 =>
 SetVC w54 ⟨g2, 23, none⟩ (U8 0) fun w55 => SetVC w55 ⟨g2, 24, none⟩ (U8 0) fun w56 => SetVC w56 ⟨g2, 25, none⟩ (U8 0) fun w57 => SetVC w57 ⟨g2, 26, none⟩ (U8 0) fun w58 => SetVC w58 ⟨g2, 27, none⟩ (U8 0) fun w59 =>
 ∃ res01 res110 res28 res31 res41 res51 res61 res71 res81 res91 res101 res111 res121 res131 res141 res151 res161 res171 res181 res191 res201 res211 res221 res231 res241 res251 res261 res271, CA_ w59 g2 [I6 res01, I6 res110, U8 res28, U8 res31, U8 res41, U8 res51, U8 res61, U8 res71, U8 res81, U8 res91, U8 res101, U8 res111, U8 res121, U8 res131, U8 res141, U8 res151, U8 res161, U8 res171, .bool res181, .bool res191, .bool res201, .bool res211, U8 res221, U8 res231, U8 res241, U8 res251, U8 res261, U8 res271] ∧
 R (.returned (.tuple #[.agg #[I6 res01, I6 res110, U8 res28, U8 res31, U8 res41, U8 res51, U8 res61, U8 res71, U8 res81, U8 res91, U8 res101, U8 res111, U8 res121, U8 res131, U8 res141, U8 res151, U8 res161, U8 res171, .bool res181, .bool res191, .bool res201, .bool res211, U8 res221, U8 res231, U8 res241, U8 res251, U8 res261, U8 res271], I6 83])) w59)
 (∃ x5, w3.cell? (ad_ g1 1) = some (I6 x5) ∧ Br (decide (x5 ≠ 135)) (∃ x6, w3.cell? (ad_ g1 1) = some (I6 x6) ∧ Br (decide (x6 ≠ 136)) (SetVC w3 ⟨g2, 0, none⟩ (I6 0) fun w60 => SetVC w60 ⟨g2, 1, none⟩ (I6 0) fun w61 => SetVC w61 ⟨g2, 2, none⟩ (U8 0) fun w62 =>
 SetVC w62 ⟨g2, 3, none⟩ (U8 0) fun w63 => SetVC w63 ⟨g2, 4, none⟩ (U8 0) fun w64 => SetVC w64 ⟨g2, 5, none⟩ (U8 0) fun w65 => SetVC w65 ⟨g2, 6, none⟩ (U8 0) fun w66 => SetVC w66 ⟨g2, 7, none⟩ (U8 0) fun w67 => SetVC w67 ⟨g2, 8, none⟩ (U8 0) fun w68 => SetVC w68 ⟨g2, 9, none⟩ (U8 0) fun w69 =>
 SetVC w69 ⟨g2, 10, none⟩ (U8 0) fun w70 => SetVC w70 ⟨g2, 11, none⟩ (U8 0) fun w71 => SetVC w71 ⟨g2, 12, none⟩ (U8 0) fun w72 => SetVC w72 ⟨g2, 13, none⟩ (U8 0) fun w73 => SetVC w73 ⟨g2, 14, none⟩ (U8 0) fun w74 => SetVC w74 ⟨g2, 15, none⟩ (U8 0) fun w75 =>
 SetVC w75 ⟨g2, 16, none⟩ (U8 0) fun w76 => SetVC w76 ⟨g2, 17, none⟩ (U8 0) fun w77 => SetVC w77 ⟨g2, 18, none⟩ (.bool false) fun w78 => SetVC w78 ⟨g2, 19, none⟩ (.bool false) fun w79 => SetVC w79 ⟨g2, 20, none⟩ (.bool false) fun w80 => SetVC w80 ⟨g2, 21, none⟩ (.bool false) fun w81 =>
 SetVC w81 ⟨g2, 22, none⟩ (U8 0) fun w82 => SetVC w82 ⟨g2, 23, none⟩ (U8 0) fun w83 => SetVC w83 ⟨g2, 24, none⟩ (U8 0) fun w84 => SetVC w84 ⟨g2, 25, none⟩ (U8 0) fun w85 => SetVC w85 ⟨g2, 26, none⟩ (U8 0) fun w86 => SetVC w86 ⟨g2, 27, none⟩ (U8 0) fun w87 =>
 ∃ res02 res112 res29 res32 res42 res52 res62 res72 res82 res92 res102 res113 res122 res132 res142 res152 res162 res172 res182 res192 res202 res212 res222 res232 res242 res252 res262 res272, CA_ w87 g2 [I6 res02, I6 res112, U8 res29, U8 res32, U8 res42, U8 res52, U8 res62, U8 res72, U8 res82, U8 res92, U8 res102, U8 res113, U8 res122, U8 res132, U8 res142, U8 res152, U8 res162, U8 res172, .bool res182, .bool res192, .bool res202, .bool res212, U8 res222, U8 res232, U8 res242, U8 res252, U8 res262, U8 res272] ∧
 R (.returned (.tuple #[.agg #[I6 res02, I6 res112, U8 res29, U8 res32, U8 res42, U8 res52, U8 res62, U8 res72, U8 res82, U8 res92, U8 res102, U8 res113, U8 res122, U8 res132, U8 res142, U8 res152, U8 res162, U8 res172, .bool res182, .bool res192, .bool res202, .bool res212, U8 res222, U8 res232, U8 res242, U8 res252, U8 res262, U8 res272], I6 83])) w87)
 (∃ x7, w3.cell? (ad_ g1 2) = some (I6 x7) ∧ Br (decide (x7 ≠ 0)) (SetVC w3 ⟨g2, 0, none⟩ (I6 0) fun w88 => SetVC w88 ⟨g2, 1, none⟩ (I6 0) fun w89 => SetVC w89 ⟨g2, 2, none⟩ (U8 0) fun w90 => SetVC w90 ⟨g2, 3, none⟩ (U8 0) fun w91 => SetVC w91 ⟨g2, 4, none⟩ (U8 0) fun w92 =>
 SetVC w92 ⟨g2, 5, none⟩ (U8 0) fun w93 => SetVC w93 ⟨g2, 6, none⟩ (U8 0) fun w94 => SetVC w94 ⟨g2, 7, none⟩ (U8 0) fun w95 => SetVC w95 ⟨g2, 8, none⟩ (U8 0) fun w96 => SetVC w96 ⟨g2, 9, none⟩ (U8 0) fun w97 => SetVC w97 ⟨g2, 10, none⟩ (U8 0) fun w98 => SetVC w98 ⟨g2, 11, none⟩ (U8 0) fun w99 =>
 SetVC w99 ⟨g2, 12, none⟩ (U8 0) fun w100 => SetVC w100 ⟨g2, 13, none⟩ (U8 0) fun w101 => SetVC w101 ⟨g2, 14, none⟩ (U8 0) fun w102 => SetVC w102 ⟨g2, 15, none⟩ (U8 0) fun w103 => SetVC w103 ⟨g2, 16, none⟩ (U8 0) fun w104 => SetVC w104 ⟨g2, 17, none⟩ (U8 0) fun w105 =>
 SetVC w105 ⟨g2, 18, none⟩ (.bool false) fun w106 => SetVC w106 ⟨g2, 19, none⟩ (.bool false) fun w107 => SetVC w107 ⟨g2, 20, none⟩ (.bool false) fun w108 => SetVC w108 ⟨g2, 21, none⟩ (.bool false) fun w109 => SetVC w109 ⟨g2, 22, none⟩ (U8 0) fun w110 => SetVC w110 ⟨g2, 23, none⟩ (U8 0) fun w111 =>
 SetVC w111 ⟨g2, 24, none⟩ (U8 0) fun w112 => SetVC w112 ⟨g2, 25, none⟩ (U8 0) fun w113 => SetVC w113 ⟨g2, 26, none⟩ (U8 0) fun w114 => SetVC w114 ⟨g2, 27, none⟩ (U8 0) fun w115 =>
 ∃ res03 res114 res210 res33 res43 res53 res63 res73 res83 res93 res103 res115 res123 res133 res143 res153 res163 res173 res183 res193 res203 res213 res223 res233 res243 res253 res263 res273, CA_ w115 g2 [I6 res03, I6 res114, U8 res210, U8 res33, U8 res43, U8 res53, U8 res63, U8 res73, U8 res83, U8 res93, U8 res103, U8 res115, U8 res123, U8 res133, U8 res143, U8 res153, U8 res163, U8 res173, .bool res183, .bool res193, .bool res203, .bool res213, U8 res223, U8 res233, U8 res243, U8 res253, U8 res263, U8 res273] ∧
 R (.returned (.tuple #[.agg #[I6 res03, I6 res114, U8 res210, U8 res33, U8 res43, U8 res53, U8 res63, U8 res73, U8 res83, U8 res93, U8 res103, U8 res115, U8 res123, U8 res133, U8 res143, U8 res153, U8 res163, U8 res173, .bool res183, .bool res193, .bool res203, .bool res213, U8 res223, U8 res233, U8 res243, U8 res253, U8 res263, U8 res273], I6 83])) w115)
 (J7 () w3))) (∃ x8, w3.cell? (ad_ g1 2) = some (I6 x8) ∧ Br (decide (x8 ≠ 0)) (SetVC w3 ⟨g2, 0, none⟩ (I6 0) fun w116 => SetVC w116 ⟨g2, 1, none⟩ (I6 0) fun w117 => SetVC w117 ⟨g2, 2, none⟩ (U8 0) fun w118 => SetVC w118 ⟨g2, 3, none⟩ (U8 0) fun w119 => SetVC w119 ⟨g2, 4, none⟩ (U8 0) fun w120 =>
 SetVC w120 ⟨g2, 5, none⟩ (U8 0) fun w121 => SetVC w121 ⟨g2, 6, none⟩ (U8 0) fun w122 => SetVC w122 ⟨g2, 7, none⟩ (U8 0) fun w123 => SetVC w123 ⟨g2, 8, none⟩ (U8 0) fun w124 => SetVC w124 ⟨g2, 9, none⟩ (U8 0) fun w125 => SetVC w125 ⟨g2, 10, none⟩ (U8 0) fun w126 =>
 SetVC w126 ⟨g2, 11, none⟩ (U8 0) fun w127 => SetVC w127 ⟨g2, 12, none⟩ (U8 0) fun w128 => SetVC w128 ⟨g2, 13, none⟩ (U8 0) fun w129 => SetVC w129 ⟨g2, 14, none⟩ (U8 0) fun w130 => SetVC w130 ⟨g2, 15, none⟩ (U8 0) fun w131 => SetVC w131 ⟨g2, 16, none⟩ (U8 0) fun w132 =>
 SetVC w132 ⟨g2, 17, none⟩ (U8 0) fun w133 => SetVC w133 ⟨g2, 18, none⟩ (.bool false) fun w134 => SetVC w134 ⟨g2, 19, none⟩ (.bool false) fun w135 => SetVC w135 ⟨g2, 20, none⟩ (.bool false) fun w136 => SetVC w136 ⟨g2, 21, none⟩ (.bool false) fun w137 => SetVC w137 ⟨g2, 22, none⟩ (U8 0) fun w138 =>
 SetVC w138 ⟨g2, 23, none⟩ (U8 0) fun w139 => SetVC w139 ⟨g2, 24, none⟩ (U8 0) fun w140 => SetVC w140 ⟨g2, 25, none⟩ (U8 0) fun w141 => SetVC w141 ⟨g2, 26, none⟩ (U8 0) fun w142 => SetVC w142 ⟨g2, 27, none⟩ (U8 0) fun w143 =>
 ∃ res04 res116 res214 res34 res44 res54 res64 res74 res84 res94 res104 res117 res124 res134 res144 res154 res164 res174 res184 res194 res204 res215 res224 res234 res244 res254 res264 res274, CA_ w143 g2 [I6 res04, I6 res116, U8 res214, U8 res34, U8 res44, U8 res54, U8 res64, U8 res74, U8 res84, U8 res94, U8 res104, U8 res117, U8 res124, U8 res134, U8 res144, U8 res154, U8 res164, U8 res174, .bool res184, .bool res194, .bool res204, .bool res215, U8 res224, U8 res234, U8 res244, U8 res254, U8 res264, U8 res274] ∧
 R (.returned (.tuple #[.agg #[I6 res04, I6 res116, U8 res214, U8 res34, U8 res44, U8 res54, U8 res64, U8 res74, U8 res84, U8 res94, U8 res104, U8 res117, U8 res124, U8 res134, U8 res144, U8 res154, U8 res164, U8 res174, .bool res184, .bool res194, .bool res204, .bool res215, U8 res224, U8 res234, U8 res244, U8 res254, U8 res264, U8 res274], I6 83])) w143)
 (J7 () w3)))) (fun _ w144 => icmp_ParseND_J7 R g1 g2 w144))) (pn_ R))
def icmp_ParseND_H : Hints := [(7, []), (127, []), (4092, [])]
theorem icmp_ParseND_of (m_V m_Type m_Code m_Rest : Int) (m_DataA : Option Addr) (m_Datan m_Datac : Nat) (w : World) (R : EWP) (h_ : icmp_ParseND_VC m_V m_Type m_Code m_Rest m_DataA m_Datan m_Datac w R) :
 Calls Tryz.prog 26 #[.agg #[I6 m_V, I6 m_Type, I6 m_Code, I6 m_Rest, .slice m_DataA m_Datan m_Datac]] w R :=
 calls_of_wpc callOk mixedOk (H := icmp_ParseND_H) (c := bodyOf Tryz.f26) Tryz.func26 rfl (nb_ rfl) (Eq.mp (by kernel_rfl) h_)
def view_At_VC (bA : Option Addr) (bn bc : Nat) (w : World) (R : EWP) : Prop := NewVC w (.cells #[.slice bA bn bc, I6 0] 129) fun g1 w1 => R (.returned (.pointer (sa_ g1))) w1
def view_At_H : Hints := []
theorem view_At_of (bA : Option Addr) (bn bc : Nat) (w : World) (R : EWP) (h_ : view_At_VC bA bn bc w R) : Calls Tryz.prog 55 #[.slice bA bn bc] w R := calls_of_wpc callOk mixedOk (H := view_At_H) (c := bodyOf Tryz.f55) Tryz.func55 rfl (nb_ rfl)
 (Eq.mp (by kernel_rfl) h_)
def view_Cursor_Skip_VC (c : Option Addr) (n : Int) (w : World) (R : EWP) : Prop := Calls Tryz.prog 59 #[.pointer c, I6 n] w (onRet (fun r_ w1 => ∃ x0A x0n x0c x1, r_ = .tuple #[.slice x0A x0n x0c, I6 x1] ∧ R (.returned (I6 x1)) w1) (pn_ R))
def view_Cursor_Skip_H : Hints := []
theorem view_Cursor_Skip_of (c : Option Addr) (n : Int) (w : World) (R : EWP) (h_ : view_Cursor_Skip_VC c n w R) : Calls Tryz.prog 56 #[.pointer c, I6 n] w R :=
 calls_of_wpc callOk mixedOk (H := view_Cursor_Skip_H) (c := bodyOf Tryz.f56) Tryz.func56 rfl (nb_ rfl) (Eq.mp (by kernel_rfl) h_)
def view_Cursor_Left_VC (c : Option Addr) (w : World) (R : EWP) : Prop := DrawVC w fun S1 w1 => NilVC c fun p => ∃ xA xn xc, (∀ w' : World, S1 w' → w'.cell? p = some (.slice xA xn xc)) ∧ NilVC c fun p1 => ∃ x, (∀ w' : World, S1 w' → w'.cell? (p1.add 1) = some (I6 x)) ∧
 R (.returned (I6 (IntKind.i64.wrap ((xn : Int) - x)))) w1
def view_Cursor_Left_H : Hints := []
theorem view_Cursor_Left_of (c : Option Addr) (w : World) (R : EWP) (h_ : view_Cursor_Left_VC c w R) : Calls Tryz.prog 57 #[.pointer c] w R := calls_of_wpc callOk mixedOk (H := view_Cursor_Left_H) (c := bodyOf Tryz.f57) Tryz.func57 rfl (nb_ rfl)
 (Eq.mp (by kernel_rfl) h_)
def view_Cursor_Uint_VC (c : Option Addr) (n : Int) (w : World) (R : EWP) : Prop := DrawVC w fun S1 w1 => NilVC c fun p => ∃ xA xn xc, (∀ w' : World, S1 w' → w'.cell? p = some (.slice xA xn xc)) ∧ NilVC c fun p1 => ∃ x, (∀ w' : World, S1 w' → w'.cell? (p1.add 1) = some (I6 x)) ∧
 Calls Tryz.prog 86 #[.slice xA xn xc, I6 x, I6 n] w1 (onRet (fun r_ w2 => ∃ x0 x1, r_ = .tuple #[.int .u64 x0, I6 x1] ∧ S1 w2 ∧ Br (decide (x1 = 0)) (NilVC c fun p2 => ∃ x2, w2.cell? (p2.add 1) = some (I6 x2) ∧ NilVC c fun p3 => SetVC w2 (p3.add 1) (I6 (IntKind.i64.wrap (x2 + n))) fun w3 =>
 R (.returned (.tuple #[.int .u64 x0, I6 x1])) w3) (R (.returned (.tuple #[.int .u64 x0, I6 x1])) w2)) (fun _ _ => False))
def view_Cursor_Uint_H : Hints := []
theorem view_Cursor_Uint_of (c : Option Addr) (n : Int) (w : World) (R : EWP) (h_ : view_Cursor_Uint_VC c n w R) : Calls Tryz.prog 58 #[.pointer c, I6 n] w R :=
 calls_of_wpc callOk mixedOk (H := view_Cursor_Uint_H) (c := bodyOf Tryz.f58) Tryz.func58 rfl (nb_ rfl) (Eq.mp (by kernel_rfl) h_)
def view_Cursor_Window_VC (c : Option Addr) (n : Int) (w : World) (R : EWP) : Prop := DrawVC w fun S1 w1 => NilVC c fun p => ∃ xA xn xc, (∀ w' : World, S1 w' → w'.cell? p = some (.slice xA xn xc)) ∧ NilVC c fun p1 => ∃ x, (∀ w' : World, S1 w' → w'.cell? (p1.add 1) = some (I6 x)) ∧
 Calls Tryz.prog 87 #[.slice xA xn xc, I6 x, I6 n] w1 (onRet (fun r_ w2 => ∃ x0A x0n x0c x1, r_ = .tuple #[.slice x0A x0n x0c, I6 x1] ∧ S1 w2 ∧ Br (decide (x1 = 0)) (NilVC c fun p2 => ∃ x2, w2.cell? (p2.add 1) = some (I6 x2) ∧ NilVC c fun p3 =>
 SetVC w2 (p3.add 1) (I6 (IntKind.i64.wrap (x2 + n))) fun w3 => R (.returned (.tuple #[.slice x0A x0n x0c, I6 x1])) w3) (R (.returned (.tuple #[.slice x0A x0n x0c, I6 x1])) w2)) (fun _ _ => False))
def view_Cursor_Window_H : Hints := []
theorem view_Cursor_Window_of (c : Option Addr) (n : Int) (w : World) (R : EWP) (h_ : view_Cursor_Window_VC c n w R) : Calls Tryz.prog 59 #[.pointer c, I6 n] w R :=
 calls_of_wpc callOk mixedOk (H := view_Cursor_Window_H) (c := bodyOf Tryz.f59) Tryz.func59 rfl (nb_ rfl) (Eq.mp (by kernel_rfl) h_)
def view_Uint_VC (bA : Option Addr) (bn bc : Nat) (at_ n : Int) (w : World) (R : EWP) : Prop := NewVC w (.cells #[.int .u64 0] 102) fun g1 w1 => NewVC w1 (.cells #[I6 0] 52) fun g2 w2 => Calls Tryz.prog 111 #[I6 n] w2 (onRet (fun r_ w3 => ∃ x, r_ = .bool x ∧ Br (!x)
 (SetVC w3 ⟨g1, 0, none⟩ (.int .u64 0) fun w4 => SetVC w4 ⟨g2, 0, none⟩ (I6 1) fun w5 => ∃ res, w5.cell? (ad_ g1 0) = some (.int .u64 res) ∧ ∃ res1, w5.cell? (ad_ g2 0) = some (I6 res1) ∧ R (.returned (.tuple #[.int .u64 res, I6 res1])) w5)
 (Calls Tryz.prog 113 #[.slice bA bn bc, I6 at_, I6 n] w3 (onRet (fun r_1 w6 => ∃ x1, r_1 = .int .u64 x1 ∧ SetVC w6 ⟨g1, 0, none⟩ (.int .u64 x1) fun w7 => SetVC w7 ⟨g2, 0, none⟩ (I6 0) fun w8 => leaveWp Tryz.prog callF (fun w9 => ∃ res2, w9.cell? (ad_ g1 0) = some (.int .u64 res2) ∧
 ∃ res3, w9.cell? (ad_ g2 0) = some (I6 res3) ∧ R (.returned (.tuple #[.int .u64 res2, I6 res3])) w9) R [{ target := .fn (.func 112) #[.pointer (sa_ g1), .pointer (sa_ g2)], args := #[] }] .returning w8)
 (fun ch1 w6 => leaveWp Tryz.prog callF (fun w10 => ∃ res4, w10.cell? (ad_ g1 0) = some (.int .u64 res4) ∧ ∃ res5, w10.cell? (ad_ g2 0) = some (I6 res5) ∧ R (.returned (.tuple #[.int .u64 res4, I6 res5])) w10)
 R [{ target := .fn (.func 112) #[.pointer (sa_ g1), .pointer (sa_ g2)], args := #[] }] (.panicking ch1) w6)))) (pn_ R))
def view_Uint_H : Hints := []
theorem view_Uint_of (bA : Option Addr) (bn bc : Nat) (at_ n : Int) (w : World) (R : EWP) (h_ : view_Uint_VC bA bn bc at_ n w R) : Calls Tryz.prog 86 #[.slice bA bn bc, I6 at_, I6 n] w R :=
 calls_of_wpc callOk mixedOk (H := view_Uint_H) (c := bodyOf Tryz.f86) Tryz.func86 rfl (nb_ rfl) (Eq.mp (by kernel_rfl) h_)
def view_Window_VC (bA : Option Addr) (bn bc : Nat) (at_ n : Int) (w : World) (R : EWP) : Prop := NewVC w (.cells #[.slice none 0 0] 25) fun g1 w1 => NewVC w1 (.cells #[I6 0] 52) fun g2 w2 => Br (decide (n < 0)) (SetVC w2 ⟨g1, 0, none⟩ (.slice none 0 0) fun w3 =>
 SetVC w3 ⟨g2, 0, none⟩ (I6 1) fun w4 => ∃ resA resn resc, w4.cell? (ad_ g1 0) = some (.slice resA resn resc) ∧ ∃ res, w4.cell? (ad_ g2 0) = some (I6 res) ∧ R (.returned (.tuple #[.slice resA resn resc, I6 res])) w4)
 (Calls Tryz.prog 84 #[.slice bA bn bc, I6 at_, I6 n] w2 (onRet (fun r_ w5 => ∃ xA xn xc, r_ = .slice xA xn xc ∧ SetVC w5 ⟨g1, 0, none⟩ (.slice xA xn xc) fun w6 => SetVC w6 ⟨g2, 0, none⟩ (I6 0) fun w7 =>
 leaveWp Tryz.prog callF (fun w8 => ∃ resA1 resn1 resc1, w8.cell? (ad_ g1 0) = some (.slice resA1 resn1 resc1) ∧ ∃ res1, w8.cell? (ad_ g2 0) = some (I6 res1) ∧ R (.returned (.tuple #[.slice resA1 resn1 resc1, I6 res1])) w8)
 R [{ target := .fn (.func 114) #[.pointer (sa_ g1), .pointer (sa_ g2)], args := #[] }] .returning w7) (fun ch w5 => leaveWp Tryz.prog callF (fun w9 => ∃ resA2 resn2 resc2, w9.cell? (ad_ g1 0) = some (.slice resA2 resn2 resc2) ∧ ∃ res2, w9.cell? (ad_ g2 0) = some (I6 res2) ∧
 R (.returned (.tuple #[.slice resA2 resn2 resc2, I6 res2])) w9) R [{ target := .fn (.func 114) #[.pointer (sa_ g1), .pointer (sa_ g2)], args := #[] }] (.panicking ch) w5)))
def view_Window_H : Hints := []
theorem view_Window_of (bA : Option Addr) (bn bc : Nat) (at_ n : Int) (w : World) (R : EWP) (h_ : view_Window_VC bA bn bc at_ n w R) : Calls Tryz.prog 87 #[.slice bA bn bc, I6 at_, I6 n] w R :=
 calls_of_wpc callOk mixedOk (H := view_Window_H) (c := bodyOf Tryz.f87) Tryz.func87 rfl (nb_ rfl) (Eq.mp (by kernel_rfl) h_)
def view_sized_VC (n : Int) (w : World) (R : EWP) : Prop := Br (decide ((1 : Int) ≤ n)) (R (.returned (.bool (decide (n ≤ 8)))) w) (R (.returned (.bool false)) w)
def view_sized_H : Hints := []
theorem view_sized_of (n : Int) (w : World) (R : EWP) (h_ : view_sized_VC n w R) : Calls Tryz.prog 111 #[I6 n] w R := calls_of_wpc callOk mixedOk (H := view_sized_H) (c := bodyOf Tryz.f111) Tryz.func111 rfl (nb_ rfl) (Eq.mp (by kernel_rfl) h_)
def view_number_L122 (R : EWP) (bA : Option Addr) (bn bc : Nat) (at_ n v_ t20_ : Int) (w1 : World) (K122 : (Int × Int → World → Prop)) : Prop := Br (decide (t20_ < n)) (Calls Tryz.prog 85 #[.slice bA bn bc, I6 (IntKind.i64.wrap (at_ + t20_))] w1 (onRet (fun r_ w2 => ∃ x, r_ = U8 x ∧
 K122 (bitv .or .u64 (IntKind.u64.wrap (v_ * 256)) (IntKind.u64.wrap x), IntKind.i64.wrap (t20_ + 1)) w2) (pn_ R))) (R (.returned (.int .u64 v_)) w1)
def view_number_VC (bA : Option Addr) (bn bc : Nat) (at_ n : Int) (w : World) (R : EWP) : Prop := Br (decide (at_ < 0)) (R (.panicked [{ v := .iface 151 (.agg #[]), recovered := false }]) w) (Br (decide ((bn : Int) < at_)) (R (.panicked [{ v := .iface 151 (.agg #[]), recovered := false }]) w)
 (LoopVC (S := Int × Int) (fun s_ w1 K122 => view_number_L122 R bA bn bc at_ n s_.1 s_.2 w1 K122) (0, 0) w))
def view_number_H : Hints := [(122, [(7, .int .u64), (20, .int .i64)])]
theorem view_number_of (bA : Option Addr) (bn bc : Nat) (at_ n : Int) (w : World) (R : EWP) (h_ : view_number_VC bA bn bc at_ n w R) : Calls Tryz.prog 113 #[.slice bA bn bc, I6 at_, I6 n] w R :=
 calls_of_wpc callOk mixedOk (H := view_number_H) (c := bodyOf Tryz.f113) Tryz.func113 rfl (nb_ rfl) (Eq.mp (by kernel_rfl) h_)
end Nd
end Go.Proofs.YtjngdcilnipjcaaGreatDoor
/- Contracts of what the cursors reach: a number, a window, a cursor (layer 1's texts, turned to this seat). -/
namespace Go.Eng
open Go Go.RowKit
end Go.Eng
namespace Go.Proofs.YtjngdcilnipjcaaGreatDoor
namespace Nd
open Go.Eng Go.RowKit
theorem sized_spec (n : Int) (w : World) : Calls Tryz.prog 111 #[.int .i64 n] w fun e w' => w = w' ∧ e = .returned (.bool (decide (1 ≤ n ∧ n ≤ 8))) := by
 refine view_sized_of n w _ ?_
 unfold view_sized_VC
 refine Br.dec (fun h => ⟨rfl, ?_⟩) (fun h => ⟨rfl, ?_⟩)
 ·simp [h]
 ·simp [h]
theorem number_yes {A : Option Addr} {n c : Nat} {p k : Int} {bs : List Int} {w : World} (hb : Cells w A (bs.map (.int .u8))) (hl : bs.length = n) (hB : Bts bs) (hn : n ≤ 140737488355328) (hk : 1 ≤ k ∧ k ≤ 8) (h0 : 0 ≤ p) (h1 : p + k ≤ n) :
  Calls Tryz.prog 113 #[.slice A n c, .int .i64 p, .int .i64 k] w fun e w' => w = w' ∧ e = .returned (.int .u64 (beNum ((bs.drop p.toNat).take k.toNat))) := by
 refine view_number_of A n c p k w _ ?_
 unfold view_number_VC
 refine Br.no (by omega) (Br.no (by omega) ?_)
 refine LoopVC.of (fun s w1 => w = w1 ∧ 0 ≤ s.2 ∧ s.2 ≤ k ∧ s.1 = beNum ((bs.drop p.toNat).take s.2.toNat)) (fun s _ => (k - s.2).toNat) ?_ ?_
 ·exact ⟨rfl, by omega, by omega, by simp [beNum]⟩
 ·rintro ⟨v, i⟩ w1 ⟨rfl, hi0, hi1, hv⟩
  simp only at hi0 hi1 hv
  show view_number_L122 _ A n c p k v i w _
  unfold view_number_L122
  refine Br.dec (fun h3 => ?_) (fun h3 => ?_)
  ·rw [w64 (n := p + i) (by omega) (by omega)]
   refine (look_yes hb hl (by omega) (by omega)).mono ?_
   rintro _ w2 ⟨rfl, rfl⟩
   have hlen : i.toNat < (bs.drop p.toNat).length := by rw [List.length_drop]; omega
   have e1 : IntKind.i64.wrap (i + 1) = i + 1 := w64 (by omega) (by omega)
   have e2 : (i + 1).toNat = i.toNat + 1 := by omega
   have e3 : (p + i).toNat = p.toNat + i.toNat := by omega
   have hx := hB.at (i := (p + i).toNat) (by omega)
   have hg : bs.getD (p + i).toNat 0 = bs[(p + i).toNat]'(by omega) := by simp [show (p + i).toNat < bs.length by omega]
   have hbd := beNum_bound (bs := (bs.drop p.toNat).take i.toNat) ((hB.drop _).take _)
   have hpw : (256 : Int) ^ ((bs.drop p.toNat).take i.toNat).length ≤ 72057594037927936 := pow256_lt (by rw [List.length_take]; omega)
   rw [e1]
   refine ⟨_, rfl, ⟨rfl, by show 0 ≤ i + 1; omega, by show i + 1 ≤ k; omega, ?_⟩, by show (k - (i + 1)).toNat < (k - i).toNat; omega⟩
   simp only [e2]
   rw [take_succ_getD _ _ hlen, beNum_snoc, getD_drop, ← e3, hg]
   rw [← hv] at hbd ⊢
   rw [wu64 (n := v * 256) (by omega) (by omega), wu64 (n := bs[(p + i).toNat]) (by omega) (by omega)]
   unfold bitv
   simp only
   rw [or_low (v * 256) _ 8 (by omega) hx.1 (by omega) (by omega) IntKind.u64.bits (by show _ < (2 : Int) ^ 64; omega)]
   exact wu64 (by omega) (by omega)
  ·refine ⟨rfl, ?_⟩
   have : i = k := by omega
   subst this
   rw [hv]
theorem number_no {A : Option Addr} {n c : Nat} {p k : Int} {bs : List Int} {w : World} (hb : Cells w A (bs.map (.int .u8))) (hl : bs.length = n) (hn : n ≤ 140737488355328) (h : ¬ (0 ≤ p ∧ p + k ≤ n)) :
  Calls Tryz.prog 113 #[.slice A n c, .int .i64 p, .int .i64 k] w fun e w' => w = w' ∧ e = .panicked gapc := by
 refine view_number_of A n c p k w _ ?_
 unfold view_number_VC
 refine Br.dec (fun h1 => ⟨rfl, rfl⟩) (fun h1 => Br.dec (fun h2 => ⟨rfl, rfl⟩) (fun h2 => ?_))
 refine LoopVC.of (fun s w1 => w = w1 ∧ 0 ≤ s.2 ∧ p + s.2 ≤ n) (fun s _ => (k - s.2).toNat) ⟨rfl, by omega, by omega⟩ ?_
 rintro ⟨v, i⟩ w1 ⟨rfl, hi0, hi2⟩
 simp only at hi0 hi2
 show view_number_L122 _ A n c p k v i w _
 unfold view_number_L122
 refine Br.yes (by omega) ?_
 rw [w64 (n := p + i) (by omega) (by omega)]
 by_cases h4 : p + i < n
 ·refine (look_yes hb hl (by omega) h4).mono ?_
  rintro _ w2 ⟨rfl, rfl⟩
  have e1 : IntKind.i64.wrap (i + 1) = i + 1 := w64 (by omega) (by omega)
  rw [e1]
  exact ⟨_, rfl, ⟨rfl, by show 0 ≤ i + 1; omega, by show p + (i + 1) ≤ n; omega⟩, by show (k - (i + 1)).toNat < (k - i).toNat; omega⟩
 ·refine (look_no (by omega)).mono ?_
  rintro _ w2 ⟨rfl, rfl⟩
  exact ⟨rfl, rfl⟩
section
variable {u : TypeId} {pv : Value} {older : List PanicEntry} {w : World} {g1 g2 g3 : Nat} {x1 x2 x3 : Value}
theorem uint_catch (h1 : w.cell? ⟨g1, 0, none⟩ = some x1) (f1 : w.frozen? ⟨g1, 0, none⟩ = false) (h2 : w.cell? ⟨g2, 0, none⟩ = some x2) (f2 : w.frozen? ⟨g2, 0, none⟩ = false) (hne : g1 ≠ g2) :
  CallsD Tryz.prog 112 #[.pointer (some ⟨g1, 0, none⟩), .pointer (some ⟨g2, 0, none⟩)] (.panicking ({ v := .iface u pv, recovered := false } :: older)) w fun e u' w' =>
   e = .returned (.tuple #[]) ∧ u' = .panicking ({ v := .iface u pv, recovered := true } :: older) ∧ w' = (w.setCell ⟨g1, 0, none⟩ (.int .u64 0)).setCell ⟨g2, 0, none⟩ (.int .i64 10) := by
 have hc2 : (w.setCell ⟨g1, 0, none⟩ (.int .u64 0)).cell? ⟨g2, 0, none⟩ = some x2 := by
  rw [World.cell?_setCell_other]
  ·exact h2
  ·intro e; injection e with e; exact hne e
 refine callsD_of_wpS Tryz.func112 rfl fun c₀ cs hu => ?_
 apply wpS_seq
 apply wpS_region
 simp [wpOpsS, go_sem, recoverD, hu, Tryz.ntmps112, Exit.thenS]
 refine wpS_cond (t := true) (by simp [Act.eval, Array.replicate]) ?_
 simp only [if_true]
 apply wpS_region
 simp [wpOpsS, go_sem, h1, f1, hc2, f2, bodyPostS, results, Tryz.results112]
theorem uint_idle :
  CallsD Tryz.prog 112 #[.pointer (some ⟨g1, 0, none⟩), .pointer (some ⟨g2, 0, none⟩)] .returning w fun e u' w' => e = .returned (.tuple #[]) ∧ u' = .returning ∧ w' = w := by
 refine callsD_of_wpS Tryz.func112 rfl fun c₀ cs hu => ?_
 apply wpS_seq
 apply wpS_region
 simp [wpOpsS, go_sem, recoverD, hu, Tryz.ntmps112, Exit.thenS]
 refine wpS_cond (t := false) (by simp [Act.eval, Array.replicate]) ?_
 simp only [Bool.false_eq_true, if_false]
 refine wpS_of_wp (wp_skip ?_)
 cases c₀
 simp_all [bodyPostS, results, Tryz.results112]
theorem window_catch (h1 : w.cell? ⟨g1, 0, none⟩ = some x1) (f1 : w.frozen? ⟨g1, 0, none⟩ = false) (h2 : w.cell? ⟨g2, 0, none⟩ = some x2) (f2 : w.frozen? ⟨g2, 0, none⟩ = false) (hne : g1 ≠ g2) :
  CallsD Tryz.prog 114 #[.pointer (some ⟨g1, 0, none⟩), .pointer (some ⟨g2, 0, none⟩)] (.panicking ({ v := .iface u pv, recovered := false } :: older)) w fun e u' w' =>
   e = .returned (.tuple #[]) ∧ u' = .panicking ({ v := .iface u pv, recovered := true } :: older) ∧ w' = (w.setCell ⟨g1, 0, none⟩ (.slice none 0 0)).setCell ⟨g2, 0, none⟩ (.int .i64 10) := by
 have hc2 : (w.setCell ⟨g1, 0, none⟩ (.slice none 0 0)).cell? ⟨g2, 0, none⟩ = some x2 := by
  rw [World.cell?_setCell_other]
  ·exact h2
  ·intro e; injection e with e; exact hne e
 refine callsD_of_wpS Tryz.func114 rfl fun c₀ cs hu => ?_
 apply wpS_seq
 apply wpS_region
 simp [wpOpsS, go_sem, recoverD, hu, Tryz.ntmps114, Exit.thenS]
 refine wpS_cond (t := true) (by simp [Act.eval, Array.replicate]) ?_
 simp only [if_true]
 apply wpS_region
 simp [wpOpsS, go_sem, h1, f1, hc2, f2, bodyPostS, results, Tryz.results114]
theorem window_idle :
  CallsD Tryz.prog 114 #[.pointer (some ⟨g1, 0, none⟩), .pointer (some ⟨g2, 0, none⟩)] .returning w fun e u' w' => e = .returned (.tuple #[]) ∧ u' = .returning ∧ w' = w := by
 refine callsD_of_wpS Tryz.func114 rfl fun c₀ cs hu => ?_
 apply wpS_seq
 apply wpS_region
 simp [wpOpsS, go_sem, recoverD, hu, Tryz.ntmps114, Exit.thenS]
 refine wpS_cond (t := false) (by simp [Act.eval, Array.replicate]) ?_
 simp only [Bool.false_eq_true, if_false]
 refine wpS_of_wp (wp_skip ?_)
 cases c₀
 simp_all [bodyPostS, results, Tryz.results114]
end
theorem leave_ret {f : FuncId} {cap : Array Value} {fin : World → Prop} {R : Ending → World → Prop} {u : FrameMode} {w w1 : World} (hf : callF f = true) (hu : u ≠ .run) {v : Value}
  {u1 : FrameMode} (h : CallsD Tryz.prog f cap u w fun e u' w' => e = .returned v ∧ u' = u1 ∧ w' = w1) (hs : settle u1 = .returning) (hfin : fin w1) :
  leaveWp Tryz.prog callF fin R [{ target := .fn (.func f) cap, args := #[] }] u w := by
 unfold leaveWp
 simp only [hf, cond_true]
 refine ⟨hu, ?_⟩
 have e : (#[] : Array Value) ++ cap = cap := by simp
 rw [e]
 refine h.mono ?_
 rintro e u' w' ⟨rfl, rfl, rfl⟩
 simp only [hs, leaveWp]
 exact hfin
theorem uint_spec {A : Option Addr} {n c : Nat} {p k : Int} {bs : List Int} {w : World} (hb : Cells w A (bs.map (.int .u8))) (hl : bs.length = n) (hB : Bts bs) (hn : n ≤ 140737488355328) :
  Calls Tryz.prog 86 #[.slice A n c, .int .i64 p, .int .i64 k] w fun e w' => Ext w w' ∧ e = .returned (.tuple #[.int .u64 (uintS bs p k).1, .int .i64 (uintS bs p k).2]) := by
 refine view_Uint_of A n c p k w _ ?_
 unfold view_Uint_VC
 refine NewVC.blk fun g1 w1 hg1 hz1 hE1 hb1 => NewVC.blk fun g2 w2 hg2 hz2 hE2 hb2 => ?_
 have hE : Ext w w2 := hE1.ext hE2
 have hb1 := hb1.ext hE2
 have hne : g1 ≠ g2 := by omega
 refine (sized_spec k w2).mono ?_
 rintro _ w3 ⟨rfl, rfl⟩
 refine ⟨_, rfl, ?_⟩
 by_cases hk : 1 ≤ k ∧ k ≤ 8
 ·rw [decide_eq_true hk]
  refine Br.f rfl ?_
  by_cases hp : 0 ≤ p ∧ p + k ≤ n
  ·refine (number_yes (hb.ext hE) hl hB hn hk hp.1 hp.2).mono ?_
   rintro _ w6 ⟨rfl, rfl⟩
   refine ⟨_, rfl, ?_⟩
   refine SetVC.blk hb1 (by simp) fun w7 hz7 hm7 hb1 => ?_
   have hb2 := hb2.mod hm7 (fun e => hne e.symm)
   refine SetVC.blk hb2 (by simp) fun w8 hz8 hm8 hb2 => ?_
   have hb1 := hb1.mod hm8 hne
   refine leave_ret rfl nofun uint_idle rfl ?_
   refine ⟨_, hb1.cell 0, _, hb2.cell 0, ?_, ?_⟩
   ·exact (hE.trans' hm7 (fun i hi e => by omega)).trans' hm8 (fun i hi e => by omega)
   ·unfold uintS; rw [if_neg (by omega), if_pos (by omega)]
  ·refine (number_no (hb.ext hE) hl hn hp).mono ?_
   rintro _ w6 ⟨rfl, rfl⟩
   refine leave_ret (u := .panicking gapc) rfl (fun h => by cases h) (uint_catch (hb1.cell 0) (hb1.frozen 0) (hb2.cell 0) (hb2.frozen 0) hne) rfl ?_
   have hm7 := Mod.setCell w2 ⟨g1, 0, none⟩ (.int .u64 0)
   have hm8 := Mod.setCell (w2.setCell ⟨g1, 0, none⟩ (.int .u64 0)) ⟨g2, 0, none⟩ (.int .i64 10)
   have hb1 := (hb1.set 0 (.int .u64 0)).mod hm8 hne
   have hb2 := (hb2.mod hm7 (fun e => hne e.symm)).set 0 (.int .i64 10)
   refine ⟨_, hb1.cell 0, _, hb2.cell 0, ?_, ?_⟩
   ·exact (hE.trans' hm7 (fun i hi e => by simp at e; omega)).trans' hm8 (fun i hi e => by simp at e; omega)
   ·unfold uintS; rw [if_neg (by omega), if_neg (by omega)]
 ·rw [decide_eq_false hk]
  refine Br.t rfl ?_
  refine SetVC.blk hb1 (by simp) fun w7 hz7 hm7 hb1 => ?_
  have hb2 := hb2.mod hm7 (fun e => hne e.symm)
  refine SetVC.blk hb2 (by simp) fun w8 hz8 hm8 hb2 => ?_
  have hb1 := hb1.mod hm8 hne
  refine ⟨_, hb1.cell 0, _, hb2.cell 0, ?_, ?_⟩
  ·exact (hE.trans' hm7 (fun i hi e => by omega)).trans' hm8 (fun i hi e => by omega)
  ·unfold uintS; rw [if_pos (by omega)]
theorem window_yes {A : Option Addr} {n c : Nat} {p k : Int} {bs : List Value} {w : World} (hb : Cells w A bs) (hl : bs.length = n) (hc : n ≤ c) (hn : n ≤ 4611686018427387904) (h0 : 0 ≤ p) (hk : 0 ≤ k) (h1 : p + k ≤ n) :
  Calls Tryz.prog 87 #[.slice A n c, .int .i64 p, .int .i64 k] w fun e w' => Ext w w' ∧ ∃ A', e = .returned (.tuple #[.slice A' k.toNat k.toNat, .int .i64 0]) ∧ Cells w A' ((bs.drop p.toNat).take k.toNat) ∧
   A' = if k = 0 then A else A.map (·.add p.toNat) := by
 refine view_Window_of A n c p k w _ ?_
 unfold view_Window_VC
 refine NewVC.blk fun g1 w1 hg1 hz1 hE1 hb1 => NewVC.blk fun g2 w2 hg2 hz2 hE2 hb2 => ?_
 have hE : Ext w w2 := hE1.ext hE2
 have hb1 := hb1.ext hE2
 have hne : g1 ≠ g2 := by omega
 refine Br.no (by omega) ?_
 refine (part_yes (hb.ext hE) hl hc hn h0 hk h1).mono ?_
 rintro _ w6 ⟨rfl, A', rfl, _, rfl⟩
 refine ⟨_, _, _, rfl, ?_⟩
 refine SetVC.blk hb1 (by simp) fun w7 hz7 hm7 hb1 => ?_
 have hb2 := hb2.mod hm7 (fun e => hne e.symm)
 refine SetVC.blk hb2 (by simp) fun w8 hz8 hm8 hb2 => ?_
 have hb1 := hb1.mod hm8 hne
 refine leave_ret rfl nofun window_idle rfl ?_
 refine ⟨_, _, _, hb1.cell 0, _, hb2.cell 0, ?_, _, rfl, ?_, rfl⟩
 ·exact (hE.trans' hm7 (fun i hi e => by omega)).trans' hm8 (fun i hi e => by omega)
 ·exact hb.win
theorem window_no {A : Option Addr} {n c : Nat} {p k : Int} {w : World} (hn : n ≤ 140737488355328) (h : ¬ (0 ≤ p ∧ 0 ≤ k ∧ p ≤ n ∧ k ≤ n - p)) :
  Calls Tryz.prog 87 #[.slice A n c, .int .i64 p, .int .i64 k] w fun e w' => Ext w w' ∧ e = .returned (.tuple #[.slice none 0 0, .int .i64 (if k < 0 then 1 else 10)]) := by
 refine view_Window_of A n c p k w _ ?_
 unfold view_Window_VC
 refine NewVC.blk fun g1 w1 hg1 hz1 hE1 hb1 => NewVC.blk fun g2 w2 hg2 hz2 hE2 hb2 => ?_
 have hE : Ext w w2 := hE1.ext hE2
 have hb1 := hb1.ext hE2
 have hne : g1 ≠ g2 := by omega
 refine Br.dec (fun hk => ?_) (fun hk => ?_)
 ·refine SetVC.blk hb1 (by simp) fun w7 hz7 hm7 hb1 => ?_
  have hb2 := hb2.mod hm7 (fun e => hne e.symm)
  refine SetVC.blk hb2 (by simp) fun w8 hz8 hm8 hb2 => ?_
  have hb1 := hb1.mod hm8 hne
  refine ⟨_, _, _, hb1.cell 0, _, hb2.cell 0, ?_, ?_⟩
  ·exact (hE.trans' hm7 (fun i hi e => by omega)).trans' hm8 (fun i hi e => by omega)
  ·rw [if_pos hk]
 ·refine (part_no hn (by omega)).mono ?_
  rintro _ w6 ⟨rfl, rfl⟩
  refine leave_ret (u := .panicking gapc) rfl (fun h => by cases h) (window_catch (hb1.cell 0) (hb1.frozen 0) (hb2.cell 0) (hb2.frozen 0) hne) rfl ?_
  have hm7 := Mod.setCell w2 ⟨g1, 0, none⟩ (.slice none 0 0)
  have hm8 := Mod.setCell (w2.setCell ⟨g1, 0, none⟩ (.slice none 0 0)) ⟨g2, 0, none⟩ (.int .i64 10)
  have hb1 := (hb1.set 0 (.slice none 0 0)).mod hm8 hne
  have hb2 := (hb2.mod hm7 (fun e => hne e.symm)).set 0 (.int .i64 10)
  refine ⟨_, _, _, hb1.cell 0, _, hb2.cell 0, ?_, ?_⟩
  ·exact (hE.trans' hm7 (fun i hi e => by simp at e; omega)).trans' hm8 (fun i hi e => by simp at e; omega)
  ·rw [if_neg hk]
def winS (bs : List Int) (p k : Int) : List Int × Int :=
 if 0 ≤ p ∧ 0 ≤ k ∧ p + k ≤ bs.length then ((bs.drop p.toNat).take k.toNat, 0) else ([], if k < 0 then 1 else 10)
section
variable {w : World} {n c : Nat} {A : Option Addr} {bs : List Int} {p k : Int}
theorem window_spec {A : Option Addr} {n c : Nat} {p k : Int} {bs : List Value} {w : World} (hb : Cells w A bs) (hl : bs.length = n) (hc : n ≤ c) (hn : n ≤ 140737488355328) :
    Calls Tryz.prog 87 #[.slice A n c, .int .i64 p, .int .i64 k] w fun e w' => Ext w w' ∧
      ((0 ≤ p ∧ 0 ≤ k ∧ p + k ≤ n ∧ ∃ A', e = .returned (.tuple #[.slice A' k.toNat k.toNat, .int .i64 0]) ∧ Cells w A' ((bs.drop p.toNat).take k.toNat) ∧ A' = if k = 0 then A else A.map (·.add p.toNat)) ∨
       (¬ (0 ≤ p ∧ 0 ≤ k ∧ p + k ≤ n) ∧ e = .returned (.tuple #[.slice none 0 0, .int .i64 (if k < 0 then 1 else 10)]))) := by
  by_cases h : 0 ≤ p ∧ 0 ≤ k ∧ p + k ≤ n
  · exact (window_yes hb hl hc (by omega) h.1 h.2.1 h.2.2).mono fun e w' ⟨hE, h'⟩ => ⟨hE, .inl ⟨h.1, h.2.1, h.2.2, h'⟩⟩
  · exact (window_no hn (by omega)).mono fun e w' ⟨hE, h'⟩ => ⟨hE, .inr ⟨h, h'⟩⟩
theorem window_fn (hb : Cells w A (bs.map (.int .u8))) (hl : bs.length = n) (hc : n ≤ c) (hn : n ≤ 140737488355328) :
  Calls Tryz.prog 87 #[.slice A n c, .int .i64 p, .int .i64 k] w fun e w' => Ext w w' ∧ ∃ A', e = .returned (.tuple #[.slice A' (winS bs p k).1.length (winS bs p k).1.length, .int .i64 (winS bs p k).2]) ∧
   Cells w A' ((winS bs p k).1.map (.int .u8)) ∧ (0 < (winS bs p k).1.length → A' = A.map (·.add p.toNat)) := by
 refine (window_spec hb (by simpa using hl) hc hn).mono ?_
 subst hl
 rintro e w' ⟨hE, ⟨h1, h2, h3, A', rfl, hw, hA⟩ | ⟨hr, rfl⟩⟩
 ·have e1 : winS bs p k = ((bs.drop p.toNat).take k.toNat, 0) := by unfold winS; rw [if_pos ⟨h1, h2, h3⟩]
  have e2 : ((bs.drop p.toNat).take k.toNat).length = k.toNat := by rw [List.length_take, List.length_drop]; omega
  rw [e1]
  simp only [e2]
  refine ⟨hE, A', rfl, ?_, fun h0 => ?_⟩
  ·rw [List.map_take, List.map_drop]; exact hw
  ·rw [hA, if_neg (by omega)]
 ·have e1 : winS bs p k = ([], if k < 0 then 1 else 10) := by unfold winS; rw [if_neg hr]
  rw [e1]
  exact ⟨hE, none, rfl, Cells.nil _ _, fun h => by simp at h⟩
end
section
variable {w : World} {g n c : Nat} {A : Option Addr} {xs : List Int} {p k : Int}
def nextAt (err p k : Int) : Int := if err = 0 then p + k else p
theorem uintS_range (xs : List Int) (p k : Int) (h : (uintS xs p k).2 = 0) : 1 ≤ k ∧ 0 ≤ p ∧ p + k ≤ xs.length := by
 unfold uintS at h
 split at h
 ·simp at h
 ·split at h
  ·omega
  ·simp at h
theorem winS_range (xs : List Int) (p k : Int) (h : (winS xs p k).2 = 0) : 0 ≤ k ∧ 0 ≤ p ∧ p + k ≤ xs.length := by
 unfold winS at h
 split at h
 ·omega
 ·simp only at h; split at h <;> omega
theorem At_spec : Calls Tryz.prog 55 #[.slice A n c] w fun e w' => Ext w w' ∧ e = .returned (.pointer (some ⟨w.heap.size, 0, none⟩)) ∧ Blk w' w.heap.size 129 [.slice A n c, .int .i64 0] := by
 refine view_At_of A n c w _ ?_
 unfold view_At_VC
 refine NewVC.blk fun g1 w1 hg1 hz1 hE1 hb1 => ?_
 subst hg1
 exact ⟨hE1, rfl, hb1⟩
theorem winCells {w1 : World} {A' : Option Addr} (hc : Cells w A (xs.map (.int .u8))) (hw : Cells w1 A' ((winS xs p k).1.map (.int .u8))) (hA : 0 < (winS xs p k).1.length → A' = A.map (·.add p.toNat)) : Cells w A' ((winS xs p k).1.map (.int .u8)) := by
 by_cases h0 : (winS xs p k).1.length = 0
 ·rw [List.eq_nil_of_length_eq_zero h0]; exact Cells.nil _ _
 ·rw [hA (by omega)]
  unfold winS at h0 ⊢
  split
  ·rename_i hr
   rw [if_pos hr] at h0
   have := Cells.win hc (p := p) (k := k)
   rw [if_neg (by intro e; subst e; simp at h0)] at this
   rw [List.map_take, List.map_drop]; exact this
  ·rename_i hr
   rw [if_neg hr] at h0; simp at h0
theorem curUint_spec (hb : Blk w g 129 [.slice A n c, .int .i64 p]) (hc : Cells w A (xs.map (.int .u8))) (hl : xs.length = n) (hB : Bts xs) (hn : n ≤ 1048700) (_hnc : n ≤ c) :
  Calls Tryz.prog 58 #[.pointer (some ⟨g, 0, none⟩), .int .i64 k] w fun e w' => Mod (fun k => k = g) w w' ∧ e = .returned (.tuple #[.int .u64 (uintS xs p k).1, .int .i64 (uintS xs p k).2]) ∧
   Blk w' g 129 [.slice A n c, .int .i64 (nextAt (uintS xs p k).2 p k)] := by
 refine view_Cursor_Uint_of _ k w _ ?_
 unfold view_Cursor_Uint_VC
 intro w1 hw1
 have hE : Ext w w1 := by subst hw1; exact Ext.drew w
 refine ⟨fun w' => Ext w w', hE, _, rfl, _, _, _, fun w' h => (hb.ext h).cell 0, _, rfl, _, fun w' h => (hb.ext h).cell 1, ?_⟩
 refine (uint_spec (hc.ext hE) hl hB (by omega)).mono ?_
 rintro _ w2 ⟨hE2, rfl⟩
 refine ⟨_, _, rfl, (hE.ext hE2), Br.dec (fun h0 => ?_) (fun h0 => ?_)⟩
 ·have hr := uintS_range xs p k h0
  refine ⟨_, rfl, _, (hb.ext (hE.ext hE2)).cell 1, _, rfl, ?_⟩
  refine SetVC.blk (g := g) (i := 1) (hb.ext (hE.ext hE2)) (by simp) fun w3 hz3 hm3 hb3 => ?_
  rw [w64 (n := p + k) (by omega) (by omega)] at hb3
  refine ⟨(((hE.ext hE2)).to _).trans hm3, rfl, ?_⟩
  unfold nextAt
  rw [if_pos h0]
  exact hb3
 ·refine ⟨((hE.ext hE2)).to _, rfl, ?_⟩
  unfold nextAt
  rw [if_neg h0]
  exact hb.ext (hE.ext hE2)
theorem curWindow_spec (hb : Blk w g 129 [.slice A n c, .int .i64 p]) (hc : Cells w A (xs.map (.int .u8))) (hl : xs.length = n) (hn : n ≤ 1048700) (hnc : n ≤ c) :
  Calls Tryz.prog 59 #[.pointer (some ⟨g, 0, none⟩), .int .i64 k] w fun e w' => Mod (fun k => k = g) w w' ∧ (∃ A' c', e = .returned (.tuple #[.slice A' (winS xs p k).1.length c', .int .i64 (winS xs p k).2]) ∧
   c' = (winS xs p k).1.length ∧ (0 < (winS xs p k).1.length → A' = A.map (·.add p.toNat)) ∧ Cells w A' ((winS xs p k).1.map (.int .u8))) ∧ Blk w' g 129 [.slice A n c, .int .i64 (nextAt (winS xs p k).2 p k)] := by
 refine view_Cursor_Window_of _ k w _ ?_
 unfold view_Cursor_Window_VC
 intro w1 hw1
 have hE : Ext w w1 := by subst hw1; exact Ext.drew w
 have hsz : w1.heap.size = w.heap.size := by subst hw1; rfl
 refine ⟨fun w' => Ext w w', hE, _, rfl, _, _, _, fun w' h => (hb.ext h).cell 0, _, rfl, _, fun w' h => (hb.ext h).cell 1, ?_⟩
 refine (window_fn (hc.ext hE) hl hnc (by omega)).mono ?_
 rintro _ w2 ⟨hE2, A', rfl, hw, hA⟩
 have hE2 := hE.ext hE2
 have hcw : Cells w A' ((winS xs p k).1.map (.int .u8)) := winCells hc hw hA
 refine ⟨_, _, _, _, rfl, hE2, Br.dec (fun h0 => ?_) (fun h0 => ?_)⟩
 ·have hr := winS_range xs p k h0
  refine ⟨_, rfl, _, (hb.ext hE2).cell 1, _, rfl, ?_⟩
  refine SetVC.blk (g := g) (i := 1) (hb.ext hE2) (by simp) fun w3 hz3 hm3 hb3 => ?_
  rw [w64 (n := p + k) (by omega) (by omega)] at hb3
  refine ⟨(hE2.to _).trans hm3, ⟨A', _, rfl, rfl, hA, hcw⟩, ?_⟩
  unfold nextAt
  rw [if_pos h0]
  exact hb3
 ·refine ⟨hE2.to _, ⟨A', _, rfl, rfl, hA, hcw⟩, ?_⟩
  unfold nextAt
  rw [if_neg h0]
  exact hb.ext hE2
theorem curSkip_spec (hb : Blk w g 129 [.slice A n c, .int .i64 p]) (hc : Cells w A (xs.map (.int .u8))) (hl : xs.length = n) (hn : n ≤ 1048700) (hnc : n ≤ c) :
  Calls Tryz.prog 56 #[.pointer (some ⟨g, 0, none⟩), .int .i64 k] w fun e w' => Mod (fun k => k = g) w w' ∧ e = .returned (.int .i64 (winS xs p k).2) ∧
   Blk w' g 129 [.slice A n c, .int .i64 (nextAt (winS xs p k).2 p k)] := by
 refine view_Cursor_Skip_of _ k w _ ?_
 unfold view_Cursor_Skip_VC
 refine (curWindow_spec hb hc hl hn hnc).mono ?_
 rintro _ w2 ⟨hm, ⟨A', c', rfl, -⟩, hb'⟩
 exact ⟨_, _, _, _, rfl, hm, rfl, hb'⟩
theorem curLeft_spec (hb : Blk w g 129 [.slice A n c, .int .i64 p]) (h0 : 0 ≤ p) (h1 : p ≤ n) (hn : n ≤ 140737488355328) :
  Calls Tryz.prog 57 #[.pointer (some ⟨g, 0, none⟩)] w fun e w' => Ext w w' ∧ e = .returned (.int .i64 (n - p)) := by
 refine view_Cursor_Left_of _ w _ ?_
 unfold view_Cursor_Left_VC
 intro w1 hw1
 have hE : Ext w w1 := by subst hw1; exact Ext.drew w
 refine ⟨fun w' => Ext w w', hE, _, rfl, _, _, _, fun w' h => (hb.ext h).cell 0, _, rfl, _, fun w' h => (hb.ext h).cell 1, hE, ?_⟩
 rw [w64 (by omega) (by omega)]
end
end Nd
end Go.Proofs.YtjngdcilnipjcaaGreatDoor
