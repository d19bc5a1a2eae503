/- WRITTEN BY a program of this session (vc.py): for each Go function the condition that is enough for its contract, and the theorem that it is. -/
import Derived.Test.YtjngdcilnipjcaaGreatDoorProg
import Derived.Test.YtjngdcilnipjcaaGreatDoorBq
import Derived.Test.YtjngdcilnipjcaaGreatDoorBf
import Derived.Test.YtjngdcilnipjcaaGreatDoorBm
namespace Go.Proofs.YtjngdcilnipjcaaGreatDoor
set_option maxRecDepth 100000
open Go.Eng
namespace Nd
def callF (f : Nat) : Bool := Nat.ble 3 f && Nat.ble f 142 && !(Nat.beq f 110) && !(Nat.beq f 128)
theorem callAll : ((List.range 143).all fun f => !(callF f) || callableB Tryz.prog f) = true := by kernel_rfl
theorem callOk : ∀ f, callF f = true → callableB Tryz.prog f = true := by
 intro f hf
 have h := List.all_eq_true.1 callAll f (by simp [callF] at hf; simp; omega)
 simpa [hf] using h
theorem mixedOk : Tryz.prog.follows .mixedOrders = true := by kernel_rfl
def weirref4_Class_J7423 (R : EWP) (g1 : Nat) (t30_ : Bool) (w14 : World) : Prop := Br t30_ (R (.returned (I6 4)) w14)
 (∃ x09 x130 x212 x310 x49 x59 x69 x79 x89 x99 x109 x1112 x1210 x139 x149 x159 x169, CA_ w14 g1 [I6 x09, U8 x130, U8 x212, U8 x310, U8 x49, U8 x59, U8 x69, U8 x79, U8 x89, U8 x99, U8 x109, U8 x1112, U8 x1210, U8 x139, U8 x149, U8 x159, U8 x169] ∧
 Calls Tryz.prog 66 #[.string ⟨#[50, 53, 53, 46, 50, 53, 53, 46, 50, 53, 53, 46, 50, 53, 53, 47, 51, 50]⟩, .agg #[I6 x09, U8 x130, U8 x212, U8 x310, U8 x49, U8 x59, U8 x69, U8 x79, U8 x89, U8 x99, U8 x109, U8 x1112, U8 x1210, U8 x139, U8 x149, U8 x159, U8 x169]] w14 (onRet (fun r_9 w15 => ∃ x50, r_9 = .bool x50 ∧
 Br x50 (R (.returned (I6 5)) w15)
 (∃ x010 x140 x213 x311 x410 x510 x610 x710 x810 x910 x1010 x1113 x1211 x1310 x1410 x1510 x1610, CA_ w15 g1 [I6 x010, U8 x140, U8 x213, U8 x311, U8 x410, U8 x510, U8 x610, U8 x710, U8 x810, U8 x910, U8 x1010, U8 x1113, U8 x1211, U8 x1310, U8 x1410, U8 x1510, U8 x1610] ∧
 Calls Tryz.prog 66 #[.string ⟨#[48, 46, 48, 46, 48, 46, 48, 47, 56]⟩, .agg #[I6 x010, U8 x140, U8 x213, U8 x311, U8 x410, U8 x510, U8 x610, U8 x710, U8 x810, U8 x910, U8 x1010, U8 x1113, U8 x1211, U8 x1310, U8 x1410, U8 x1510, U8 x1610]] w15 (onRet (fun r_10 w16 => ∃ x60, r_10 = .bool x60 ∧ Br x60
 (R (.returned (I6 6)) w16) (∃ x011 x150 x214 x312 x411 x511 x611 x711 x811 x911 x1011 x1114 x1212 x1311 x1411 x1511 x1611, CA_ w16 g1 [I6 x011, U8 x150, U8 x214, U8 x312, U8 x411, U8 x511, U8 x611, U8 x711, U8 x811, U8 x911, U8 x1011, U8 x1114, U8 x1212, U8 x1311, U8 x1411, U8 x1511, U8 x1611] ∧
 Calls Tryz.prog 66 #[.string ⟨#[50, 52, 48, 46, 48, 46, 48, 46, 48, 47, 52]⟩, .agg #[I6 x011, U8 x150, U8 x214, U8 x312, U8 x411, U8 x511, U8 x611, U8 x711, U8 x811, U8 x911, U8 x1011, U8 x1114, U8 x1212, U8 x1311, U8 x1411, U8 x1511, U8 x1611]] w16 (onRet (fun r_11 w17 => ∃ x70, r_11 = .bool x70 ∧
 Br x70 (R (.returned (I6 6)) w17)
 (∃ x012 x160 x215 x313 x412 x512 x612 x712 x812 x912 x1012 x1115 x1213 x1312 x1412 x1512 x1612, CA_ w17 g1 [I6 x012, U8 x160, U8 x215, U8 x313, U8 x412, U8 x512, U8 x612, U8 x712, U8 x812, U8 x912, U8 x1012, U8 x1115, U8 x1213, U8 x1312, U8 x1412, U8 x1512, U8 x1612] ∧
 Calls Tryz.prog 66 #[.string ⟨#[58, 58, 47, 56]⟩, .agg #[I6 x012, U8 x160, U8 x215, U8 x313, U8 x412, U8 x512, U8 x612, U8 x712, U8 x812, U8 x912, U8 x1012, U8 x1115, U8 x1213, U8 x1312, U8 x1412, U8 x1512, U8 x1612]] w17 (onRet (fun r_12 w18 => ∃ x80, r_12 = .bool x80 ∧ Br x80
 (R (.returned (I6 6)) w18) (R (.returned (I6 7)) w18)) (pn_ R)))) (pn_ R)))) (pn_ R)))) (pn_ R)))
def weirref4_Class_J1855 (R : EWP) (g1 : Nat) (t23_ : Bool) (w11 : World) : Prop := Br t23_ (R (.returned (I6 3)) w11) (JoinVC (S := Bool) (fun J7423 =>
 ∃ x07 x120 x210 x37 x47 x57 x67 x77 x87 x97 x107 x1110 x127 x137 x147 x157 x167, CA_ w11 g1 [I6 x07, U8 x120, U8 x210, U8 x37, U8 x47, U8 x57, U8 x67, U8 x77, U8 x87, U8 x97, U8 x107, U8 x1110, U8 x127, U8 x137, U8 x147, U8 x157, U8 x167] ∧
 Calls Tryz.prog 66 #[.string ⟨#[49, 54, 57, 46, 50, 53, 52, 46, 48, 46, 48, 47, 49, 54]⟩, .agg #[I6 x07, U8 x120, U8 x210, U8 x37, U8 x47, U8 x57, U8 x67, U8 x77, U8 x87, U8 x97, U8 x107, U8 x1110, U8 x127, U8 x137, U8 x147, U8 x157, U8 x167]] w11 (onRet (fun r_7 w12 => ∃ x38, r_7 = .bool x38 ∧
 Br x38 (J7423 true w12) (∃ x08 x128 x211 x39 x48 x58 x68 x78 x88 x98 x108 x1111 x129 x138 x148 x158 x168, CA_ w12 g1 [I6 x08, U8 x128, U8 x211, U8 x39, U8 x48, U8 x58, U8 x68, U8 x78, U8 x88, U8 x98, U8 x108, U8 x1111, U8 x129, U8 x138, U8 x148, U8 x158, U8 x168] ∧
 Calls Tryz.prog 66 #[.string ⟨#[102, 101, 56, 48, 58, 58, 47, 49, 48]⟩, .agg #[I6 x08, U8 x128, U8 x211, U8 x39, U8 x48, U8 x58, U8 x68, U8 x78, U8 x88, U8 x98, U8 x108, U8 x1111, U8 x129, U8 x138, U8 x148, U8 x158, U8 x168]] w12 (onRet (fun r_8 w13 => ∃ x40, r_8 = .bool x40 ∧ J7423 x40 w13)
 (pn_ R)))) (pn_ R))) (fun s_ w14 => weirref4_Class_J7423 R g1 s_ w14))
def weirref4_Class_J463 (R : EWP) (g1 : Nat) (t16_ : Bool) (w8 : World) : Prop := Br t16_ (R (.returned (I6 2)) w8) (JoinVC (S := Bool) (fun J1855 =>
 ∃ x05 x116 x27 x35 x45 x55 x65 x75 x85 x95 x105 x117 x125 x135 x145 x155 x165, CA_ w8 g1 [I6 x05, U8 x116, U8 x27, U8 x35, U8 x45, U8 x55, U8 x65, U8 x75, U8 x85, U8 x95, U8 x105, U8 x117, U8 x125, U8 x135, U8 x145, U8 x155, U8 x165] ∧
 Calls Tryz.prog 66 #[.string ⟨#[50, 50, 52, 46, 48, 46, 48, 46, 48, 47, 52]⟩, .agg #[I6 x05, U8 x116, U8 x27, U8 x35, U8 x45, U8 x55, U8 x65, U8 x75, U8 x85, U8 x95, U8 x105, U8 x117, U8 x125, U8 x135, U8 x145, U8 x155, U8 x165]] w8 (onRet (fun r_5 w9 => ∃ x28, r_5 = .bool x28 ∧ Br x28
 (J1855 true w9) (∃ x06 x118 x29 x36 x46 x56 x66 x76 x86 x96 x106 x119 x126 x136 x146 x156 x166, CA_ w9 g1 [I6 x06, U8 x118, U8 x29, U8 x36, U8 x46, U8 x56, U8 x66, U8 x76, U8 x86, U8 x96, U8 x106, U8 x119, U8 x126, U8 x136, U8 x146, U8 x156, U8 x166] ∧
 Calls Tryz.prog 66 #[.string ⟨#[102, 102, 48, 48, 58, 58, 47, 56]⟩, .agg #[I6 x06, U8 x118, U8 x29, U8 x36, U8 x46, U8 x56, U8 x66, U8 x76, U8 x86, U8 x96, U8 x106, U8 x119, U8 x126, U8 x136, U8 x146, U8 x156, U8 x166]] w9 (onRet (fun r_6 w10 => ∃ x30, r_6 = .bool x30 ∧ J1855 x30 w10) (pn_ R))))
 (pn_ R))) (fun s_ w11 => weirref4_Class_J1855 R g1 s_ w11))
def weirref4_Class_J115 (R : EWP) (g1 : Nat) (t9_ : Bool) (w5 : World) : Prop := Br t9_ (R (.returned (I6 1)) w5) (JoinVC (S := Bool) (fun J463 =>
 ∃ x03 x110 x23 x33 x43 x53 x63 x73 x83 x93 x103 x113 x123 x133 x143 x153 x163, CA_ w5 g1 [I6 x03, U8 x110, U8 x23, U8 x33, U8 x43, U8 x53, U8 x63, U8 x73, U8 x83, U8 x93, U8 x103, U8 x113, U8 x123, U8 x133, U8 x143, U8 x153, U8 x163] ∧
 Calls Tryz.prog 66 #[.string ⟨#[49, 50, 55, 46, 48, 46, 48, 46, 48, 47, 56]⟩, .agg #[I6 x03, U8 x110, U8 x23, U8 x33, U8 x43, U8 x53, U8 x63, U8 x73, U8 x83, U8 x93, U8 x103, U8 x113, U8 x123, U8 x133, U8 x143, U8 x153, U8 x163]] w5 (onRet (fun r_3 w6 => ∃ x24, r_3 = .bool x24 ∧ Br x24
 (J463 true w6) (∃ x04 x114 x25 x34 x44 x54 x64 x74 x84 x94 x104 x115 x124 x134 x144 x154 x164, CA_ w6 g1 [I6 x04, U8 x114, U8 x25, U8 x34, U8 x44, U8 x54, U8 x64, U8 x74, U8 x84, U8 x94, U8 x104, U8 x115, U8 x124, U8 x134, U8 x144, U8 x154, U8 x164] ∧
 Calls Tryz.prog 66 #[.string ⟨#[58, 58, 49, 47, 49, 50, 56]⟩, .agg #[I6 x04, U8 x114, U8 x25, U8 x34, U8 x44, U8 x54, U8 x64, U8 x74, U8 x84, U8 x94, U8 x104, U8 x115, U8 x124, U8 x134, U8 x144, U8 x154, U8 x164]] w6 (onRet (fun r_4 w7 => ∃ x26, r_4 = .bool x26 ∧ J463 x26 w7) (pn_ R)))) (pn_ R)))
 (fun s_ w8 => weirref4_Class_J463 R g1 s_ w8))
def weirref4_Class_VC (ip_V ip_0 ip_1 ip_2 ip_3 ip_4 ip_5 ip_6 ip_7 ip_8 ip_9 ip_10 ip_11 ip_12 ip_13 ip_14 ip_15 : Int) (w : World) (R : EWP) : Prop :=
 NewVC w (.cells #[I6 ip_V, U8 ip_0, U8 ip_1, U8 ip_2, U8 ip_3, U8 ip_4, U8 ip_5, U8 ip_6, U8 ip_7, U8 ip_8, U8 ip_9, U8 ip_10, U8 ip_11, U8 ip_12, U8 ip_13, U8 ip_14, U8 ip_15] 24) fun g1 w1 =>
 ∃ x0 x1 x2 x3 x4 x5 x6 x7 x8 x9 x10 x11 x12 x13 x14 x15 x16, CA_ w1 g1 [I6 x0, U8 x1, U8 x2, U8 x3, U8 x4, U8 x5, U8 x6, U8 x7, U8 x8, U8 x9, U8 x10, U8 x11, U8 x12, U8 x13, U8 x14, U8 x15, U8 x16] ∧
 Calls Tryz.prog 65 #[.agg #[I6 x0, U8 x1, U8 x2, U8 x3, U8 x4, U8 x5, U8 x6, U8 x7, U8 x8, U8 x9, U8 x10, U8 x11, U8 x12, U8 x13, U8 x14, U8 x15, U8 x16]] w1 (onRet (fun r_ w2 => ∃ x, r_ = .bool x ∧ Br (!x) (R (.returned (I6 0)) w2) (JoinVC (S := Bool) (fun J115 =>
 ∃ x01 x17 x21 x31 x41 x51 x61 x71 x81 x91 x101 x111 x121 x131 x141 x151 x161, CA_ w2 g1 [I6 x01, U8 x17, U8 x21, U8 x31, U8 x41, U8 x51, U8 x61, U8 x71, U8 x81, U8 x91, U8 x101, U8 x111, U8 x121, U8 x131, U8 x141, U8 x151, U8 x161] ∧
 Calls Tryz.prog 66 #[.string ⟨#[48, 46, 48, 46, 48, 46, 48, 47, 51, 50]⟩, .agg #[I6 x01, U8 x17, U8 x21, U8 x31, U8 x41, U8 x51, U8 x61, U8 x71, U8 x81, U8 x91, U8 x101, U8 x111, U8 x121, U8 x131, U8 x141, U8 x151, U8 x161]] w2 (onRet (fun r_1 w3 => ∃ x18, r_1 = .bool x18 ∧ Br x18 (J115 true w3)
 (∃ x02 x19 x22 x32 x42 x52 x62 x72 x82 x92 x102 x112 x122 x132 x142 x152 x162, CA_ w3 g1 [I6 x02, U8 x19, U8 x22, U8 x32, U8 x42, U8 x52, U8 x62, U8 x72, U8 x82, U8 x92, U8 x102, U8 x112, U8 x122, U8 x132, U8 x142, U8 x152, U8 x162] ∧
 Calls Tryz.prog 66 #[.string ⟨#[58, 58, 47, 49, 50, 56]⟩, .agg #[I6 x02, U8 x19, U8 x22, U8 x32, U8 x42, U8 x52, U8 x62, U8 x72, U8 x82, U8 x92, U8 x102, U8 x112, U8 x122, U8 x132, U8 x142, U8 x152, U8 x162]] w3 (onRet (fun r_2 w4 => ∃ x20, r_2 = .bool x20 ∧ J115 x20 w4) (pn_ R)))) (pn_ R)))
 (fun s_ w5 => weirref4_Class_J115 R g1 s_ w5))) (pn_ R))
def weirref4_Class_H : Hints := [(115, [(9, .bool)]), (463, [(16, .bool)]), (1855, [(23, .bool)]), (7423, [(30, .bool)])]
theorem weirref4_Class_of (ip_V ip_0 ip_1 ip_2 ip_3 ip_4 ip_5 ip_6 ip_7 ip_8 ip_9 ip_10 ip_11 ip_12 ip_13 ip_14 ip_15 : Int) (w : World) (R : EWP) (h_ : weirref4_Class_VC ip_V ip_0 ip_1 ip_2 ip_3 ip_4 ip_5 ip_6 ip_7 ip_8 ip_9 ip_10 ip_11 ip_12 ip_13 ip_14 ip_15 w R) :
 Calls Tryz.prog 34 #[.agg #[I6 ip_V, U8 ip_0, U8 ip_1, U8 ip_2, U8 ip_3, U8 ip_4, U8 ip_5, U8 ip_6, U8 ip_7, U8 ip_8, U8 ip_9, U8 ip_10, U8 ip_11, U8 ip_12, U8 ip_13, U8 ip_14, U8 ip_15]] w R :=
 calls_of_wpc callOk mixedOk (H := weirref4_Class_H) (c := bodyOf Tryz.f34) Tryz.func34 rfl (nb_ rfl)
 (Eq.mp (by kernel_rfl) h_)
def weirref8_target_VC (ip_V ip_0 ip_1 ip_2 ip_3 ip_4 ip_5 ip_6 ip_7 ip_8 ip_9 ip_10 ip_11 ip_12 ip_13 ip_14 ip_15 : Int) (w : World) (R : EWP) : Prop :=
 NewVC w (.cells #[I6 ip_V, U8 ip_0, U8 ip_1, U8 ip_2, U8 ip_3, U8 ip_4, U8 ip_5, U8 ip_6, U8 ip_7, U8 ip_8, U8 ip_9, U8 ip_10, U8 ip_11, U8 ip_12, U8 ip_13, U8 ip_14, U8 ip_15] 24) fun g1 w1 =>
 ∃ x0 x1 x2 x3 x4 x5 x6 x7 x8 x9 x10 x11 x12 x13 x14 x15 x16, CA_ w1 g1 [I6 x0, U8 x1, U8 x2, U8 x3, U8 x4, U8 x5, U8 x6, U8 x7, U8 x8, U8 x9, U8 x10, U8 x11, U8 x12, U8 x13, U8 x14, U8 x15, U8 x16] ∧
 Calls Tryz.prog 34 #[.agg #[I6 x0, U8 x1, U8 x2, U8 x3, U8 x4, U8 x5, U8 x6, U8 x7, U8 x8, U8 x9, U8 x10, U8 x11, U8 x12, U8 x13, U8 x14, U8 x15, U8 x16]] w1 (onRet (fun r_ w2 => ∃ x, r_ = I6 x ∧ ∃ x17, w2.cell? (ad_ g1 0) = some (I6 x17) ∧ Br (decide (x17 = 6)) (Br (decide (x ≠ 3))
 (R (.returned (.bool (decide (x ≠ 1)))) w2) (R (.returned (.bool false)) w2)) (R (.returned (.bool false)) w2)) (pn_ R))
def weirref8_target_H : Hints := []
theorem weirref8_target_of (ip_V ip_0 ip_1 ip_2 ip_3 ip_4 ip_5 ip_6 ip_7 ip_8 ip_9 ip_10 ip_11 ip_12 ip_13 ip_14 ip_15 : Int) (w : World) (R : EWP) (h_ : weirref8_target_VC ip_V ip_0 ip_1 ip_2 ip_3 ip_4 ip_5 ip_6 ip_7 ip_8 ip_9 ip_10 ip_11 ip_12 ip_13 ip_14 ip_15 w R) :
 Calls Tryz.prog 38 #[.agg #[I6 ip_V, U8 ip_0, U8 ip_1, U8 ip_2, U8 ip_3, U8 ip_4, U8 ip_5, U8 ip_6, U8 ip_7, U8 ip_8, U8 ip_9, U8 ip_10, U8 ip_11, U8 ip_12, U8 ip_13, U8 ip_14, U8 ip_15]] w R :=
 calls_of_wpc callOk mixedOk (H := weirref8_target_H) (c := bodyOf Tryz.f38) Tryz.func38 rfl (nb_ rfl)
 (Eq.mp (by kernel_rfl) h_)
def addr_Class_L58 (R : EWP) (g1 : Nat) (x01 x17 x21 x31 x41 x51 x61 x71 x81 x91 x101 x111 x121 x131 x141 x151 x161 x171 x18 x19 x20 x211 x22 x23 x24 x25 x26 x27 x28 x29 x30 x311 x32 x33 x34 x35 x36 x37 x38 x39 x40 x411 x42 x43 x44 x45 x46 x47 x48 x49 x50 x511 x52 x53 x54 x55 x56 x57 x58 x59 x60 x611 x62 x63 x64 x65 x66 x67 x68 x69 x70 x711 x72 x73 x74 x75 x76 x77 x78 x79 x80 x811 x82 x83 x84 x85 x86 x87 x88 x89 x90 x911 x92 x93 x94 x95 x96 x97 x98 x99 x100 x1011 x102 x103 x104 x105 x106 x107 x108 x109 x110 x1111 x112 x113 x114 x115 x116 x117 x118 x119 x120 x1211 x122 x123 x124 x125 x126 x127 x128 x129 x130 x1311 x132 x133 x134 x135 x136 x137 x138 x139 x140 x1411 x142 x143 x144 x145 x146 x147 x148 x149 x150 x1511 x152 x153 x154 x155 x156 x157 x158 x159 x160 x1611 x162 x163 x164 x165 x166 x167 x168 x169 x170 x1711 x172 x173 x174 x175 x176 x177 x178 x179 x180 x181 x182 x183 x184 x185 x186 x187 x188 x189 x190 x191 x192 x193 x194 x195 x196 x197 x198 x199 x200 x201 x202 x203 x204 x205 x206 x207 x208 x209 x210 x2111 x212 x213 x214 x215 x216 x217 x218 x219 x220 x221 x222 x223 x224 x225 x226 x227 t9_ : Int) (w3 : World) (K58 : (Int → World → Prop)) : Prop :=
 Br (decide (t9_ < 12))
 (∃ x02 x1100 x228 x310 x410 x510 x610 x710 x810 x910 x1010 x1110 x1210 x1310 x1410 x1510 x1610 x1710 x1810, PartVC ([I6 x01, U8 x17, U8 x21, U8 x31, U8 x41, U8 x51, U8 x61, U8 x71, U8 x81, U8 x91, U8 x101, U8 x111, U8 x121, U8 x131, U8 x141, U8 x151, U8 x161, I6 x171, I6 x18, I6 x19, U8 x20, U8 x211, U8 x22, U8 x23, U8 x24, U8 x25, U8 x26, U8 x27, U8 x28, U8 x29, U8 x30, U8 x311, U8 x32, U8 x33, U8 x34, U8 x35, I6 x36, I6 x37, I6 x38, U8 x39, U8 x40, U8 x411, U8 x42, U8 x43, U8 x44, U8 x45, U8 x46, U8 x47, U8 x48, U8 x49, U8 x50, U8 x511, U8 x52, U8 x53, U8 x54, I6 x55, I6 x56, I6 x57, U8 x58, U8 x59, U8 x60, U8 x611, U8 x62, U8 x63, U8 x64, U8 x65, U8 x66, U8 x67, U8 x68, U8 x69, U8 x70, U8 x711, U8 x72, U8 x73, I6 x74, I6 x75, I6 x76, U8 x77, U8 x78, U8 x79, U8 x80, U8 x811, U8 x82, U8 x83, U8 x84, U8 x85, U8 x86, U8 x87, U8 x88, U8 x89, U8 x90, U8 x911, U8 x92, I6 x93, I6 x94, I6 x95, U8 x96, U8 x97, U8 x98, U8 x99, U8 x100, U8 x1011, U8 x102, U8 x103, U8 x104, U8 x105, U8 x106, U8 x107, U8 x108, U8 x109, U8 x110, U8 x1111, I6 x112, I6 x113, I6 x114, U8 x115, U8 x116, U8 x117, U8 x118, U8 x119, U8 x120, U8 x1211, U8 x122, U8 x123, U8 x124, U8 x125, U8 x126, U8 x127, U8 x128, U8 x129, U8 x130, I6 x1311, I6 x132, I6 x133, U8 x134, U8 x135, U8 x136, U8 x137, U8 x138, U8 x139, U8 x140, U8 x1411, U8 x142, U8 x143, U8 x144, U8 x145, U8 x146, U8 x147, U8 x148, U8 x149, I6 x150, I6 x1511, I6 x152, U8 x153, U8 x154, U8 x155, U8 x156, U8 x157, U8 x158, U8 x159, U8 x160, U8 x1611, U8 x162, U8 x163, U8 x164, U8 x165, U8 x166, U8 x167, U8 x168, I6 x169, I6 x170, I6 x1711, U8 x172, U8 x173, U8 x174, U8 x175, U8 x176, U8 x177, U8 x178, U8 x179, U8 x180, U8 x181, U8 x182, U8 x183, U8 x184, U8 x185, U8 x186, U8 x187, I6 x188, I6 x189, I6 x190, U8 x191, U8 x192, U8 x193, U8 x194, U8 x195, U8 x196, U8 x197, U8 x198, U8 x199, U8 x200, U8 x201, U8 x202, U8 x203, U8 x204, U8 x205, U8 x206, I6 x207, I6 x208, I6 x209, U8 x210, U8 x2111, U8 x212, U8 x213, U8 x214, U8 x215, U8 x216, U8 x217, U8 x218, U8 x219, U8 x220, U8 x221, U8 x222, U8 x223, U8 x224, U8 x225, I6 x226, I6 x227]) t9_ 12 19 ([I6 x02, U8 x1100, U8 x228, U8 x310, U8 x410, U8 x510, U8 x610, U8 x710, U8 x810, U8 x910, U8 x1010, U8 x1110, U8 x1210, U8 x1310, U8 x1410, U8 x1510, U8 x1610, I6 x1710, I6 x1810]) ∧
 NewVC w3 (.cells #[I6 0, U8 0, U8 0, U8 0, U8 0, U8 0, U8 0, U8 0, U8 0, U8 0, U8 0, U8 0, U8 0, U8 0, U8 0, U8 0, U8 0, I6 0, I6 0] 123) fun g2 w4 => SetVC w4 ⟨g2, 0, none⟩ (I6 x02) fun w5 => SetVC w5 ⟨g2, 1, none⟩ (U8 x1100) fun w6 => SetVC w6 ⟨g2, 2, none⟩ (U8 x228) fun w7 =>
 SetVC w7 ⟨g2, 3, none⟩ (U8 x310) fun w8 => SetVC w8 ⟨g2, 4, none⟩ (U8 x410) fun w9 => SetVC w9 ⟨g2, 5, none⟩ (U8 x510) fun w10 => SetVC w10 ⟨g2, 6, none⟩ (U8 x610) fun w11 => SetVC w11 ⟨g2, 7, none⟩ (U8 x710) fun w12 => SetVC w12 ⟨g2, 8, none⟩ (U8 x810) fun w13 =>
 SetVC w13 ⟨g2, 9, none⟩ (U8 x910) fun w14 => SetVC w14 ⟨g2, 10, none⟩ (U8 x1010) fun w15 => SetVC w15 ⟨g2, 11, none⟩ (U8 x1110) fun w16 => SetVC w16 ⟨g2, 12, none⟩ (U8 x1210) fun w17 => SetVC w17 ⟨g2, 13, none⟩ (U8 x1310) fun w18 => SetVC w18 ⟨g2, 14, none⟩ (U8 x1410) fun w19 =>
 SetVC w19 ⟨g2, 15, none⟩ (U8 x1510) fun w20 => SetVC w20 ⟨g2, 16, none⟩ (U8 x1610) fun w21 => SetVC w21 ⟨g2, 17, none⟩ (I6 x1710) fun w22 => SetVC w22 ⟨g2, 18, none⟩ (I6 x1810) fun w23 => DrawVC w23 fun S1 w24 => ∃ x229, (∀ w' : World, S1 w' → w'.cell? ⟨g2, 0, none⟩ = some (I6 x229)) ∧
 ∃ x230, (∀ w' : World, S1 w' → w'.cell? ⟨g1, 0, none⟩ = some (I6 x230)) ∧ Br (decide (x229 = x230))
 (∃ x03 x1101 x231 x312 x412 x512 x612 x712 x812 x912 x1012 x1112 x1212 x1312 x1412 x1512, (∀ w' : World, S1 w' → CellsAt w' ⟨g1, 1, none⟩ 0 [U8 x03, U8 x1101, U8 x231, U8 x312, U8 x412, U8 x512, U8 x612, U8 x712, U8 x812, U8 x912, U8 x1012, U8 x1112, U8 x1212, U8 x1312, U8 x1412, U8 x1512]) ∧
 ∃ x232, (∀ w' : World, S1 w' → w'.cell? ⟨g2, 17, none⟩ = some (I6 x232)) ∧
 ∃ x04 x1102 x233 x313 x413 x513 x613 x713 x813 x913 x1013 x1113 x1213 x1313 x1413 x1513, (∀ w' : World, S1 w' → CellsAt w' ⟨g2, 1, none⟩ 0 [U8 x04, U8 x1102, U8 x233, U8 x313, U8 x413, U8 x513, U8 x613, U8 x713, U8 x813, U8 x913, U8 x1013, U8 x1113, U8 x1213, U8 x1313, U8 x1413, U8 x1513]) ∧
 Calls Tryz.prog 79 #[.agg #[U8 x03, U8 x1101, U8 x231, U8 x312, U8 x412, U8 x512, U8 x612, U8 x712, U8 x812, U8 x912, U8 x1012, U8 x1112, U8 x1212, U8 x1312, U8 x1412, U8 x1512], I6 x232] w24 (onRet (fun r_1 w25 => ∃ x05 x1103 x234 x314 x414 x514 x614 x714 x814 x914 x1014 x1114 x1214 x1314 x1414 x1514, r_1 = .agg #[U8 x05, U8 x1103, U8 x234, U8 x314, U8 x414, U8 x514, U8 x614, U8 x714, U8 x814, U8 x914, U8 x1014, U8 x1114, U8 x1214, U8 x1314, U8 x1414, U8 x1514] ∧
 S1 w25 ∧
 Br ((decide (x05 = x04)) && ((decide (x1103 = x1102)) && ((decide (x234 = x233)) && ((decide (x314 = x313)) && ((decide (x414 = x413)) && ((decide (x514 = x513)) && ((decide (x614 = x613)) && ((decide (x714 = x713)) && ((decide (x814 = x813)) && ((decide (x914 = x913)) && ((decide (x1014 = x1013)) && ((decide (x1114 = x1113)) && ((decide (x1214 = x1213)) && ((decide (x1314 = x1313)) && ((decide (x1414 = x1413)) && ((decide (x1514 = x1513)) && true))))))))))))))))
 (∃ x235, w25.cell? (ad_ g2 18) = some (I6 x235) ∧ R (.returned (I6 x235)) w25) (K58 (IntKind.i64.wrap (t9_ + 1)) w25)) (fun _ _ => False))) (K58 (IntKind.i64.wrap (t9_ + 1)) w24)) (R (.returned (I6 7)) w3)
def addr_Class_VC (ip_V ip_0 ip_1 ip_2 ip_3 ip_4 ip_5 ip_6 ip_7 ip_8 ip_9 ip_10 ip_11 ip_12 ip_13 ip_14 ip_15 : Int) (w : World) (R : EWP) : Prop :=
 NewVC w (.cells #[I6 ip_V, U8 ip_0, U8 ip_1, U8 ip_2, U8 ip_3, U8 ip_4, U8 ip_5, U8 ip_6, U8 ip_7, U8 ip_8, U8 ip_9, U8 ip_10, U8 ip_11, U8 ip_12, U8 ip_13, U8 ip_14, U8 ip_15] 24) fun g1 w1 =>
 ∃ x0 x1 x2 x3 x4 x5 x6 x7 x8 x9 x10 x11 x12 x13 x14 x15 x16, CA_ w1 g1 [I6 x0, U8 x1, U8 x2, U8 x3, U8 x4, U8 x5, U8 x6, U8 x7, U8 x8, U8 x9, U8 x10, U8 x11, U8 x12, U8 x13, U8 x14, U8 x15, U8 x16] ∧
 Calls Tryz.prog 78 #[.agg #[I6 x0, U8 x1, U8 x2, U8 x3, U8 x4, U8 x5, U8 x6, U8 x7, U8 x8, U8 x9, U8 x10, U8 x11, U8 x12, U8 x13, U8 x14, U8 x15, U8 x16]] w1 (onRet (fun r_ w2 => ∃ x, r_ = .bool x ∧ Br (!x) (R (.returned (I6 0)) w2)
 (∃ x01 x17 x21 x31 x41 x51 x61 x71 x81 x91 x101 x111 x121 x131 x141 x151 x161 x171 x18 x19 x20 x211 x22 x23 x24 x25 x26 x27 x28 x29 x30 x311 x32 x33 x34 x35 x36 x37 x38 x39 x40 x411 x42 x43 x44 x45 x46 x47 x48 x49 x50 x511 x52 x53 x54 x55 x56 x57 x58 x59 x60 x611 x62 x63 x64 x65 x66 x67 x68 x69 x70 x711 x72 x73 x74 x75 x76 x77 x78 x79 x80 x811 x82 x83 x84 x85 x86 x87 x88 x89 x90 x911 x92 x93 x94 x95 x96 x97 x98 x99 x100 x1011 x102 x103 x104 x105 x106 x107 x108 x109 x110 x1111 x112 x113 x114 x115 x116 x117 x118 x119 x120 x1211 x122 x123 x124 x125 x126 x127 x128 x129 x130 x1311 x132 x133 x134 x135 x136 x137 x138 x139 x140 x1411 x142 x143 x144 x145 x146 x147 x148 x149 x150 x1511 x152 x153 x154 x155 x156 x157 x158 x159 x160 x1611 x162 x163 x164 x165 x166 x167 x168 x169 x170 x1711 x172 x173 x174 x175 x176 x177 x178 x179 x180 x181 x182 x183 x184 x185 x186 x187 x188 x189 x190 x191 x192 x193 x194 x195 x196 x197 x198 x199 x200 x201 x202 x203 x204 x205 x206 x207 x208 x209 x210 x2111 x212 x213 x214 x215 x216 x217 x218 x219 x220 x221 x222 x223 x224 x225 x226 x227, CellsAt w2 ⟨2, 0, none⟩ 0 [I6 x01, U8 x17, U8 x21, U8 x31, U8 x41, U8 x51, U8 x61, U8 x71, U8 x81, U8 x91, U8 x101, U8 x111, U8 x121, U8 x131, U8 x141, U8 x151, U8 x161, I6 x171, I6 x18, I6 x19, U8 x20, U8 x211, U8 x22, U8 x23, U8 x24, U8 x25, U8 x26, U8 x27, U8 x28, U8 x29, U8 x30, U8 x311, U8 x32, U8 x33, U8 x34, U8 x35, I6 x36, I6 x37, I6 x38, U8 x39, U8 x40, U8 x411, U8 x42, U8 x43, U8 x44, U8 x45, U8 x46, U8 x47, U8 x48, U8 x49, U8 x50, U8 x511, U8 x52, U8 x53, U8 x54, I6 x55, I6 x56, I6 x57, U8 x58, U8 x59, U8 x60, U8 x611, U8 x62, U8 x63, U8 x64, U8 x65, U8 x66, U8 x67, U8 x68, U8 x69, U8 x70, U8 x711, U8 x72, U8 x73, I6 x74, I6 x75, I6 x76, U8 x77, U8 x78, U8 x79, U8 x80, U8 x811, U8 x82, U8 x83, U8 x84, U8 x85, U8 x86, U8 x87, U8 x88, U8 x89, U8 x90, U8 x911, U8 x92, I6 x93, I6 x94, I6 x95, U8 x96, U8 x97, U8 x98, U8 x99, U8 x100, U8 x1011, U8 x102, U8 x103, U8 x104, U8 x105, U8 x106, U8 x107, U8 x108, U8 x109, U8 x110, U8 x1111, I6 x112, I6 x113, I6 x114, U8 x115, U8 x116, U8 x117, U8 x118, U8 x119, U8 x120, U8 x1211, U8 x122, U8 x123, U8 x124, U8 x125, U8 x126, U8 x127, U8 x128, U8 x129, U8 x130, I6 x1311, I6 x132, I6 x133, U8 x134, U8 x135, U8 x136, U8 x137, U8 x138, U8 x139, U8 x140, U8 x1411, U8 x142, U8 x143, U8 x144, U8 x145, U8 x146, U8 x147, U8 x148, U8 x149, I6 x150, I6 x1511, I6 x152, U8 x153, U8 x154, U8 x155, U8 x156, U8 x157, U8 x158, U8 x159, U8 x160, U8 x1611, U8 x162, U8 x163, U8 x164, U8 x165, U8 x166, U8 x167, U8 x168, I6 x169, I6 x170, I6 x1711, U8 x172, U8 x173, U8 x174, U8 x175, U8 x176, U8 x177, U8 x178, U8 x179, U8 x180, U8 x181, U8 x182, U8 x183, U8 x184, U8 x185, U8 x186, U8 x187, I6 x188, I6 x189, I6 x190, U8 x191, U8 x192, U8 x193, U8 x194, U8 x195, U8 x196, U8 x197, U8 x198, U8 x199, U8 x200, U8 x201, U8 x202, U8 x203, U8 x204, U8 x205, U8 x206, I6 x207, I6 x208, I6 x209, U8 x210, U8 x2111, U8 x212, U8 x213, U8 x214, U8 x215, U8 x216, U8 x217, U8 x218, U8 x219, U8 x220, U8 x221, U8 x222, U8 x223, U8 x224, U8 x225, I6 x226, I6 x227] ∧
 LoopVC (S := Int) (fun s_ w3 K58 => addr_Class_L58 R g1 x01 x17 x21 x31 x41 x51 x61 x71 x81 x91 x101 x111 x121 x131 x141 x151 x161 x171 x18 x19 x20 x211 x22 x23 x24 x25 x26 x27 x28 x29 x30 x311 x32 x33 x34 x35 x36 x37 x38 x39 x40 x411 x42 x43 x44 x45 x46 x47 x48 x49 x50 x511 x52 x53 x54 x55 x56 x57 x58 x59 x60 x611 x62 x63 x64 x65 x66 x67 x68 x69 x70 x711 x72 x73 x74 x75 x76 x77 x78 x79 x80 x811 x82 x83 x84 x85 x86 x87 x88 x89 x90 x911 x92 x93 x94 x95 x96 x97 x98 x99 x100 x1011 x102 x103 x104 x105 x106 x107 x108 x109 x110 x1111 x112 x113 x114 x115 x116 x117 x118 x119 x120 x1211 x122 x123 x124 x125 x126 x127 x128 x129 x130 x1311 x132 x133 x134 x135 x136 x137 x138 x139 x140 x1411 x142 x143 x144 x145 x146 x147 x148 x149 x150 x1511 x152 x153 x154 x155 x156 x157 x158 x159 x160 x1611 x162 x163 x164 x165 x166 x167 x168 x169 x170 x1711 x172 x173 x174 x175 x176 x177 x178 x179 x180 x181 x182 x183 x184 x185 x186 x187 x188 x189 x190 x191 x192 x193 x194 x195 x196 x197 x198 x199 x200 x201 x202 x203 x204 x205 x206 x207 x208 x209 x210 x2111 x212 x213 x214 x215 x216 x217 x218 x219 x220 x221 x222 x223 x224 x225 x226 x227 s_ w3 K58) 0 w2))
 (pn_ R))
def addr_Class_H : Hints := [(58, [(9, .int .i64)])]
theorem addr_Class_of (ip_V ip_0 ip_1 ip_2 ip_3 ip_4 ip_5 ip_6 ip_7 ip_8 ip_9 ip_10 ip_11 ip_12 ip_13 ip_14 ip_15 : Int) (w : World) (R : EWP) (h_ : addr_Class_VC ip_V ip_0 ip_1 ip_2 ip_3 ip_4 ip_5 ip_6 ip_7 ip_8 ip_9 ip_10 ip_11 ip_12 ip_13 ip_14 ip_15 w R) :
 Calls Tryz.prog 46 #[.agg #[I6 ip_V, U8 ip_0, U8 ip_1, U8 ip_2, U8 ip_3, U8 ip_4, U8 ip_5, U8 ip_6, U8 ip_7, U8 ip_8, U8 ip_9, U8 ip_10, U8 ip_11, U8 ip_12, U8 ip_13, U8 ip_14, U8 ip_15]] w R :=
 calls_of_wpc callOk mixedOk (H := addr_Class_H) (c := bodyOf Tryz.f46) Tryz.func46 rfl (nb_ rfl)
 (Eq.mp (by kernel_rfl) h_)
def icmp_noTarget_VC (ip_V ip_0 ip_1 ip_2 ip_3 ip_4 ip_5 ip_6 ip_7 ip_8 ip_9 ip_10 ip_11 ip_12 ip_13 ip_14 ip_15 : Int) (w : World) (R : EWP) : Prop :=
 NewVC w (.cells #[I6 ip_V, U8 ip_0, U8 ip_1, U8 ip_2, U8 ip_3, U8 ip_4, U8 ip_5, U8 ip_6, U8 ip_7, U8 ip_8, U8 ip_9, U8 ip_10, U8 ip_11, U8 ip_12, U8 ip_13, U8 ip_14, U8 ip_15] 24) fun g1 w1 =>
 ∃ x0 x1 x2 x3 x4 x5 x6 x7 x8 x9 x10 x11 x12 x13 x14 x15 x16, CA_ w1 g1 [I6 x0, U8 x1, U8 x2, U8 x3, U8 x4, U8 x5, U8 x6, U8 x7, U8 x8, U8 x9, U8 x10, U8 x11, U8 x12, U8 x13, U8 x14, U8 x15, U8 x16] ∧
 Calls Tryz.prog 46 #[.agg #[I6 x0, U8 x1, U8 x2, U8 x3, U8 x4, U8 x5, U8 x6, U8 x7, U8 x8, U8 x9, U8 x10, U8 x11, U8 x12, U8 x13, U8 x14, U8 x15, U8 x16]] w1 (onRet (fun r_ w2 => ∃ x, r_ = I6 x ∧ Br (decide (x = 3)) (R (.returned (.bool true)) w2) (R (.returned (.bool (decide (x = 1)))) w2))
 (pn_ R))
def icmp_noTarget_H : Hints := []
theorem icmp_noTarget_of (ip_V ip_0 ip_1 ip_2 ip_3 ip_4 ip_5 ip_6 ip_7 ip_8 ip_9 ip_10 ip_11 ip_12 ip_13 ip_14 ip_15 : Int) (w : World) (R : EWP) (h_ : icmp_noTarget_VC ip_V ip_0 ip_1 ip_2 ip_3 ip_4 ip_5 ip_6 ip_7 ip_8 ip_9 ip_10 ip_11 ip_12 ip_13 ip_14 ip_15 w R) :
 Calls Tryz.prog 50 #[.agg #[I6 ip_V, U8 ip_0, U8 ip_1, U8 ip_2, U8 ip_3, U8 ip_4, U8 ip_5, U8 ip_6, U8 ip_7, U8 ip_8, U8 ip_9, U8 ip_10, U8 ip_11, U8 ip_12, U8 ip_13, U8 ip_14, U8 ip_15]] w R :=
 calls_of_wpc callOk mixedOk (H := icmp_noTarget_H) (c := bodyOf Tryz.f50) Tryz.func50 rfl (nb_ rfl)
 (Eq.mp (by kernel_rfl) h_)
def weirref4_Valid_L58 (R : EWP) (g1 : Nat) (i : Int) (w2 : World) (K58 : (Int → World → Prop)) : Prop := Br (decide (i < 16)) (IdxVC (some ⟨g1, 1, none⟩) 16 1 i fun a => ∃ x2, w2.cell? a = some (U8 x2) ∧ Br (decide (x2 ≠ 0)) (R (.returned (.bool false)) w2) (K58 (IntKind.i64.wrap (i + 1)) w2))
 (R (.returned (.bool true)) w2)
def weirref4_Valid_VC (ip_V ip_0 ip_1 ip_2 ip_3 ip_4 ip_5 ip_6 ip_7 ip_8 ip_9 ip_10 ip_11 ip_12 ip_13 ip_14 ip_15 : Int) (w : World) (R : EWP) : Prop :=
 NewVC w (.cells #[I6 ip_V, U8 ip_0, U8 ip_1, U8 ip_2, U8 ip_3, U8 ip_4, U8 ip_5, U8 ip_6, U8 ip_7, U8 ip_8, U8 ip_9, U8 ip_10, U8 ip_11, U8 ip_12, U8 ip_13, U8 ip_14, U8 ip_15] 24) fun g1 w1 => ∃ x, w1.cell? (ad_ g1 0) = some (I6 x) ∧ Br (decide (x ≠ 4))
 (∃ x1, w1.cell? (ad_ g1 0) = some (I6 x1) ∧ R (.returned (.bool (decide (x1 = 6)))) w1) (LoopVC (S := Int) (fun s_ w2 K58 => weirref4_Valid_L58 R g1 s_ w2 K58) 4 w1)
def weirref4_Valid_H : Hints := [(58, [(3, .int .i64)])]
theorem weirref4_Valid_of (ip_V ip_0 ip_1 ip_2 ip_3 ip_4 ip_5 ip_6 ip_7 ip_8 ip_9 ip_10 ip_11 ip_12 ip_13 ip_14 ip_15 : Int) (w : World) (R : EWP) (h_ : weirref4_Valid_VC ip_V ip_0 ip_1 ip_2 ip_3 ip_4 ip_5 ip_6 ip_7 ip_8 ip_9 ip_10 ip_11 ip_12 ip_13 ip_14 ip_15 w R) :
 Calls Tryz.prog 65 #[.agg #[I6 ip_V, U8 ip_0, U8 ip_1, U8 ip_2, U8 ip_3, U8 ip_4, U8 ip_5, U8 ip_6, U8 ip_7, U8 ip_8, U8 ip_9, U8 ip_10, U8 ip_11, U8 ip_12, U8 ip_13, U8 ip_14, U8 ip_15]] w R :=
 calls_of_wpc callOk mixedOk (H := weirref4_Valid_H) (c := bodyOf Tryz.f65) Tryz.func65 rfl (nb_ rfl)
 (Eq.mp (by kernel_rfl) h_)
def weirref4_of_VC (s : ByteArray) (ip_V ip_0 ip_1 ip_2 ip_3 ip_4 ip_5 ip_6 ip_7 ip_8 ip_9 ip_10 ip_11 ip_12 ip_13 ip_14 ip_15 : Int) (w : World) (R : EWP) : Prop :=
 NewVC w (.cells #[I6 ip_V, U8 ip_0, U8 ip_1, U8 ip_2, U8 ip_3, U8 ip_4, U8 ip_5, U8 ip_6, U8 ip_7, U8 ip_8, U8 ip_9, U8 ip_10, U8 ip_11, U8 ip_12, U8 ip_13, U8 ip_14, U8 ip_15] 24) fun g1 w1 =>
 Calls Tryz.prog 93 #[.string s] w1 (onRet (fun r_ w2 => ∃ x00 x01 x02 x03 x04 x05 x06 x07 x08 x09 x010 x011 x012 x013 x014 x015 x016 x017 x1 x2, r_ = .tuple #[.agg #[I6 x00, U8 x01, U8 x02, U8 x03, U8 x04, U8 x05, U8 x06, U8 x07, U8 x08, U8 x09, U8 x010, U8 x011, U8 x012, U8 x013, U8 x014, U8 x015, U8 x016, I6 x017], I6 x1, I6 x2] ∧
 NewVC w2 (.cells #[I6 0, U8 0, U8 0, U8 0, U8 0, U8 0, U8 0, U8 0, U8 0, U8 0, U8 0, U8 0, U8 0, U8 0, U8 0, U8 0, U8 0, I6 0] 137) fun g2 w3 => SetVC w3 ⟨g2, 0, none⟩ (I6 x00) fun w4 => SetVC w4 ⟨g2, 1, none⟩ (U8 x01) fun w5 => SetVC w5 ⟨g2, 2, none⟩ (U8 x02) fun w6 =>
 SetVC w6 ⟨g2, 3, none⟩ (U8 x03) fun w7 => SetVC w7 ⟨g2, 4, none⟩ (U8 x04) fun w8 => SetVC w8 ⟨g2, 5, none⟩ (U8 x05) fun w9 => SetVC w9 ⟨g2, 6, none⟩ (U8 x06) fun w10 => SetVC w10 ⟨g2, 7, none⟩ (U8 x07) fun w11 => SetVC w11 ⟨g2, 8, none⟩ (U8 x08) fun w12 =>
 SetVC w12 ⟨g2, 9, none⟩ (U8 x09) fun w13 => SetVC w13 ⟨g2, 10, none⟩ (U8 x010) fun w14 => SetVC w14 ⟨g2, 11, none⟩ (U8 x011) fun w15 => SetVC w15 ⟨g2, 12, none⟩ (U8 x012) fun w16 => SetVC w16 ⟨g2, 13, none⟩ (U8 x013) fun w17 => SetVC w17 ⟨g2, 14, none⟩ (U8 x014) fun w18 =>
 SetVC w18 ⟨g2, 15, none⟩ (U8 x015) fun w19 => SetVC w19 ⟨g2, 16, none⟩ (U8 x016) fun w20 => SetVC w20 ⟨g2, 17, none⟩ (I6 x017) fun w21 =>
 ∃ x0 x11 x21 x3 x4 x5 x6 x7 x8 x9 x10 x111 x12 x13 x14 x15 x16 x17, CA_ w21 g2 [I6 x0, U8 x11, U8 x21, U8 x3, U8 x4, U8 x5, U8 x6, U8 x7, U8 x8, U8 x9, U8 x10, U8 x111, U8 x12, U8 x13, U8 x14, U8 x15, U8 x16, I6 x17] ∧
 ∃ x018 x18 x22 x31 x41 x51 x61 x71 x81 x91 x101 x112 x121 x131 x141 x151 x161, CA_ w21 g1 [I6 x018, U8 x18, U8 x22, U8 x31, U8 x41, U8 x51, U8 x61, U8 x71, U8 x81, U8 x91, U8 x101, U8 x112, U8 x121, U8 x131, U8 x141, U8 x151, U8 x161] ∧
 Calls Tryz.prog 94 #[.agg #[I6 x0, U8 x11, U8 x21, U8 x3, U8 x4, U8 x5, U8 x6, U8 x7, U8 x8, U8 x9, U8 x10, U8 x111, U8 x12, U8 x13, U8 x14, U8 x15, U8 x16, I6 x17], .agg #[I6 x018, U8 x18, U8 x22, U8 x31, U8 x41, U8 x51, U8 x61, U8 x71, U8 x81, U8 x91, U8 x101, U8 x112, U8 x121, U8 x131, U8 x141, U8 x151, U8 x161]] w21 (onRet (fun r_1 w22 => ∃ x, r_1 = .bool x ∧
 R (.returned (.bool x)) w22) (pn_ R))) (pn_ R))
def weirref4_of_H : Hints := []
theorem weirref4_of_of (s : ByteArray) (ip_V ip_0 ip_1 ip_2 ip_3 ip_4 ip_5 ip_6 ip_7 ip_8 ip_9 ip_10 ip_11 ip_12 ip_13 ip_14 ip_15 : Int) (w : World) (R : EWP) (h_ : weirref4_of_VC s ip_V ip_0 ip_1 ip_2 ip_3 ip_4 ip_5 ip_6 ip_7 ip_8 ip_9 ip_10 ip_11 ip_12 ip_13 ip_14 ip_15 w R) :
 Calls Tryz.prog 66 #[.string s, .agg #[I6 ip_V, U8 ip_0, U8 ip_1, U8 ip_2, U8 ip_3, U8 ip_4, U8 ip_5, U8 ip_6, U8 ip_7, U8 ip_8, U8 ip_9, U8 ip_10, U8 ip_11, U8 ip_12, U8 ip_13, U8 ip_14, U8 ip_15]] w R :=
 calls_of_wpc callOk mixedOk (H := weirref4_of_H) (c := bodyOf Tryz.f66) Tryz.func66 rfl (nb_ rfl)
 (Eq.mp (by kernel_rfl) h_)
def addr_Valid_VC (ip_V ip_0 ip_1 ip_2 ip_3 ip_4 ip_5 ip_6 ip_7 ip_8 ip_9 ip_10 ip_11 ip_12 ip_13 ip_14 ip_15 : Int) (w : World) (R : EWP) : Prop :=
 NewVC w (.cells #[I6 ip_V, U8 ip_0, U8 ip_1, U8 ip_2, U8 ip_3, U8 ip_4, U8 ip_5, U8 ip_6, U8 ip_7, U8 ip_8, U8 ip_9, U8 ip_10, U8 ip_11, U8 ip_12, U8 ip_13, U8 ip_14, U8 ip_15] 24) fun g1 w1 =>
 ∃ x0 x1 x2 x3 x4 x5 x6 x7 x8 x9 x10 x11 x12 x13 x14 x15 x16, CA_ w1 g1 [I6 x0, U8 x1, U8 x2, U8 x3, U8 x4, U8 x5, U8 x6, U8 x7, U8 x8, U8 x9, U8 x10, U8 x11, U8 x12, U8 x13, U8 x14, U8 x15, U8 x16] ∧
 Calls Tryz.prog 106 #[.agg #[I6 x0, U8 x1, U8 x2, U8 x3, U8 x4, U8 x5, U8 x6, U8 x7, U8 x8, U8 x9, U8 x10, U8 x11, U8 x12, U8 x13, U8 x14, U8 x15, U8 x16]] w1 (onRet (fun r_ w2 => ∃ x, r_ = I6 x ∧ R (.returned (.bool (decide ((0 : Int) < x)))) w2) (pn_ R))
def addr_Valid_H : Hints := []
theorem addr_Valid_of (ip_V ip_0 ip_1 ip_2 ip_3 ip_4 ip_5 ip_6 ip_7 ip_8 ip_9 ip_10 ip_11 ip_12 ip_13 ip_14 ip_15 : Int) (w : World) (R : EWP) (h_ : addr_Valid_VC ip_V ip_0 ip_1 ip_2 ip_3 ip_4 ip_5 ip_6 ip_7 ip_8 ip_9 ip_10 ip_11 ip_12 ip_13 ip_14 ip_15 w R) :
 Calls Tryz.prog 78 #[.agg #[I6 ip_V, U8 ip_0, U8 ip_1, U8 ip_2, U8 ip_3, U8 ip_4, U8 ip_5, U8 ip_6, U8 ip_7, U8 ip_8, U8 ip_9, U8 ip_10, U8 ip_11, U8 ip_12, U8 ip_13, U8 ip_14, U8 ip_15]] w R :=
 calls_of_wpc callOk mixedOk (H := addr_Valid_H) (c := bodyOf Tryz.f78) Tryz.func78 rfl (nb_ rfl)
 (Eq.mp (by kernel_rfl) h_)
def addr_masked_L58 (R : EWP) (n : Int) (g1 g2 g3 : Nat) (t8_ : Int) (w4 : World) (K58 : (Int → World → Prop)) : Prop := Br (decide (t8_ < 16)) (IdxVC (sa_ g1) 16 1 t8_ fun a => ∃ x, w4.cell? a = some (U8 x) ∧
 ShVC (IntKind.u64.wrap (if (if 0 < IntKind.i64.wrap (n - IntKind.i64.wrap (8 * t8_)) then IntKind.i64.wrap (n - IntKind.i64.wrap (8 * t8_)) else 0) < 8 then (if 0 < IntKind.i64.wrap (n - IntKind.i64.wrap (8 * t8_)) then IntKind.i64.wrap (n - IntKind.i64.wrap (8 * t8_)) else 0) else 8)) (
 IdxVC (sa_ g3) 16 1 t8_ fun a16 =>
 SetVC w4 a16 (U8 (bitv .and .u8 x (IntKind.u8.wrap (Int.fdiv 65280 (2 ^ (min ((IntKind.u64.wrap (if (if 0 < IntKind.i64.wrap (n - IntKind.i64.wrap (8 * t8_)) then IntKind.i64.wrap (n - IntKind.i64.wrap (8 * t8_)) else 0) < 8 then (if 0 < IntKind.i64.wrap (n - IntKind.i64.wrap (8 * t8_)) then IntKind.i64.wrap (n - IntKind.i64.wrap (8 * t8_)) else 0) else 8)).toNat) 64)))))) fun w5 =>
 K58 (IntKind.i64.wrap (t8_ + 1)) w5)) (∃ x0 x1 x2 x3 x4 x5 x6 x7 x8 x9 x10 x11 x12 x13 x14 x15, CA_ w4 g3 [U8 x0, U8 x1, U8 x2, U8 x3, U8 x4, U8 x5, U8 x6, U8 x7, U8 x8, U8 x9, U8 x10, U8 x11, U8 x12, U8 x13, U8 x14, U8 x15] ∧ SetVC w4 ⟨g2, 0, none⟩ (U8 x0) fun w6 =>
 SetVC w6 ⟨g2, 1, none⟩ (U8 x1) fun w7 => SetVC w7 ⟨g2, 2, none⟩ (U8 x2) fun w8 => SetVC w8 ⟨g2, 3, none⟩ (U8 x3) fun w9 => SetVC w9 ⟨g2, 4, none⟩ (U8 x4) fun w10 => SetVC w10 ⟨g2, 5, none⟩ (U8 x5) fun w11 => SetVC w11 ⟨g2, 6, none⟩ (U8 x6) fun w12 => SetVC w12 ⟨g2, 7, none⟩ (U8 x7) fun w13 =>
 SetVC w13 ⟨g2, 8, none⟩ (U8 x8) fun w14 => SetVC w14 ⟨g2, 9, none⟩ (U8 x9) fun w15 => SetVC w15 ⟨g2, 10, none⟩ (U8 x10) fun w16 => SetVC w16 ⟨g2, 11, none⟩ (U8 x11) fun w17 => SetVC w17 ⟨g2, 12, none⟩ (U8 x12) fun w18 => SetVC w18 ⟨g2, 13, none⟩ (U8 x13) fun w19 =>
 SetVC w19 ⟨g2, 14, none⟩ (U8 x14) fun w20 => SetVC w20 ⟨g2, 15, none⟩ (U8 x15) fun w21 =>
 ∃ res0 res1 res2 res3 res4 res5 res6 res7 res8 res9 res10 res11 res12 res13 res14 res15, CA_ w21 g2 [U8 res0, U8 res1, U8 res2, U8 res3, U8 res4, U8 res5, U8 res6, U8 res7, U8 res8, U8 res9, U8 res10, U8 res11, U8 res12, U8 res13, U8 res14, U8 res15] ∧
 R (.returned (.agg #[U8 res0, U8 res1, U8 res2, U8 res3, U8 res4, U8 res5, U8 res6, U8 res7, U8 res8, U8 res9, U8 res10, U8 res11, U8 res12, U8 res13, U8 res14, U8 res15])) w21)
def addr_masked_VC (a0 a1 a2 a3 a4 a5 a6 a7 a8 a9 a10 a11 a12 a13 a14 a15 n : Int) (w : World) (R : EWP) : Prop := NewVC w (.cells #[U8 a0, U8 a1, U8 a2, U8 a3, U8 a4, U8 a5, U8 a6, U8 a7, U8 a8, U8 a9, U8 a10, U8 a11, U8 a12, U8 a13, U8 a14, U8 a15] 22) fun g1 w1 =>
 NewVC w1 (.cells #[U8 0, U8 0, U8 0, U8 0, U8 0, U8 0, U8 0, U8 0, U8 0, U8 0, U8 0, U8 0, U8 0, U8 0, U8 0, U8 0] 22) fun g2 w2 => NewVC w2 (.cells #[U8 0, U8 0, U8 0, U8 0, U8 0, U8 0, U8 0, U8 0, U8 0, U8 0, U8 0, U8 0, U8 0, U8 0, U8 0, U8 0] 22) fun g3 w3 =>
 LoopVC (S := Int) (fun s_ w4 K58 => addr_masked_L58 R n g1 g2 g3 s_ w4 K58) 0 w3
def addr_masked_H : Hints := [(58, [(8, .int .i64)])]
theorem addr_masked_of (a0 a1 a2 a3 a4 a5 a6 a7 a8 a9 a10 a11 a12 a13 a14 a15 n : Int) (w : World) (R : EWP) (h_ : addr_masked_VC a0 a1 a2 a3 a4 a5 a6 a7 a8 a9 a10 a11 a12 a13 a14 a15 n w R) :
 Calls Tryz.prog 79 #[.agg #[U8 a0, U8 a1, U8 a2, U8 a3, U8 a4, U8 a5, U8 a6, U8 a7, U8 a8, U8 a9, U8 a10, U8 a11, U8 a12, U8 a13, U8 a14, U8 a15], I6 n] w R :=
 calls_of_wpc callOk mixedOk (H := addr_masked_H) (c := bodyOf Tryz.f79) Tryz.func79 rfl (nb_ rfl) (Eq.mp (by kernel_rfl) h_)
def weirref4_ParsePrefix_L60 (s : ByteArray) (J15 : (Int → World → Prop)) (k1 : Int) (w20 : World) (K60 : (Int → World → Prop)) : Prop := Br (decide (k1 < (s.size : Int))) (StrIdxVC s k1 fun c => Br (decide (c ≠ 47)) (K60 (IntKind.i64.wrap (k1 + 1)) w20) (J15 k1 w20)) (J15 k1 w20)
def weirref4_ParsePrefix_L2044 (R : EWP) (s : ByteArray) (J511 : (Int → World → Prop)) (q1 : Int) (w77 : World) (K2044 : (Int → World → Prop)) : Prop := Br (decide (q1 < (s.size : Int))) (StrIdxVC s q1 fun c1 => Calls Tryz.prog 116 #[U8 c1] w77 (onRet (fun r_1 w78 => ∃ x, r_1 = .bool x ∧ Br x
 (K2044 (IntKind.i64.wrap (q1 + 1)) w78) (J511 q1 w78)) (pn_ R))) (J511 q1 w77)
def weirref4_ParsePrefix_J511 (R : EWP) (s : ByteArray) (g1 : Nat) (k : Int) (g2 : Nat) (q : Int) (w79 : World) : Prop := Br (decide (q = IntKind.i64.wrap (k + 1))) (Calls Tryz.prog 117 #[.string s, I6 q] w79 (onRet (fun r_2 w80 => ∃ x0 x11, r_2 = .tuple #[I6 x0, I6 x11] ∧
 SetVC w80 ⟨g1, 0, none⟩ (I6 0) fun w81 => SetVC w81 ⟨g1, 1, none⟩ (U8 0) fun w82 => SetVC w82 ⟨g1, 2, none⟩ (U8 0) fun w83 => SetVC w83 ⟨g1, 3, none⟩ (U8 0) fun w84 => SetVC w84 ⟨g1, 4, none⟩ (U8 0) fun w85 => SetVC w85 ⟨g1, 5, none⟩ (U8 0) fun w86 => SetVC w86 ⟨g1, 6, none⟩ (U8 0) fun w87 =>
 SetVC w87 ⟨g1, 7, none⟩ (U8 0) fun w88 => SetVC w88 ⟨g1, 8, none⟩ (U8 0) fun w89 => SetVC w89 ⟨g1, 9, none⟩ (U8 0) fun w90 => SetVC w90 ⟨g1, 10, none⟩ (U8 0) fun w91 => SetVC w91 ⟨g1, 11, none⟩ (U8 0) fun w92 => SetVC w92 ⟨g1, 12, none⟩ (U8 0) fun w93 => SetVC w93 ⟨g1, 13, none⟩ (U8 0) fun w94 =>
 SetVC w94 ⟨g1, 14, none⟩ (U8 0) fun w95 => SetVC w95 ⟨g1, 15, none⟩ (U8 0) fun w96 => SetVC w96 ⟨g1, 16, none⟩ (U8 0) fun w97 => SetVC w97 ⟨g1, 17, none⟩ (I6 0) fun w98 =>
 ∃ res03 res110 res23 res33 res43 res53 res63 res73 res83 res93 res103 res113 res123 res133 res143 res153 res163 res173, CA_ w98 g1 [I6 res03, U8 res110, U8 res23, U8 res33, U8 res43, U8 res53, U8 res63, U8 res73, U8 res83, U8 res93, U8 res103, U8 res113, U8 res123, U8 res133, U8 res143, U8 res153, U8 res163, I6 res173] ∧
 R (.returned (.tuple #[.agg #[I6 res03, U8 res110, U8 res23, U8 res33, U8 res43, U8 res53, U8 res63, U8 res73, U8 res83, U8 res93, U8 res103, U8 res113, U8 res123, U8 res133, U8 res143, U8 res153, U8 res163, I6 res173], I6 x0, I6 x11])) w98) (pn_ R)))
 (∃ x017 x12 x21 x3 x4 x5 x6 x7 x8 x9 x10 x111 x121 x13 x14 x15 x16, CA_ w79 g2 [I6 x017, U8 x12, U8 x21, U8 x3, U8 x4, U8 x5, U8 x6, U8 x7, U8 x8, U8 x9, U8 x10, U8 x111, U8 x121, U8 x13, U8 x14, U8 x15, U8 x16] ∧
 Calls Tryz.prog 119 #[.agg #[I6 x017, U8 x12, U8 x21, U8 x3, U8 x4, U8 x5, U8 x6, U8 x7, U8 x8, U8 x9, U8 x10, U8 x111, U8 x121, U8 x13, U8 x14, U8 x15, U8 x16]] w79 (onRet (fun r_3 w99 => ∃ x17, r_3 = I6 x17 ∧
 Calls Tryz.prog 118 #[.string s, I6 (IntKind.i64.wrap (k + 1)), I6 q, I6 x17] w99 (onRet (fun r_4 w100 => ∃ x18, r_4 = I6 x18 ∧ Br (decide (x18 < 0)) (SetVC w100 ⟨g1, 0, none⟩ (I6 0) fun w101 => SetVC w101 ⟨g1, 1, none⟩ (U8 0) fun w102 => SetVC w102 ⟨g1, 2, none⟩ (U8 0) fun w103 =>
 SetVC w103 ⟨g1, 3, none⟩ (U8 0) fun w104 => SetVC w104 ⟨g1, 4, none⟩ (U8 0) fun w105 => SetVC w105 ⟨g1, 5, none⟩ (U8 0) fun w106 => SetVC w106 ⟨g1, 6, none⟩ (U8 0) fun w107 => SetVC w107 ⟨g1, 7, none⟩ (U8 0) fun w108 => SetVC w108 ⟨g1, 8, none⟩ (U8 0) fun w109 =>
 SetVC w109 ⟨g1, 9, none⟩ (U8 0) fun w110 => SetVC w110 ⟨g1, 10, none⟩ (U8 0) fun w111 => SetVC w111 ⟨g1, 11, none⟩ (U8 0) fun w112 => SetVC w112 ⟨g1, 12, none⟩ (U8 0) fun w113 => SetVC w113 ⟨g1, 13, none⟩ (U8 0) fun w114 => SetVC w114 ⟨g1, 14, none⟩ (U8 0) fun w115 =>
 SetVC w115 ⟨g1, 15, none⟩ (U8 0) fun w116 => SetVC w116 ⟨g1, 16, none⟩ (U8 0) fun w117 => SetVC w117 ⟨g1, 17, none⟩ (I6 0) fun w118 =>
 ∃ res04 res114 res24 res34 res44 res54 res64 res74 res84 res94 res104 res115 res124 res134 res144 res154 res164 res174, CA_ w118 g1 [I6 res04, U8 res114, U8 res24, U8 res34, U8 res44, U8 res54, U8 res64, U8 res74, U8 res84, U8 res94, U8 res104, U8 res115, U8 res124, U8 res134, U8 res144, U8 res154, U8 res164, I6 res174] ∧
 R (.returned (.tuple #[.agg #[I6 res04, U8 res114, U8 res24, U8 res34, U8 res44, U8 res54, U8 res64, U8 res74, U8 res84, U8 res94, U8 res104, U8 res115, U8 res124, U8 res134, U8 res144, U8 res154, U8 res164, I6 res174], I6 45, I6 (IntKind.i64.wrap (k + 1))])) w118)
 (Br (decide (q < (s.size : Int))) (SetVC w100 ⟨g1, 0, none⟩ (I6 0) fun w119 => SetVC w119 ⟨g1, 1, none⟩ (U8 0) fun w120 => SetVC w120 ⟨g1, 2, none⟩ (U8 0) fun w121 => SetVC w121 ⟨g1, 3, none⟩ (U8 0) fun w122 => SetVC w122 ⟨g1, 4, none⟩ (U8 0) fun w123 => SetVC w123 ⟨g1, 5, none⟩ (U8 0) fun w124 =>
 SetVC w124 ⟨g1, 6, none⟩ (U8 0) fun w125 => SetVC w125 ⟨g1, 7, none⟩ (U8 0) fun w126 => SetVC w126 ⟨g1, 8, none⟩ (U8 0) fun w127 => SetVC w127 ⟨g1, 9, none⟩ (U8 0) fun w128 => SetVC w128 ⟨g1, 10, none⟩ (U8 0) fun w129 => SetVC w129 ⟨g1, 11, none⟩ (U8 0) fun w130 =>
 SetVC w130 ⟨g1, 12, none⟩ (U8 0) fun w131 => SetVC w131 ⟨g1, 13, none⟩ (U8 0) fun w132 => SetVC w132 ⟨g1, 14, none⟩ (U8 0) fun w133 => SetVC w133 ⟨g1, 15, none⟩ (U8 0) fun w134 => SetVC w134 ⟨g1, 16, none⟩ (U8 0) fun w135 => SetVC w135 ⟨g1, 17, none⟩ (I6 0) fun w136 =>
 ∃ res05 res116 res25 res35 res45 res55 res65 res75 res85 res95 res105 res117 res125 res135 res145 res155 res165 res175, CA_ w136 g1 [I6 res05, U8 res116, U8 res25, U8 res35, U8 res45, U8 res55, U8 res65, U8 res75, U8 res85, U8 res95, U8 res105, U8 res117, U8 res125, U8 res135, U8 res145, U8 res155, U8 res165, I6 res175] ∧
 R (.returned (.tuple #[.agg #[I6 res05, U8 res116, U8 res25, U8 res35, U8 res45, U8 res55, U8 res65, U8 res75, U8 res85, U8 res95, U8 res105, U8 res117, U8 res125, U8 res135, U8 res145, U8 res155, U8 res165, I6 res175], I6 41, I6 q])) w136)
 (∃ x018 x19 x22 x31 x41 x51 x61 x71 x81 x91 x101 x112 x122 x131 x141 x151 x161, CA_ w100 g2 [I6 x018, U8 x19, U8 x22, U8 x31, U8 x41, U8 x51, U8 x61, U8 x71, U8 x81, U8 x91, U8 x101, U8 x112, U8 x122, U8 x131, U8 x141, U8 x151, U8 x161] ∧
 NewVC w100 (.cells #[I6 0, U8 0, U8 0, U8 0, U8 0, U8 0, U8 0, U8 0, U8 0, U8 0, U8 0, U8 0, U8 0, U8 0, U8 0, U8 0, U8 0, I6 0] 137) fun g3 w137 => SetVC w137 ⟨g3, 0, none⟩ (I6 x018) fun w138 => SetVC w138 ⟨g3, 1, none⟩ (U8 x19) fun w139 => SetVC w139 ⟨g3, 2, none⟩ (U8 x22) fun w140 =>
 SetVC w140 ⟨g3, 3, none⟩ (U8 x31) fun w141 => SetVC w141 ⟨g3, 4, none⟩ (U8 x41) fun w142 => SetVC w142 ⟨g3, 5, none⟩ (U8 x51) fun w143 => SetVC w143 ⟨g3, 6, none⟩ (U8 x61) fun w144 => SetVC w144 ⟨g3, 7, none⟩ (U8 x71) fun w145 => SetVC w145 ⟨g3, 8, none⟩ (U8 x81) fun w146 =>
 SetVC w146 ⟨g3, 9, none⟩ (U8 x91) fun w147 => SetVC w147 ⟨g3, 10, none⟩ (U8 x101) fun w148 => SetVC w148 ⟨g3, 11, none⟩ (U8 x112) fun w149 => SetVC w149 ⟨g3, 12, none⟩ (U8 x122) fun w150 => SetVC w150 ⟨g3, 13, none⟩ (U8 x131) fun w151 => SetVC w151 ⟨g3, 14, none⟩ (U8 x141) fun w152 =>
 SetVC w152 ⟨g3, 15, none⟩ (U8 x151) fun w153 => SetVC w153 ⟨g3, 16, none⟩ (U8 x161) fun w154 => SetVC w154 ⟨g3, 17, none⟩ (I6 x18) fun w155 =>
 ∃ x019 x110 x23 x32 x42 x52 x62 x72 x82 x92 x102 x113 x123 x132 x142 x152 x162 x171, CA_ w155 g3 [I6 x019, U8 x110, U8 x23, U8 x32, U8 x42, U8 x52, U8 x62, U8 x72, U8 x82, U8 x92, U8 x102, U8 x113, U8 x123, U8 x132, U8 x142, U8 x152, U8 x162, I6 x171] ∧
 Calls Tryz.prog 120 #[.agg #[I6 x019, U8 x110, U8 x23, U8 x32, U8 x42, U8 x52, U8 x62, U8 x72, U8 x82, U8 x92, U8 x102, U8 x113, U8 x123, U8 x132, U8 x142, U8 x152, U8 x162, I6 x171]] w155 (onRet (fun r_5 w156 => ∃ x20, r_5 = I6 x20 ∧ Br (decide (x20 ≠ 0))
 (SetVC w156 ⟨g1, 0, none⟩ (I6 0) fun w157 => SetVC w157 ⟨g1, 1, none⟩ (U8 0) fun w158 => SetVC w158 ⟨g1, 2, none⟩ (U8 0) fun w159 => SetVC w159 ⟨g1, 3, none⟩ (U8 0) fun w160 => SetVC w160 ⟨g1, 4, none⟩ (U8 0) fun w161 => SetVC w161 ⟨g1, 5, none⟩ (U8 0) fun w162 =>
 SetVC w162 ⟨g1, 6, none⟩ (U8 0) fun w163 => SetVC w163 ⟨g1, 7, none⟩ (U8 0) fun w164 => SetVC w164 ⟨g1, 8, none⟩ (U8 0) fun w165 => SetVC w165 ⟨g1, 9, none⟩ (U8 0) fun w166 => SetVC w166 ⟨g1, 10, none⟩ (U8 0) fun w167 => SetVC w167 ⟨g1, 11, none⟩ (U8 0) fun w168 =>
 SetVC w168 ⟨g1, 12, none⟩ (U8 0) fun w169 => SetVC w169 ⟨g1, 13, none⟩ (U8 0) fun w170 => SetVC w170 ⟨g1, 14, none⟩ (U8 0) fun w171 => SetVC w171 ⟨g1, 15, none⟩ (U8 0) fun w172 => SetVC w172 ⟨g1, 16, none⟩ (U8 0) fun w173 => SetVC w173 ⟨g1, 17, none⟩ (I6 0) fun w174 =>
 ∃ res06 res118 res26 res36 res46 res56 res66 res76 res86 res96 res106 res119 res126 res136 res146 res156 res166 res176, CA_ w174 g1 [I6 res06, U8 res118, U8 res26, U8 res36, U8 res46, U8 res56, U8 res66, U8 res76, U8 res86, U8 res96, U8 res106, U8 res119, U8 res126, U8 res136, U8 res146, U8 res156, U8 res166, I6 res176] ∧
 R (.returned (.tuple #[.agg #[I6 res06, U8 res118, U8 res26, U8 res36, U8 res46, U8 res56, U8 res66, U8 res76, U8 res86, U8 res96, U8 res106, U8 res119, U8 res126, U8 res136, U8 res146, U8 res156, U8 res166, I6 res176], I6 46, I6 0])) w174)
 (∃ x020 x114 x24 x33 x43 x53 x63 x73 x83 x93 x103 x115 x124 x133 x143 x153 x163 x172, CA_ w156 g3 [I6 x020, U8 x114, U8 x24, U8 x33, U8 x43, U8 x53, U8 x63, U8 x73, U8 x83, U8 x93, U8 x103, U8 x115, U8 x124, U8 x133, U8 x143, U8 x153, U8 x163, I6 x172] ∧
 SetVC w156 ⟨g1, 0, none⟩ (I6 x020) fun w175 => SetVC w175 ⟨g1, 1, none⟩ (U8 x114) fun w176 => SetVC w176 ⟨g1, 2, none⟩ (U8 x24) fun w177 => SetVC w177 ⟨g1, 3, none⟩ (U8 x33) fun w178 => SetVC w178 ⟨g1, 4, none⟩ (U8 x43) fun w179 => SetVC w179 ⟨g1, 5, none⟩ (U8 x53) fun w180 =>
 SetVC w180 ⟨g1, 6, none⟩ (U8 x63) fun w181 => SetVC w181 ⟨g1, 7, none⟩ (U8 x73) fun w182 => SetVC w182 ⟨g1, 8, none⟩ (U8 x83) fun w183 => SetVC w183 ⟨g1, 9, none⟩ (U8 x93) fun w184 => SetVC w184 ⟨g1, 10, none⟩ (U8 x103) fun w185 => SetVC w185 ⟨g1, 11, none⟩ (U8 x115) fun w186 =>
 SetVC w186 ⟨g1, 12, none⟩ (U8 x124) fun w187 => SetVC w187 ⟨g1, 13, none⟩ (U8 x133) fun w188 => SetVC w188 ⟨g1, 14, none⟩ (U8 x143) fun w189 => SetVC w189 ⟨g1, 15, none⟩ (U8 x153) fun w190 => SetVC w190 ⟨g1, 16, none⟩ (U8 x163) fun w191 => SetVC w191 ⟨g1, 17, none⟩ (I6 x172) fun w192 =>
 ∃ res07 res120 res27 res37 res47 res57 res67 res77 res87 res97 res107 res1110 res127 res137 res147 res157 res167 res177, CA_ w192 g1 [I6 res07, U8 res120, U8 res27, U8 res37, U8 res47, U8 res57, U8 res67, U8 res77, U8 res87, U8 res97, U8 res107, U8 res1110, U8 res127, U8 res137, U8 res147, U8 res157, U8 res167, I6 res177] ∧
 R (.returned (.tuple #[.agg #[I6 res07, U8 res120, U8 res27, U8 res37, U8 res47, U8 res57, U8 res67, U8 res77, U8 res87, U8 res97, U8 res107, U8 res1110, U8 res127, U8 res137, U8 res147, U8 res157, U8 res167, I6 res177], I6 0, I6 0])) w192)) (pn_ R))))) (pn_ R))) (pn_ R)))
def weirref4_ParsePrefix_J15 (R : EWP) (s : ByteArray) (g1 : Nat) (k : Int) (w21 : World) : Prop := Br (decide (k = (s.size : Int))) (SetVC w21 ⟨g1, 0, none⟩ (I6 0) fun w22 => SetVC w22 ⟨g1, 1, none⟩ (U8 0) fun w23 => SetVC w23 ⟨g1, 2, none⟩ (U8 0) fun w24 =>
 SetVC w24 ⟨g1, 3, none⟩ (U8 0) fun w25 => SetVC w25 ⟨g1, 4, none⟩ (U8 0) fun w26 => SetVC w26 ⟨g1, 5, none⟩ (U8 0) fun w27 => SetVC w27 ⟨g1, 6, none⟩ (U8 0) fun w28 => SetVC w28 ⟨g1, 7, none⟩ (U8 0) fun w29 => SetVC w29 ⟨g1, 8, none⟩ (U8 0) fun w30 => SetVC w30 ⟨g1, 9, none⟩ (U8 0) fun w31 =>
 SetVC w31 ⟨g1, 10, none⟩ (U8 0) fun w32 => SetVC w32 ⟨g1, 11, none⟩ (U8 0) fun w33 => SetVC w33 ⟨g1, 12, none⟩ (U8 0) fun w34 => SetVC w34 ⟨g1, 13, none⟩ (U8 0) fun w35 => SetVC w35 ⟨g1, 14, none⟩ (U8 0) fun w36 => SetVC w36 ⟨g1, 15, none⟩ (U8 0) fun w37 =>
 SetVC w37 ⟨g1, 16, none⟩ (U8 0) fun w38 => SetVC w38 ⟨g1, 17, none⟩ (I6 0) fun w39 =>
 ∃ res01 res18 res21 res31 res41 res51 res61 res71 res81 res91 res101 res111 res121 res131 res141 res151 res161 res171, CA_ w39 g1 [I6 res01, U8 res18, U8 res21, U8 res31, U8 res41, U8 res51, U8 res61, U8 res71, U8 res81, U8 res91, U8 res101, U8 res111, U8 res121, U8 res131, U8 res141, U8 res151, U8 res161, I6 res171] ∧
 R (.returned (.tuple #[.agg #[I6 res01, U8 res18, U8 res21, U8 res31, U8 res41, U8 res51, U8 res61, U8 res71, U8 res81, U8 res91, U8 res101, U8 res111, U8 res121, U8 res131, U8 res141, U8 res151, U8 res161, I6 res171], I6 42, I6 (s.size : Int)])) w39) (StrCutVC s none (some k) fun s1 =>
 Calls Tryz.prog 115 #[.string s1] w21 (onRet (fun r_ w40 => ∃ x00 x01 x02 x03 x04 x05 x06 x07 x08 x09 x010 x011 x012 x013 x014 x015 x016 x1 x2, r_ = .tuple #[.agg #[I6 x00, U8 x01, U8 x02, U8 x03, U8 x04, U8 x05, U8 x06, U8 x07, U8 x08, U8 x09, U8 x010, U8 x011, U8 x012, U8 x013, U8 x014, U8 x015, U8 x016], I6 x1, I6 x2] ∧
 NewVC w40 (.cells #[I6 0, U8 0, U8 0, U8 0, U8 0, U8 0, U8 0, U8 0, U8 0, U8 0, U8 0, U8 0, U8 0, U8 0, U8 0, U8 0, U8 0] 24) fun g2 w41 => SetVC w41 ⟨g2, 0, none⟩ (I6 x00) fun w42 => SetVC w42 ⟨g2, 1, none⟩ (U8 x01) fun w43 => SetVC w43 ⟨g2, 2, none⟩ (U8 x02) fun w44 =>
 SetVC w44 ⟨g2, 3, none⟩ (U8 x03) fun w45 => SetVC w45 ⟨g2, 4, none⟩ (U8 x04) fun w46 => SetVC w46 ⟨g2, 5, none⟩ (U8 x05) fun w47 => SetVC w47 ⟨g2, 6, none⟩ (U8 x06) fun w48 => SetVC w48 ⟨g2, 7, none⟩ (U8 x07) fun w49 => SetVC w49 ⟨g2, 8, none⟩ (U8 x08) fun w50 =>
 SetVC w50 ⟨g2, 9, none⟩ (U8 x09) fun w51 => SetVC w51 ⟨g2, 10, none⟩ (U8 x010) fun w52 => SetVC w52 ⟨g2, 11, none⟩ (U8 x011) fun w53 => SetVC w53 ⟨g2, 12, none⟩ (U8 x012) fun w54 => SetVC w54 ⟨g2, 13, none⟩ (U8 x013) fun w55 => SetVC w55 ⟨g2, 14, none⟩ (U8 x014) fun w56 =>
 SetVC w56 ⟨g2, 15, none⟩ (U8 x015) fun w57 => SetVC w57 ⟨g2, 16, none⟩ (U8 x016) fun w58 => Br (decide (x1 ≠ 0)) (SetVC w58 ⟨g1, 0, none⟩ (I6 0) fun w59 => SetVC w59 ⟨g1, 1, none⟩ (U8 0) fun w60 => SetVC w60 ⟨g1, 2, none⟩ (U8 0) fun w61 => SetVC w61 ⟨g1, 3, none⟩ (U8 0) fun w62 =>
 SetVC w62 ⟨g1, 4, none⟩ (U8 0) fun w63 => SetVC w63 ⟨g1, 5, none⟩ (U8 0) fun w64 => SetVC w64 ⟨g1, 6, none⟩ (U8 0) fun w65 => SetVC w65 ⟨g1, 7, none⟩ (U8 0) fun w66 => SetVC w66 ⟨g1, 8, none⟩ (U8 0) fun w67 => SetVC w67 ⟨g1, 9, none⟩ (U8 0) fun w68 => SetVC w68 ⟨g1, 10, none⟩ (U8 0) fun w69 =>
 SetVC w69 ⟨g1, 11, none⟩ (U8 0) fun w70 => SetVC w70 ⟨g1, 12, none⟩ (U8 0) fun w71 => SetVC w71 ⟨g1, 13, none⟩ (U8 0) fun w72 => SetVC w72 ⟨g1, 14, none⟩ (U8 0) fun w73 => SetVC w73 ⟨g1, 15, none⟩ (U8 0) fun w74 => SetVC w74 ⟨g1, 16, none⟩ (U8 0) fun w75 =>
 SetVC w75 ⟨g1, 17, none⟩ (I6 0) fun w76 =>
 ∃ res02 res19 res22 res32 res42 res52 res62 res72 res82 res92 res102 res112 res122 res132 res142 res152 res162 res172, CA_ w76 g1 [I6 res02, U8 res19, U8 res22, U8 res32, U8 res42, U8 res52, U8 res62, U8 res72, U8 res82, U8 res92, U8 res102, U8 res112, U8 res122, U8 res132, U8 res142, U8 res152, U8 res162, I6 res172] ∧
 R (.returned (.tuple #[.agg #[I6 res02, U8 res19, U8 res22, U8 res32, U8 res42, U8 res52, U8 res62, U8 res72, U8 res82, U8 res92, U8 res102, U8 res112, U8 res122, U8 res132, U8 res142, U8 res152, U8 res162, I6 res172], I6 x1, I6 x2])) w76) (JoinVC (S := Int) (fun J511 =>
 LoopVC (S := Int) (fun s_ w77 K2044 => weirref4_ParsePrefix_L2044 R s J511 s_ w77 K2044) (IntKind.i64.wrap (k + 1)) w58) (fun s_ w79 => weirref4_ParsePrefix_J511 R s g1 k g2 s_ w79))) (pn_ R)))
def weirref4_ParsePrefix_VC (s : ByteArray) (w : World) (R : EWP) : Prop := NewVC w (.cells #[I6 0, U8 0, U8 0, U8 0, U8 0, U8 0, U8 0, U8 0, U8 0, U8 0, U8 0, U8 0, U8 0, U8 0, U8 0, U8 0, U8 0, I6 0] 137) fun g1 w1 => Br (decide ((49 : Int) < (s.size : Int)))
 (SetVC w1 ⟨g1, 0, none⟩ (I6 0) fun w2 => SetVC w2 ⟨g1, 1, none⟩ (U8 0) fun w3 => SetVC w3 ⟨g1, 2, none⟩ (U8 0) fun w4 => SetVC w4 ⟨g1, 3, none⟩ (U8 0) fun w5 => SetVC w5 ⟨g1, 4, none⟩ (U8 0) fun w6 => SetVC w6 ⟨g1, 5, none⟩ (U8 0) fun w7 => SetVC w7 ⟨g1, 6, none⟩ (U8 0) fun w8 =>
 SetVC w8 ⟨g1, 7, none⟩ (U8 0) fun w9 => SetVC w9 ⟨g1, 8, none⟩ (U8 0) fun w10 => SetVC w10 ⟨g1, 9, none⟩ (U8 0) fun w11 => SetVC w11 ⟨g1, 10, none⟩ (U8 0) fun w12 => SetVC w12 ⟨g1, 11, none⟩ (U8 0) fun w13 => SetVC w13 ⟨g1, 12, none⟩ (U8 0) fun w14 => SetVC w14 ⟨g1, 13, none⟩ (U8 0) fun w15 =>
 SetVC w15 ⟨g1, 14, none⟩ (U8 0) fun w16 => SetVC w16 ⟨g1, 15, none⟩ (U8 0) fun w17 => SetVC w17 ⟨g1, 16, none⟩ (U8 0) fun w18 => SetVC w18 ⟨g1, 17, none⟩ (I6 0) fun w19 =>
 ∃ res0 res1 res2 res3 res4 res5 res6 res7 res8 res9 res10 res11 res12 res13 res14 res15 res16 res17, CA_ w19 g1 [I6 res0, U8 res1, U8 res2, U8 res3, U8 res4, U8 res5, U8 res6, U8 res7, U8 res8, U8 res9, U8 res10, U8 res11, U8 res12, U8 res13, U8 res14, U8 res15, U8 res16, I6 res17] ∧
 R (.returned (.tuple #[.agg #[I6 res0, U8 res1, U8 res2, U8 res3, U8 res4, U8 res5, U8 res6, U8 res7, U8 res8, U8 res9, U8 res10, U8 res11, U8 res12, U8 res13, U8 res14, U8 res15, U8 res16, I6 res17], I6 2, I6 49])) w19) (JoinVC (S := Int) (fun J15 =>
 LoopVC (S := Int) (fun s_ w20 K60 => weirref4_ParsePrefix_L60 s J15 s_ w20 K60) 0 w1) (fun s_ w21 => weirref4_ParsePrefix_J15 R s g1 s_ w21))
def weirref4_ParsePrefix_H : Hints := [(60, [(5, .int .i64)]), (15, [(5, .int .i64)]), (2044, [(9, .int .i64)]), (511, [(9, .int .i64)])]
theorem weirref4_ParsePrefix_of (s : ByteArray) (w : World) (R : EWP) (h_ : weirref4_ParsePrefix_VC s w R) : Calls Tryz.prog 93 #[.string s] w R := calls_of_wpc callOk mixedOk (H := weirref4_ParsePrefix_H) (c := bodyOf Tryz.f93) Tryz.func93 rfl (nb_ rfl)
 (Eq.mp (by kernel_rfl) h_)
def weirref4_Contains_L250 (R : EWP) (g1 g2 : Nat) (i : Int) (w5 : World) (K250 : (Int → World → Prop)) : Prop := ∃ x23, w5.cell? (ad_ g1 17) = some (I6 x23) ∧ Br (decide (i < x23)) (DrawVC w5 fun S1 w6 =>
 ∃ x02 x110 x24 x32 x42 x52 x62 x72 x82 x92 x102 x112 x122 x132 x142 x152 x162, (∀ w' : World, S1 w' → CellsAt w' ⟨g1, 0, none⟩ 0 [I6 x02, U8 x110, U8 x24, U8 x32, U8 x42, U8 x52, U8 x62, U8 x72, U8 x82, U8 x92, U8 x102, U8 x112, U8 x122, U8 x132, U8 x142, U8 x152, U8 x162]) ∧
 ∃ x03 x113 x25 x33 x43 x53 x63 x73 x83 x93 x103 x114 x123 x133 x143 x153 x163, (∀ w' : World, S1 w' → CellsAt w' ⟨g2, 0, none⟩ 0 [I6 x03, U8 x113, U8 x25, U8 x33, U8 x43, U8 x53, U8 x63, U8 x73, U8 x83, U8 x93, U8 x103, U8 x114, U8 x123, U8 x133, U8 x143, U8 x153, U8 x163]) ∧
 Calls Tryz.prog 121 #[.agg #[I6 x02, U8 x110, U8 x24, U8 x32, U8 x42, U8 x52, U8 x62, U8 x72, U8 x82, U8 x92, U8 x102, U8 x112, U8 x122, U8 x132, U8 x142, U8 x152, U8 x162], I6 i] w6 (onRet (fun r_2 w7 => ∃ x26, r_2 = I6 x26 ∧ S1 w7 ∧
 Calls Tryz.prog 121 #[.agg #[I6 x03, U8 x113, U8 x25, U8 x33, U8 x43, U8 x53, U8 x63, U8 x73, U8 x83, U8 x93, U8 x103, U8 x114, U8 x123, U8 x133, U8 x143, U8 x153, U8 x163], I6 i] w7 (onRet (fun r_3 w8 => ∃ x27, r_3 = I6 x27 ∧ S1 w8 ∧ Br (decide (x26 ≠ x27)) (R (.returned (.bool false)) w8)
 (K250 (IntKind.i64.wrap (i + 1)) w8)) (fun _ _ => False))) (fun _ _ => False))) (R (.returned (.bool true)) w5)
def weirref4_Contains_VC (p_IPV p_IPA0_ p_IPA1_ p_IPA2_ p_IPA3_ p_IPA4_ p_IPA5_ p_IPA6_ p_IPA7_ p_IPA8_ p_IPA9_ p_IPA10_ p_IPA11_ p_IPA12_ p_IPA13_ p_IPA14_ p_IPA15_ p_Len ip_V ip_0 ip_1 ip_2 ip_3 ip_4 ip_5 ip_6 ip_7 ip_8 ip_9 ip_10 ip_11 ip_12 ip_13 ip_14 ip_15 : Int) (w : World) (R : EWP) : Prop :=
 NewVC w (.cells #[I6 p_IPV, U8 p_IPA0_, U8 p_IPA1_, U8 p_IPA2_, U8 p_IPA3_, U8 p_IPA4_, U8 p_IPA5_, U8 p_IPA6_, U8 p_IPA7_, U8 p_IPA8_, U8 p_IPA9_, U8 p_IPA10_, U8 p_IPA11_, U8 p_IPA12_, U8 p_IPA13_, U8 p_IPA14_, U8 p_IPA15_, I6 p_Len] 137) fun g1 w1 =>
 NewVC w1 (.cells #[I6 ip_V, U8 ip_0, U8 ip_1, U8 ip_2, U8 ip_3, U8 ip_4, U8 ip_5, U8 ip_6, U8 ip_7, U8 ip_8, U8 ip_9, U8 ip_10, U8 ip_11, U8 ip_12, U8 ip_13, U8 ip_14, U8 ip_15] 24) fun g2 w2 =>
 ∃ x0 x1 x2 x3 x4 x5 x6 x7 x8 x9 x10 x11 x12 x13 x14 x15 x16 x17, CA_ w2 g1 [I6 x0, U8 x1, U8 x2, U8 x3, U8 x4, U8 x5, U8 x6, U8 x7, U8 x8, U8 x9, U8 x10, U8 x11, U8 x12, U8 x13, U8 x14, U8 x15, U8 x16, I6 x17] ∧
 Calls Tryz.prog 120 #[.agg #[I6 x0, U8 x1, U8 x2, U8 x3, U8 x4, U8 x5, U8 x6, U8 x7, U8 x8, U8 x9, U8 x10, U8 x11, U8 x12, U8 x13, U8 x14, U8 x15, U8 x16, I6 x17]] w2 (onRet (fun r_ w3 => ∃ x, r_ = I6 x ∧
 ∃ x01 x18 x21 x31 x41 x51 x61 x71 x81 x91 x101 x111 x121 x131 x141 x151 x161, CA_ w3 g2 [I6 x01, U8 x18, U8 x21, U8 x31, U8 x41, U8 x51, U8 x61, U8 x71, U8 x81, U8 x91, U8 x101, U8 x111, U8 x121, U8 x131, U8 x141, U8 x151, U8 x161] ∧
 Calls Tryz.prog 65 #[.agg #[I6 x01, U8 x18, U8 x21, U8 x31, U8 x41, U8 x51, U8 x61, U8 x71, U8 x81, U8 x91, U8 x101, U8 x111, U8 x121, U8 x131, U8 x141, U8 x151, U8 x161]] w3 (onRet (fun r_1 w4 => ∃ x19, r_1 = .bool x19 ∧ Br (decide (x ≠ 0)) (R (.returned (.bool false)) w4) (Br (!x19)
 (R (.returned (.bool false)) w4) (∃ x20, w4.cell? (ad_ g1 0) = some (I6 x20) ∧ ∃ x22, w4.cell? (ad_ g2 0) = some (I6 x22) ∧ Br (decide (x20 ≠ x22)) (R (.returned (.bool false)) w4) (LoopVC (S := Int) (fun s_ w5 K250 => weirref4_Contains_L250 R g1 g2 s_ w5 K250) 0 w4)))) (pn_ R))) (pn_ R))
def weirref4_Contains_H : Hints := [(250, [(7, .int .i64)])]
theorem weirref4_Contains_of (p_IPV p_IPA0_ p_IPA1_ p_IPA2_ p_IPA3_ p_IPA4_ p_IPA5_ p_IPA6_ p_IPA7_ p_IPA8_ p_IPA9_ p_IPA10_ p_IPA11_ p_IPA12_ p_IPA13_ p_IPA14_ p_IPA15_ p_Len ip_V ip_0 ip_1 ip_2 ip_3 ip_4 ip_5 ip_6 ip_7 ip_8 ip_9 ip_10 ip_11 ip_12 ip_13 ip_14 ip_15 : Int) (w : World) (R : EWP) (h_ : weirref4_Contains_VC p_IPV p_IPA0_ p_IPA1_ p_IPA2_ p_IPA3_ p_IPA4_ p_IPA5_ p_IPA6_ p_IPA7_ p_IPA8_ p_IPA9_ p_IPA10_ p_IPA11_ p_IPA12_ p_IPA13_ p_IPA14_ p_IPA15_ p_Len ip_V ip_0 ip_1 ip_2 ip_3 ip_4 ip_5 ip_6 ip_7 ip_8 ip_9 ip_10 ip_11 ip_12 ip_13 ip_14 ip_15 w R) :
 Calls Tryz.prog 94 #[.agg #[I6 p_IPV, U8 p_IPA0_, U8 p_IPA1_, U8 p_IPA2_, U8 p_IPA3_, U8 p_IPA4_, U8 p_IPA5_, U8 p_IPA6_, U8 p_IPA7_, U8 p_IPA8_, U8 p_IPA9_, U8 p_IPA10_, U8 p_IPA11_, U8 p_IPA12_, U8 p_IPA13_, U8 p_IPA14_, U8 p_IPA15_, I6 p_Len], .agg #[I6 ip_V, U8 ip_0, U8 ip_1, U8 ip_2, U8 ip_3, U8 ip_4, U8 ip_5, U8 ip_6, U8 ip_7, U8 ip_8, U8 ip_9, U8 ip_10, U8 ip_11, U8 ip_12, U8 ip_13, U8 ip_14, U8 ip_15]] w R :=
 calls_of_wpc callOk mixedOk (H := weirref4_Contains_H) (c := bodyOf Tryz.f94) Tryz.func94 rfl (nb_ rfl)
 (Eq.mp (by kernel_rfl) h_)
def addr_size_VC (ip_V ip_0 ip_1 ip_2 ip_3 ip_4 ip_5 ip_6 ip_7 ip_8 ip_9 ip_10 ip_11 ip_12 ip_13 ip_14 ip_15 : Int) (w : World) (R : EWP) : Prop :=
 NewVC w (.cells #[I6 ip_V, U8 ip_0, U8 ip_1, U8 ip_2, U8 ip_3, U8 ip_4, U8 ip_5, U8 ip_6, U8 ip_7, U8 ip_8, U8 ip_9, U8 ip_10, U8 ip_11, U8 ip_12, U8 ip_13, U8 ip_14, U8 ip_15] 24) fun g1 w1 => ∃ x, w1.cell? (ad_ g1 0) = some (I6 x) ∧ Br (decide (x = 6))
 (R (.returned (I6 128)) w1) (∃ x1, w1.cell? (ad_ g1 0) = some (I6 x1) ∧ Br (decide (x1 ≠ 4)) (R (.returned (I6 0)) w1) (SliceVC (some ⟨g1, 1, none⟩) 16 16 1 (some 4) none none fun sA sn _sc => 12 ≤ sn ∧ NilVC sA fun p =>
 ∃ x0 x11 x2 x3 x4 x5 x6 x7 x8 x9 x10 x111, CellsAt w1 p 0 [U8 x0, U8 x11, U8 x2, U8 x3, U8 x4, U8 x5, U8 x6, U8 x7, U8 x8, U8 x9, U8 x10, U8 x111] ∧
 Br (!(((decide (x0 = 0)) && ((decide (x11 = 0)) && ((decide (x2 = 0)) && ((decide (x3 = 0)) && ((decide (x4 = 0)) && ((decide (x5 = 0)) && ((decide (x6 = 0)) && ((decide (x7 = 0)) && ((decide (x8 = 0)) && ((decide (x9 = 0)) && ((decide (x10 = 0)) && ((decide (x111 = 0)) && true))))))))))))))
 (R (.returned (I6 0)) w1) (R (.returned (I6 32)) w1)))
def addr_size_H : Hints := []
theorem addr_size_of (ip_V ip_0 ip_1 ip_2 ip_3 ip_4 ip_5 ip_6 ip_7 ip_8 ip_9 ip_10 ip_11 ip_12 ip_13 ip_14 ip_15 : Int) (w : World) (R : EWP) (h_ : addr_size_VC ip_V ip_0 ip_1 ip_2 ip_3 ip_4 ip_5 ip_6 ip_7 ip_8 ip_9 ip_10 ip_11 ip_12 ip_13 ip_14 ip_15 w R) :
 Calls Tryz.prog 106 #[.agg #[I6 ip_V, U8 ip_0, U8 ip_1, U8 ip_2, U8 ip_3, U8 ip_4, U8 ip_5, U8 ip_6, U8 ip_7, U8 ip_8, U8 ip_9, U8 ip_10, U8 ip_11, U8 ip_12, U8 ip_13, U8 ip_14, U8 ip_15]] w R :=
 calls_of_wpc callOk mixedOk (H := addr_size_H) (c := bodyOf Tryz.f106) Tryz.func106 rfl (nb_ rfl)
 (Eq.mp (by kernel_rfl) h_)
def weirref4_ParseIP_L1018 (R : EWP) (g1 : Nat) (x0A : Option Addr) (x0n g3 : Nat) (i : Int) (w108 : World) (K1018 : (Int → World → Prop)) : Prop := Br (decide (i < 4)) (IdxVC x0A x0n 1 i fun a => ∃ x17, w108.cell? a = some (U8 x17) ∧ IdxVC (some ⟨g3, 1, none⟩) 16 1 i fun a1 =>
 SetVC w108 a1 (U8 x17) fun w109 => K1018 (IntKind.i64.wrap (i + 1)) w109)
 (∃ x016 x18 x23 x31 x41 x51 x61 x71 x81 x91 x101 x112 x121 x131 x141 x151 x161, CA_ w108 g3 [I6 x016, U8 x18, U8 x23, U8 x31, U8 x41, U8 x51, U8 x61, U8 x71, U8 x81, U8 x91, U8 x101, U8 x112, U8 x121, U8 x131, U8 x141, U8 x151, U8 x161] ∧ SetVC w108 ⟨g1, 0, none⟩ (I6 x016) fun w110 =>
 SetVC w110 ⟨g1, 1, none⟩ (U8 x18) fun w111 => SetVC w111 ⟨g1, 2, none⟩ (U8 x23) fun w112 => SetVC w112 ⟨g1, 3, none⟩ (U8 x31) fun w113 => SetVC w113 ⟨g1, 4, none⟩ (U8 x41) fun w114 => SetVC w114 ⟨g1, 5, none⟩ (U8 x51) fun w115 => SetVC w115 ⟨g1, 6, none⟩ (U8 x61) fun w116 =>
 SetVC w116 ⟨g1, 7, none⟩ (U8 x71) fun w117 => SetVC w117 ⟨g1, 8, none⟩ (U8 x81) fun w118 => SetVC w118 ⟨g1, 9, none⟩ (U8 x91) fun w119 => SetVC w119 ⟨g1, 10, none⟩ (U8 x101) fun w120 => SetVC w120 ⟨g1, 11, none⟩ (U8 x112) fun w121 => SetVC w121 ⟨g1, 12, none⟩ (U8 x121) fun w122 =>
 SetVC w122 ⟨g1, 13, none⟩ (U8 x131) fun w123 => SetVC w123 ⟨g1, 14, none⟩ (U8 x141) fun w124 => SetVC w124 ⟨g1, 15, none⟩ (U8 x151) fun w125 => SetVC w125 ⟨g1, 16, none⟩ (U8 x161) fun w126 =>
 ∃ res04 res110 res24 res34 res44 res54 res64 res74 res84 res94 res104 res114 res124 res134 res144 res154 res164, CA_ w126 g1 [I6 res04, U8 res110, U8 res24, U8 res34, U8 res44, U8 res54, U8 res64, U8 res74, U8 res84, U8 res94, U8 res104, U8 res114, U8 res124, U8 res134, U8 res144, U8 res154, U8 res164] ∧
 R (.returned (.tuple #[.agg #[I6 res04, U8 res110, U8 res24, U8 res34, U8 res44, U8 res54, U8 res64, U8 res74, U8 res84, U8 res94, U8 res104, U8 res114, U8 res124, U8 res134, U8 res144, U8 res154, U8 res164], I6 0, I6 0])) w126)
def weirref4_ParseIP_VC (s : ByteArray) (w : World) (R : EWP) : Prop := NewVC w (.cells #[I6 0, U8 0, U8 0, U8 0, U8 0, U8 0, U8 0, U8 0, U8 0, U8 0, U8 0, U8 0, U8 0, U8 0, U8 0, U8 0, U8 0] 24) fun g1 w1 => Br (decide ((45 : Int) < (s.size : Int))) (SetVC w1 ⟨g1, 0, none⟩ (I6 0) fun w2 =>
 SetVC w2 ⟨g1, 1, none⟩ (U8 0) fun w3 => SetVC w3 ⟨g1, 2, none⟩ (U8 0) fun w4 => SetVC w4 ⟨g1, 3, none⟩ (U8 0) fun w5 => SetVC w5 ⟨g1, 4, none⟩ (U8 0) fun w6 => SetVC w6 ⟨g1, 5, none⟩ (U8 0) fun w7 => SetVC w7 ⟨g1, 6, none⟩ (U8 0) fun w8 => SetVC w8 ⟨g1, 7, none⟩ (U8 0) fun w9 =>
 SetVC w9 ⟨g1, 8, none⟩ (U8 0) fun w10 => SetVC w10 ⟨g1, 9, none⟩ (U8 0) fun w11 => SetVC w11 ⟨g1, 10, none⟩ (U8 0) fun w12 => SetVC w12 ⟨g1, 11, none⟩ (U8 0) fun w13 => SetVC w13 ⟨g1, 12, none⟩ (U8 0) fun w14 => SetVC w14 ⟨g1, 13, none⟩ (U8 0) fun w15 => SetVC w15 ⟨g1, 14, none⟩ (U8 0) fun w16 =>
 SetVC w16 ⟨g1, 15, none⟩ (U8 0) fun w17 => SetVC w17 ⟨g1, 16, none⟩ (U8 0) fun w18 =>
 ∃ res0 res1 res2 res3 res4 res5 res6 res7 res8 res9 res10 res11 res12 res13 res14 res15 res16, CA_ w18 g1 [I6 res0, U8 res1, U8 res2, U8 res3, U8 res4, U8 res5, U8 res6, U8 res7, U8 res8, U8 res9, U8 res10, U8 res11, U8 res12, U8 res13, U8 res14, U8 res15, U8 res16] ∧
 R (.returned (.tuple #[.agg #[I6 res0, U8 res1, U8 res2, U8 res3, U8 res4, U8 res5, U8 res6, U8 res7, U8 res8, U8 res9, U8 res10, U8 res11, U8 res12, U8 res13, U8 res14, U8 res15, U8 res16], I6 2, I6 45])) w18) (Calls Tryz.prog 129 #[.string s, U8 58] w1 (onRet (fun r_ w19 => ∃ x, r_ = .bool x ∧
 Br x
 (Calls Tryz.prog 130 #[.string s] w19 (onRet (fun r_1 w20 => ∃ x00 x01 x02 x03 x04 x05 x06 x07 x08 x09 x010 x011 x012 x013 x014 x015 x1 x2, r_1 = .tuple #[.agg #[U8 x00, U8 x01, U8 x02, U8 x03, U8 x04, U8 x05, U8 x06, U8 x07, U8 x08, U8 x09, U8 x010, U8 x011, U8 x012, U8 x013, U8 x014, U8 x015], I6 x1, I6 x2] ∧
 NewVC w20 (.cells #[U8 0, U8 0, U8 0, U8 0, U8 0, U8 0, U8 0, U8 0, U8 0, U8 0, U8 0, U8 0, U8 0, U8 0, U8 0, U8 0] 22) fun g2 w21 => SetVC w21 ⟨g2, 0, none⟩ (U8 x00) fun w22 => SetVC w22 ⟨g2, 1, none⟩ (U8 x01) fun w23 => SetVC w23 ⟨g2, 2, none⟩ (U8 x02) fun w24 =>
 SetVC w24 ⟨g2, 3, none⟩ (U8 x03) fun w25 => SetVC w25 ⟨g2, 4, none⟩ (U8 x04) fun w26 => SetVC w26 ⟨g2, 5, none⟩ (U8 x05) fun w27 => SetVC w27 ⟨g2, 6, none⟩ (U8 x06) fun w28 => SetVC w28 ⟨g2, 7, none⟩ (U8 x07) fun w29 => SetVC w29 ⟨g2, 8, none⟩ (U8 x08) fun w30 =>
 SetVC w30 ⟨g2, 9, none⟩ (U8 x09) fun w31 => SetVC w31 ⟨g2, 10, none⟩ (U8 x010) fun w32 => SetVC w32 ⟨g2, 11, none⟩ (U8 x011) fun w33 => SetVC w33 ⟨g2, 12, none⟩ (U8 x012) fun w34 => SetVC w34 ⟨g2, 13, none⟩ (U8 x013) fun w35 => SetVC w35 ⟨g2, 14, none⟩ (U8 x014) fun w36 =>
 SetVC w36 ⟨g2, 15, none⟩ (U8 x015) fun w37 => Br (decide (x1 ≠ 0)) (SetVC w37 ⟨g1, 0, none⟩ (I6 0) fun w38 => SetVC w38 ⟨g1, 1, none⟩ (U8 0) fun w39 => SetVC w39 ⟨g1, 2, none⟩ (U8 0) fun w40 => SetVC w40 ⟨g1, 3, none⟩ (U8 0) fun w41 => SetVC w41 ⟨g1, 4, none⟩ (U8 0) fun w42 =>
 SetVC w42 ⟨g1, 5, none⟩ (U8 0) fun w43 => SetVC w43 ⟨g1, 6, none⟩ (U8 0) fun w44 => SetVC w44 ⟨g1, 7, none⟩ (U8 0) fun w45 => SetVC w45 ⟨g1, 8, none⟩ (U8 0) fun w46 => SetVC w46 ⟨g1, 9, none⟩ (U8 0) fun w47 => SetVC w47 ⟨g1, 10, none⟩ (U8 0) fun w48 => SetVC w48 ⟨g1, 11, none⟩ (U8 0) fun w49 =>
 SetVC w49 ⟨g1, 12, none⟩ (U8 0) fun w50 => SetVC w50 ⟨g1, 13, none⟩ (U8 0) fun w51 => SetVC w51 ⟨g1, 14, none⟩ (U8 0) fun w52 => SetVC w52 ⟨g1, 15, none⟩ (U8 0) fun w53 => SetVC w53 ⟨g1, 16, none⟩ (U8 0) fun w54 =>
 ∃ res01 res17 res21 res31 res41 res51 res61 res71 res81 res91 res101 res111 res121 res131 res141 res151 res161, CA_ w54 g1 [I6 res01, U8 res17, U8 res21, U8 res31, U8 res41, U8 res51, U8 res61, U8 res71, U8 res81, U8 res91, U8 res101, U8 res111, U8 res121, U8 res131, U8 res141, U8 res151, U8 res161] ∧
 R (.returned (.tuple #[.agg #[I6 res01, U8 res17, U8 res21, U8 res31, U8 res41, U8 res51, U8 res61, U8 res71, U8 res81, U8 res91, U8 res101, U8 res111, U8 res121, U8 res131, U8 res141, U8 res151, U8 res161], I6 x1, I6 x2])) w54)
 (∃ x0 x11 x21 x3 x4 x5 x6 x7 x8 x9 x10 x111 x12 x13 x14 x15, CA_ w37 g2 [U8 x0, U8 x11, U8 x21, U8 x3, U8 x4, U8 x5, U8 x6, U8 x7, U8 x8, U8 x9, U8 x10, U8 x111, U8 x12, U8 x13, U8 x14, U8 x15] ∧ SetVC w37 ⟨g1, 0, none⟩ (I6 6) fun w55 => SetVC w55 ⟨g1, 1, none⟩ (U8 x0) fun w56 =>
 SetVC w56 ⟨g1, 2, none⟩ (U8 x11) fun w57 => SetVC w57 ⟨g1, 3, none⟩ (U8 x21) fun w58 => SetVC w58 ⟨g1, 4, none⟩ (U8 x3) fun w59 => SetVC w59 ⟨g1, 5, none⟩ (U8 x4) fun w60 => SetVC w60 ⟨g1, 6, none⟩ (U8 x5) fun w61 => SetVC w61 ⟨g1, 7, none⟩ (U8 x6) fun w62 =>
 SetVC w62 ⟨g1, 8, none⟩ (U8 x7) fun w63 => SetVC w63 ⟨g1, 9, none⟩ (U8 x8) fun w64 => SetVC w64 ⟨g1, 10, none⟩ (U8 x9) fun w65 => SetVC w65 ⟨g1, 11, none⟩ (U8 x10) fun w66 => SetVC w66 ⟨g1, 12, none⟩ (U8 x111) fun w67 => SetVC w67 ⟨g1, 13, none⟩ (U8 x12) fun w68 =>
 SetVC w68 ⟨g1, 14, none⟩ (U8 x13) fun w69 => SetVC w69 ⟨g1, 15, none⟩ (U8 x14) fun w70 => SetVC w70 ⟨g1, 16, none⟩ (U8 x15) fun w71 =>
 ∃ res02 res18 res22 res32 res42 res52 res62 res72 res82 res92 res102 res112 res122 res132 res142 res152 res162, CA_ w71 g1 [I6 res02, U8 res18, U8 res22, U8 res32, U8 res42, U8 res52, U8 res62, U8 res72, U8 res82, U8 res92, U8 res102, U8 res112, U8 res122, U8 res132, U8 res142, U8 res152, U8 res162] ∧
 R (.returned (.tuple #[.agg #[I6 res02, U8 res18, U8 res22, U8 res32, U8 res42, U8 res52, U8 res62, U8 res72, U8 res82, U8 res92, U8 res102, U8 res112, U8 res122, U8 res132, U8 res142, U8 res152, U8 res162], I6 0, I6 0])) w71)) (pn_ R)))
 (Calls Tryz.prog 131 #[.string s, I6 0] w19 (onRet (fun r_2 w72 => ∃ x0A x0n x0c x16 x22, r_2 = .tuple #[.slice x0A x0n x0c, I6 x16, I6 x22] ∧ Br (decide (x16 ≠ 0)) (SetVC w72 ⟨g1, 0, none⟩ (I6 0) fun w73 => SetVC w73 ⟨g1, 1, none⟩ (U8 0) fun w74 => SetVC w74 ⟨g1, 2, none⟩ (U8 0) fun w75 =>
 SetVC w75 ⟨g1, 3, none⟩ (U8 0) fun w76 => SetVC w76 ⟨g1, 4, none⟩ (U8 0) fun w77 => SetVC w77 ⟨g1, 5, none⟩ (U8 0) fun w78 => SetVC w78 ⟨g1, 6, none⟩ (U8 0) fun w79 => SetVC w79 ⟨g1, 7, none⟩ (U8 0) fun w80 => SetVC w80 ⟨g1, 8, none⟩ (U8 0) fun w81 => SetVC w81 ⟨g1, 9, none⟩ (U8 0) fun w82 =>
 SetVC w82 ⟨g1, 10, none⟩ (U8 0) fun w83 => SetVC w83 ⟨g1, 11, none⟩ (U8 0) fun w84 => SetVC w84 ⟨g1, 12, none⟩ (U8 0) fun w85 => SetVC w85 ⟨g1, 13, none⟩ (U8 0) fun w86 => SetVC w86 ⟨g1, 14, none⟩ (U8 0) fun w87 => SetVC w87 ⟨g1, 15, none⟩ (U8 0) fun w88 =>
 SetVC w88 ⟨g1, 16, none⟩ (U8 0) fun w89 =>
 ∃ res03 res19 res23 res33 res43 res53 res63 res73 res83 res93 res103 res113 res123 res133 res143 res153 res163, CA_ w89 g1 [I6 res03, U8 res19, U8 res23, U8 res33, U8 res43, U8 res53, U8 res63, U8 res73, U8 res83, U8 res93, U8 res103, U8 res113, U8 res123, U8 res133, U8 res143, U8 res153, U8 res163] ∧
 R (.returned (.tuple #[.agg #[I6 res03, U8 res19, U8 res23, U8 res33, U8 res43, U8 res53, U8 res63, U8 res73, U8 res83, U8 res93, U8 res103, U8 res113, U8 res123, U8 res133, U8 res143, U8 res153, U8 res163], I6 x16, I6 x22])) w89)
 (NewVC w72 (.cells #[I6 0, U8 0, U8 0, U8 0, U8 0, U8 0, U8 0, U8 0, U8 0, U8 0, U8 0, U8 0, U8 0, U8 0, U8 0, U8 0, U8 0] 24) fun g3 w90 => SetVC w90 ⟨g3, 0, none⟩ (I6 4) fun w91 => SetVC w91 ⟨g3, 1, none⟩ (U8 0) fun w92 => SetVC w92 ⟨g3, 2, none⟩ (U8 0) fun w93 =>
 SetVC w93 ⟨g3, 3, none⟩ (U8 0) fun w94 => SetVC w94 ⟨g3, 4, none⟩ (U8 0) fun w95 => SetVC w95 ⟨g3, 5, none⟩ (U8 0) fun w96 => SetVC w96 ⟨g3, 6, none⟩ (U8 0) fun w97 => SetVC w97 ⟨g3, 7, none⟩ (U8 0) fun w98 => SetVC w98 ⟨g3, 8, none⟩ (U8 0) fun w99 => SetVC w99 ⟨g3, 9, none⟩ (U8 0) fun w100 =>
 SetVC w100 ⟨g3, 10, none⟩ (U8 0) fun w101 => SetVC w101 ⟨g3, 11, none⟩ (U8 0) fun w102 => SetVC w102 ⟨g3, 12, none⟩ (U8 0) fun w103 => SetVC w103 ⟨g3, 13, none⟩ (U8 0) fun w104 => SetVC w104 ⟨g3, 14, none⟩ (U8 0) fun w105 => SetVC w105 ⟨g3, 15, none⟩ (U8 0) fun w106 =>
 SetVC w106 ⟨g3, 16, none⟩ (U8 0) fun w107 => LoopVC (S := Int) (fun s_ w108 K1018 => weirref4_ParseIP_L1018 R g1 x0A x0n g3 s_ w108 K1018) 0 w107)) (pn_ R)))) (pn_ R)))
def weirref4_ParseIP_H : Hints := [(1018, [(12, .int .i64)])]
theorem weirref4_ParseIP_of (s : ByteArray) (w : World) (R : EWP) (h_ : weirref4_ParseIP_VC s w R) : Calls Tryz.prog 115 #[.string s] w R := calls_of_wpc callOk mixedOk (H := weirref4_ParseIP_H) (c := bodyOf Tryz.f115) Tryz.func115 rfl (nb_ rfl)
 (Eq.mp (by kernel_rfl) h_)
def weirref4_digit_VC (c : Int) (w : World) (R : EWP) : Prop := Br (decide ((48 : Int) ≤ c)) (R (.returned (.bool (decide (c ≤ 57)))) w) (R (.returned (.bool false)) w)
def weirref4_digit_H : Hints := []
theorem weirref4_digit_of (c : Int) (w : World) (R : EWP) (h_ : weirref4_digit_VC c w R) : Calls Tryz.prog 116 #[U8 c] w R := calls_of_wpc callOk mixedOk (H := weirref4_digit_H) (c := bodyOf Tryz.f116) Tryz.func116 rfl (nb_ rfl) (Eq.mp (by kernel_rfl) h_)
def weirref4_decimal_L122 (R : EWP) (s : ByteArray) (q most n i : Int) (w2 : World) (K122 : (Int × Int → World → Prop)) : Prop := Br (decide (i < q)) (StrIdxVC s i fun c1 =>
 K122 (IntKind.i64.wrap (IntKind.i64.wrap (10 * n) + IntKind.i64.wrap (IntKind.u8.wrap (c1 - 48))), IntKind.i64.wrap (i + 1)) w2) (Br (decide (most < n)) (R (.returned (I6 (-1))) w2) (R (.returned (I6 n)) w2))
def weirref4_decimal_J3 (R : EWP) (s : ByteArray) (p q most : Int)  (w1 : World) : Prop := LoopVC (S := Int × Int) (fun s_ w2 K122 => weirref4_decimal_L122 R s q most s_.1 s_.2 w2 K122) (0, p) w1
def weirref4_decimal_VC (s : ByteArray) (p q most : Int) (w : World) (R : EWP) : Prop := JoinVC (S := Unit) (fun J3 => Br (decide ((3 : Int) < IntKind.i64.wrap (q - p))) (R (.returned (I6 (-1))) w) (Br (decide ((1 : Int) < IntKind.i64.wrap (q - p))) (StrIdxVC s p fun c => Br (decide (c = 48))
 (R (.returned (I6 (-1))) w) (J3 () w)) (J3 () w))) (fun _ w1 => weirref4_decimal_J3 R s p q most w1)
def weirref4_decimal_H : Hints := [(3, []), (122, [(9, .int .i64), (10, .int .i64)])]
theorem weirref4_decimal_of (s : ByteArray) (p q most : Int) (w : World) (R : EWP) (h_ : weirref4_decimal_VC s p q most w R) : Calls Tryz.prog 118 #[.string s, I6 p, I6 q, I6 most] w R :=
 calls_of_wpc callOk mixedOk (H := weirref4_decimal_H) (c := bodyOf Tryz.f118) Tryz.func118 rfl (nb_ rfl) (Eq.mp (by kernel_rfl) h_)
def weirref4_width_VC (ip_V ip_0 ip_1 ip_2 ip_3 ip_4 ip_5 ip_6 ip_7 ip_8 ip_9 ip_10 ip_11 ip_12 ip_13 ip_14 ip_15 : Int) (w : World) (R : EWP) : Prop :=
 NewVC w (.cells #[I6 ip_V, U8 ip_0, U8 ip_1, U8 ip_2, U8 ip_3, U8 ip_4, U8 ip_5, U8 ip_6, U8 ip_7, U8 ip_8, U8 ip_9, U8 ip_10, U8 ip_11, U8 ip_12, U8 ip_13, U8 ip_14, U8 ip_15] 24) fun g1 w1 => ∃ x, w1.cell? (ad_ g1 0) = some (I6 x) ∧ Br (decide (x = 4))
 (R (.returned (I6 32)) w1) (R (.returned (I6 128)) w1)
def weirref4_width_H : Hints := []
theorem weirref4_width_of (ip_V ip_0 ip_1 ip_2 ip_3 ip_4 ip_5 ip_6 ip_7 ip_8 ip_9 ip_10 ip_11 ip_12 ip_13 ip_14 ip_15 : Int) (w : World) (R : EWP) (h_ : weirref4_width_VC ip_V ip_0 ip_1 ip_2 ip_3 ip_4 ip_5 ip_6 ip_7 ip_8 ip_9 ip_10 ip_11 ip_12 ip_13 ip_14 ip_15 w R) :
 Calls Tryz.prog 119 #[.agg #[I6 ip_V, U8 ip_0, U8 ip_1, U8 ip_2, U8 ip_3, U8 ip_4, U8 ip_5, U8 ip_6, U8 ip_7, U8 ip_8, U8 ip_9, U8 ip_10, U8 ip_11, U8 ip_12, U8 ip_13, U8 ip_14, U8 ip_15]] w R :=
 calls_of_wpc callOk mixedOk (H := weirref4_width_H) (c := bodyOf Tryz.f119) Tryz.func119 rfl (nb_ rfl)
 (Eq.mp (by kernel_rfl) h_)
def weirref4_ValidPrefix_L506 (R : EWP) (g1 : Nat) (x18 i : Int) (w4 : World) (K506 : (Int → World → Prop)) : Prop := Br (decide (i < x18))
 (∃ x02 x110 x23 x32 x42 x52 x62 x72 x82 x92 x102 x112 x122 x132 x142 x152 x162, CA_ w4 g1 [I6 x02, U8 x110, U8 x23, U8 x32, U8 x42, U8 x52, U8 x62, U8 x72, U8 x82, U8 x92, U8 x102, U8 x112, U8 x122, U8 x132, U8 x142, U8 x152, U8 x162] ∧
 Calls Tryz.prog 121 #[.agg #[I6 x02, U8 x110, U8 x23, U8 x32, U8 x42, U8 x52, U8 x62, U8 x72, U8 x82, U8 x92, U8 x102, U8 x112, U8 x122, U8 x132, U8 x142, U8 x152, U8 x162], I6 i] w4 (onRet (fun r_2 w5 => ∃ x24, r_2 = I6 x24 ∧ Br (decide (x24 = 1)) (R (.returned (I6 46)) w5)
 (K506 (IntKind.i64.wrap (i + 1)) w5)) (pn_ R))) (R (.returned (I6 0)) w4)
def weirref4_ValidPrefix_VC (p_IPV p_IPA0_ p_IPA1_ p_IPA2_ p_IPA3_ p_IPA4_ p_IPA5_ p_IPA6_ p_IPA7_ p_IPA8_ p_IPA9_ p_IPA10_ p_IPA11_ p_IPA12_ p_IPA13_ p_IPA14_ p_IPA15_ p_Len : Int) (w : World) (R : EWP) : Prop :=
 NewVC w (.cells #[I6 p_IPV, U8 p_IPA0_, U8 p_IPA1_, U8 p_IPA2_, U8 p_IPA3_, U8 p_IPA4_, U8 p_IPA5_, U8 p_IPA6_, U8 p_IPA7_, U8 p_IPA8_, U8 p_IPA9_, U8 p_IPA10_, U8 p_IPA11_, U8 p_IPA12_, U8 p_IPA13_, U8 p_IPA14_, U8 p_IPA15_, I6 p_Len] 137) fun g1 w1 =>
 ∃ x0 x1 x2 x3 x4 x5 x6 x7 x8 x9 x10 x11 x12 x13 x14 x15 x16, CA_ w1 g1 [I6 x0, U8 x1, U8 x2, U8 x3, U8 x4, U8 x5, U8 x6, U8 x7, U8 x8, U8 x9, U8 x10, U8 x11, U8 x12, U8 x13, U8 x14, U8 x15, U8 x16] ∧
 Calls Tryz.prog 65 #[.agg #[I6 x0, U8 x1, U8 x2, U8 x3, U8 x4, U8 x5, U8 x6, U8 x7, U8 x8, U8 x9, U8 x10, U8 x11, U8 x12, U8 x13, U8 x14, U8 x15, U8 x16]] w1 (onRet (fun r_ w2 => ∃ x, r_ = .bool x ∧ Br (!x) (R (.returned (I6 40)) w2)
 (∃ x01 x17 x21 x31 x41 x51 x61 x71 x81 x91 x101 x111 x121 x131 x141 x151 x161, CA_ w2 g1 [I6 x01, U8 x17, U8 x21, U8 x31, U8 x41, U8 x51, U8 x61, U8 x71, U8 x81, U8 x91, U8 x101, U8 x111, U8 x121, U8 x131, U8 x141, U8 x151, U8 x161] ∧
 Calls Tryz.prog 119 #[.agg #[I6 x01, U8 x17, U8 x21, U8 x31, U8 x41, U8 x51, U8 x61, U8 x71, U8 x81, U8 x91, U8 x101, U8 x111, U8 x121, U8 x131, U8 x141, U8 x151, U8 x161]] w2 (onRet (fun r_1 w3 => ∃ x18, r_1 = I6 x18 ∧ ∃ x19, w3.cell? (ad_ g1 17) = some (I6 x19) ∧ Br (decide (x19 < 0))
 (R (.returned (I6 45)) w3) (∃ x20, w3.cell? (ad_ g1 17) = some (I6 x20) ∧ Br (decide (x18 < x20)) (R (.returned (I6 45)) w3) (∃ x22, w3.cell? (ad_ g1 17) = some (I6 x22) ∧ LoopVC (S := Int) (fun s_ w4 K506 => weirref4_ValidPrefix_L506 R g1 x18 s_ w4 K506) x22 w3))) (pn_ R)))) (pn_ R))
def weirref4_ValidPrefix_H : Hints := [(506, [(5, .int .i64)])]
theorem weirref4_ValidPrefix_of (p_IPV p_IPA0_ p_IPA1_ p_IPA2_ p_IPA3_ p_IPA4_ p_IPA5_ p_IPA6_ p_IPA7_ p_IPA8_ p_IPA9_ p_IPA10_ p_IPA11_ p_IPA12_ p_IPA13_ p_IPA14_ p_IPA15_ p_Len : Int) (w : World) (R : EWP) (h_ : weirref4_ValidPrefix_VC p_IPV p_IPA0_ p_IPA1_ p_IPA2_ p_IPA3_ p_IPA4_ p_IPA5_ p_IPA6_ p_IPA7_ p_IPA8_ p_IPA9_ p_IPA10_ p_IPA11_ p_IPA12_ p_IPA13_ p_IPA14_ p_IPA15_ p_Len w R) :
 Calls Tryz.prog 120 #[.agg #[I6 p_IPV, U8 p_IPA0_, U8 p_IPA1_, U8 p_IPA2_, U8 p_IPA3_, U8 p_IPA4_, U8 p_IPA5_, U8 p_IPA6_, U8 p_IPA7_, U8 p_IPA8_, U8 p_IPA9_, U8 p_IPA10_, U8 p_IPA11_, U8 p_IPA12_, U8 p_IPA13_, U8 p_IPA14_, U8 p_IPA15_, I6 p_Len]] w R :=
 calls_of_wpc callOk mixedOk (H := weirref4_ValidPrefix_H) (c := bodyOf Tryz.f120) Tryz.func120 rfl (nb_ rfl)
 (Eq.mp (by kernel_rfl) h_)
def weirref4_bit_L58 (R : EWP)  (c k : Int) (w2 : World) (K58 : (Int × Int → World → Prop)) : Prop := Br (decide (k < 7)) (K58 (IntKind.i64.wrap (Int.tdiv c 2), IntKind.i64.wrap (k + 1)) w2) (R (.returned (I6 (Int.tmod c 2))) w2)
def weirref4_bit_VC (ip_V ip_0 ip_1 ip_2 ip_3 ip_4 ip_5 ip_6 ip_7 ip_8 ip_9 ip_10 ip_11 ip_12 ip_13 ip_14 ip_15 i : Int) (w : World) (R : EWP) : Prop :=
 NewVC w (.cells #[I6 ip_V, U8 ip_0, U8 ip_1, U8 ip_2, U8 ip_3, U8 ip_4, U8 ip_5, U8 ip_6, U8 ip_7, U8 ip_8, U8 ip_9, U8 ip_10, U8 ip_11, U8 ip_12, U8 ip_13, U8 ip_14, U8 ip_15] 24) fun g1 w1 =>
 IdxVC (some ⟨g1, 1, none⟩) 16 1 (IntKind.i64.wrap (Int.tdiv i 8)) fun a => ∃ x, w1.cell? a = some (U8 x) ∧ LoopVC (S := Int × Int) (fun s_ w2 K58 => weirref4_bit_L58 R s_.1 s_.2 w2 K58) (IntKind.i64.wrap x, Int.tmod i 8) w1
def weirref4_bit_H : Hints := [(58, [(5, .int .i64), (6, .int .i64)])]
theorem weirref4_bit_of (ip_V ip_0 ip_1 ip_2 ip_3 ip_4 ip_5 ip_6 ip_7 ip_8 ip_9 ip_10 ip_11 ip_12 ip_13 ip_14 ip_15 i : Int) (w : World) (R : EWP) (h_ : weirref4_bit_VC ip_V ip_0 ip_1 ip_2 ip_3 ip_4 ip_5 ip_6 ip_7 ip_8 ip_9 ip_10 ip_11 ip_12 ip_13 ip_14 ip_15 i w R) :
 Calls Tryz.prog 121 #[.agg #[I6 ip_V, U8 ip_0, U8 ip_1, U8 ip_2, U8 ip_3, U8 ip_4, U8 ip_5, U8 ip_6, U8 ip_7, U8 ip_8, U8 ip_9, U8 ip_10, U8 ip_11, U8 ip_12, U8 ip_13, U8 ip_14, U8 ip_15], I6 i] w R :=
 calls_of_wpc callOk mixedOk (H := weirref4_bit_H) (c := bodyOf Tryz.f121) Tryz.func121 rfl (nb_ rfl)
 (Eq.mp (by kernel_rfl) h_)
def weirref4_has_L26 (R : EWP) (s : ByteArray) (c i : Int) (w1 : World) (K26 : (Int → World → Prop)) : Prop := Br (decide (i < (s.size : Int))) (StrIdxVC s i fun c1 => Br (decide (c1 = c)) (R (.returned (.bool true)) w1) (K26 (IntKind.i64.wrap (i + 1)) w1)) (R (.returned (.bool false)) w1)
def weirref4_has_VC (s : ByteArray) (c : Int) (w : World) (R : EWP) : Prop := LoopVC (S := Int) (fun s_ w1 K26 => weirref4_has_L26 R s c s_ w1 K26) 0 w
def weirref4_has_H : Hints := [(26, [(5, .int .i64)])]
theorem weirref4_has_of (s : ByteArray) (c : Int) (w : World) (R : EWP) (h_ : weirref4_has_VC s c w R) : Calls Tryz.prog 129 #[.string s, U8 c] w R := calls_of_wpc callOk mixedOk (H := weirref4_has_H) (c := bodyOf Tryz.f129) Tryz.func129 rfl (nb_ rfl)
 (Eq.mp (by kernel_rfl) h_)
def weirref4_sixes_J8133 (R : EWP) (g3 : Nat) (K508 : (Bool → World → Prop)) (x2 t45_ : Bool) (w10 : World) : Prop := Br t45_ (Calls Tryz.prog 136 #[.pointer (sa_ g3)] w10 (onRet (fun r_2 w11 => ∃ x4, r_2 = .bool x4 ∧ K508 x4 w11) (pn_ R))) (K508 x2 w10)
def weirref4_sixes_L508 (R : EWP) (g3 : Nat) (J127 : (Unit → World → Prop)) (done1 : Bool) (w8 : World) (K508 : (Bool → World → Prop)) : Prop := Br (!done1) (NilVC (sa_ g3) fun p2 => ∃ x1, w8.cell? (p2.add 4) = some (I6 x1) ∧ Br (decide (x1 = 0))
 (Calls Tryz.prog 135 #[.pointer (sa_ g3)] w8 (onRet (fun r_1 w9 => ∃ x2, r_1 = .bool x2 ∧ JoinVC (S := Bool) (fun J8133 => Br (!x2) (NilVC (sa_ g3) fun p3 => ∃ x3, w9.cell? (p3.add 4) = some (I6 x3) ∧ J8133 (decide (x3 = 0)) w9) (J8133 false w9))
 (fun s_ w10 => weirref4_sixes_J8133 R g3 K508 x2 s_ w10)) (pn_ R))) (J127 () w8)) (J127 () w8)
def weirref4_sixes_J510 (R : EWP) (s : ByteArray) (g3 : Nat) (J255 : (Unit → World → Prop)) (t67_ : Bool) (w13 : World) : Prop := Br t67_ (Calls Tryz.prog 137 #[.pointer (sa_ g3), I6 42, I6 (s.size : Int)] w13 (onRet (fun r_3 w14 => r_3 = .tuple #[] ∧ J255 () w14) (pn_ R))) (J255 () w13)
def weirref4_sixes_J261961 (g2 g3 : Nat) (i : Int) (K8186 : (Int → World → Prop)) (k : Int) (w34 : World) : Prop := NilVC (sa_ g3) fun p14 => ∃ xA3 xn3 xc3, w34.cell? (p14.add 1) = some (.slice xA3 xn3 xc3) ∧ IdxVC xA3 xn3 1 i fun a => ∃ x20, w34.cell? a = some (I6 x20) ∧
 IdxVC (sa_ g2) 16 1 (IntKind.i64.wrap (2 * k)) fun a1 => SetVC w34 a1 (U8 (IntKind.u8.wrap (IntKind.i64.wrap (Int.tdiv x20 256)))) fun w35 => NilVC (sa_ g3) fun p15 => ∃ xA4 xn4 xc4, w35.cell? (p15.add 1) = some (.slice xA4 xn4 xc4) ∧ IdxVC xA4 xn4 1 i fun a2 =>
 ∃ x22, w35.cell? a2 = some (I6 x22) ∧ IdxVC (sa_ g2) 16 1 (IntKind.i64.wrap (IntKind.i64.wrap (2 * k) + 1)) fun a3 => SetVC w35 a3 (U8 (IntKind.u8.wrap (Int.tmod x22 256))) fun w36 => K8186 (IntKind.i64.wrap (i + 1)) w36
def weirref4_sixes_L8186 (R : EWP) (g1 g2 g3 : Nat) (i : Int) (w33 : World) (K8186 : (Int → World → Prop)) : Prop := NilVC (sa_ g3) fun p10 => ∃ xA1 xn1 xc1, w33.cell? (p10.add 1) = some (.slice xA1 xn1 xc1) ∧ Br (decide (i < (xn1 : Int))) (JoinVC (S := Int) (fun J261961 =>
 NilVC (sa_ g3) fun p11 => ∃ x18, w33.cell? (p11.add 2) = some (I6 x18) ∧ Br (decide ((0 : Int) ≤ x18)) (NilVC (sa_ g3) fun p12 => ∃ x19, w33.cell? (p12.add 2) = some (I6 x19) ∧ Br (decide (x19 ≤ i)) (NilVC (sa_ g3) fun p13 => ∃ xA2 xn2 xc2, w33.cell? (p13.add 1) = some (.slice xA2 xn2 xc2) ∧
 J261961 (IntKind.i64.wrap (IntKind.i64.wrap (8 - (xn2 : Int)) + i)) w33) (J261961 i w33)) (J261961 i w33)) (fun s_ w34 => weirref4_sixes_J261961 g2 g3 i K8186 s_ w34))
 (∃ x01 x110 x23 x32 x42 x52 x62 x72 x81 x91 x101 x112 x121 x131 x141 x151, CA_ w33 g2 [U8 x01, U8 x110, U8 x23, U8 x32, U8 x42, U8 x52, U8 x62, U8 x72, U8 x81, U8 x91, U8 x101, U8 x112, U8 x121, U8 x131, U8 x141, U8 x151] ∧ SetVC w33 ⟨g1, 0, none⟩ (U8 x01) fun w37 =>
 SetVC w37 ⟨g1, 1, none⟩ (U8 x110) fun w38 => SetVC w38 ⟨g1, 2, none⟩ (U8 x23) fun w39 => SetVC w39 ⟨g1, 3, none⟩ (U8 x32) fun w40 => SetVC w40 ⟨g1, 4, none⟩ (U8 x42) fun w41 => SetVC w41 ⟨g1, 5, none⟩ (U8 x52) fun w42 => SetVC w42 ⟨g1, 6, none⟩ (U8 x62) fun w43 =>
 SetVC w43 ⟨g1, 7, none⟩ (U8 x72) fun w44 => SetVC w44 ⟨g1, 8, none⟩ (U8 x81) fun w45 => SetVC w45 ⟨g1, 9, none⟩ (U8 x91) fun w46 => SetVC w46 ⟨g1, 10, none⟩ (U8 x101) fun w47 => SetVC w47 ⟨g1, 11, none⟩ (U8 x112) fun w48 => SetVC w48 ⟨g1, 12, none⟩ (U8 x121) fun w49 =>
 SetVC w49 ⟨g1, 13, none⟩ (U8 x131) fun w50 => SetVC w50 ⟨g1, 14, none⟩ (U8 x141) fun w51 => SetVC w51 ⟨g1, 15, none⟩ (U8 x151) fun w52 =>
 ∃ res01 res16 res21 res31 res41 res51 res61 res71 res81 res91 res101 res111 res121 res131 res141 res151, CA_ w52 g1 [U8 res01, U8 res16, U8 res21, U8 res31, U8 res41, U8 res51, U8 res61, U8 res71, U8 res81, U8 res91, U8 res101, U8 res111, U8 res121, U8 res131, U8 res141, U8 res151] ∧
 R (.returned (.tuple #[.agg #[U8 res01, U8 res16, U8 res21, U8 res31, U8 res41, U8 res51, U8 res61, U8 res71, U8 res81, U8 res91, U8 res101, U8 res111, U8 res121, U8 res131, U8 res141, U8 res151], I6 0, I6 0])) w52)
def weirref4_sixes_J255 (R : EWP) (g1 g2 g3 : Nat)  (w15 : World) : Prop := NilVC (sa_ g3) fun p7 => ∃ x7, w15.cell? (p7.add 4) = some (I6 x7) ∧ Br (decide (x7 ≠ 0)) (DrawVC w15 fun S1 w16 =>
 ∃ x0 x11 x21 x31 x41 x51 x61 x71 x8 x9 x10 x111 x12 x13 x14 x15, (∀ w' : World, S1 w' → CellsAt w' ⟨g2, 0, none⟩ 0 [U8 x0, U8 x11, U8 x21, U8 x31, U8 x41, U8 x51, U8 x61, U8 x71, U8 x8, U8 x9, U8 x10, U8 x111, U8 x12, U8 x13, U8 x14, U8 x15]) ∧ NilVC (sa_ g3) fun p8 =>
 ∃ x16, (∀ w' : World, S1 w' → w'.cell? (p8.add 4) = some (I6 x16)) ∧ NilVC (sa_ g3) fun p9 => ∃ x17, (∀ w' : World, S1 w' → w'.cell? (p9.add 5) = some (I6 x17)) ∧ SetVC w16 ⟨g1, 0, none⟩ (U8 x0) fun w17 => SetVC w17 ⟨g1, 1, none⟩ (U8 x11) fun w18 => SetVC w18 ⟨g1, 2, none⟩ (U8 x21) fun w19 =>
 SetVC w19 ⟨g1, 3, none⟩ (U8 x31) fun w20 => SetVC w20 ⟨g1, 4, none⟩ (U8 x41) fun w21 => SetVC w21 ⟨g1, 5, none⟩ (U8 x51) fun w22 => SetVC w22 ⟨g1, 6, none⟩ (U8 x61) fun w23 => SetVC w23 ⟨g1, 7, none⟩ (U8 x71) fun w24 => SetVC w24 ⟨g1, 8, none⟩ (U8 x8) fun w25 =>
 SetVC w25 ⟨g1, 9, none⟩ (U8 x9) fun w26 => SetVC w26 ⟨g1, 10, none⟩ (U8 x10) fun w27 => SetVC w27 ⟨g1, 11, none⟩ (U8 x111) fun w28 => SetVC w28 ⟨g1, 12, none⟩ (U8 x12) fun w29 => SetVC w29 ⟨g1, 13, none⟩ (U8 x13) fun w30 => SetVC w30 ⟨g1, 14, none⟩ (U8 x14) fun w31 =>
 SetVC w31 ⟨g1, 15, none⟩ (U8 x15) fun w32 => S1 w32 ∧
 ∃ res0 res1 res2 res3 res4 res5 res6 res7 res8 res9 res10 res11 res12 res13 res14 res15, CA_ w32 g1 [U8 res0, U8 res1, U8 res2, U8 res3, U8 res4, U8 res5, U8 res6, U8 res7, U8 res8, U8 res9, U8 res10, U8 res11, U8 res12, U8 res13, U8 res14, U8 res15] ∧
 R (.returned (.tuple #[.agg #[U8 res0, U8 res1, U8 res2, U8 res3, U8 res4, U8 res5, U8 res6, U8 res7, U8 res8, U8 res9, U8 res10, U8 res11, U8 res12, U8 res13, U8 res14, U8 res15], I6 x16, I6 x17])) w32) (LoopVC (S := Int) (fun s_ w33 K8186 => weirref4_sixes_L8186 R g1 g2 g3 s_ w33 K8186) 0 w15)
def weirref4_sixes_J127 (R : EWP) (s : ByteArray) (g1 g2 g3 : Nat)  (w12 : World) : Prop := JoinVC (S := Unit) (fun J255 => JoinVC (S := Bool) (fun J510 => NilVC (sa_ g3) fun p4 => ∃ x5, w12.cell? (p4.add 4) = some (I6 x5) ∧ Br (decide (x5 = 0)) (NilVC (sa_ g3) fun p5 =>
 ∃ x6, w12.cell? (p5.add 2) = some (I6 x6) ∧ Br (decide (x6 < 0)) (NilVC (sa_ g3) fun p6 => ∃ xA xn xc, w12.cell? (p6.add 1) = some (.slice xA xn xc) ∧ J510 (decide ((xn : Int) < 8)) w12) (J510 false w12)) (J510 false w12)) (fun s_ w13 => weirref4_sixes_J510 R s g3 J255 s_ w13))
 (fun _ w15 => weirref4_sixes_J255 R g1 g2 g3 w15)
def weirref4_sixes_J63 (R : EWP) (s : ByteArray) (g1 g2 g3 : Nat) (done : Bool) (w7 : World) : Prop := JoinVC (S := Unit) (fun J127 => LoopVC (S := Bool) (fun s_ w8 K508 => weirref4_sixes_L508 R g3 J127 s_ w8 K508) done w7) (fun _ w12 => weirref4_sixes_J127 R s g1 g2 g3 w12)
def weirref4_sixes_VC (s : ByteArray) (w : World) (R : EWP) : Prop := NewVC w (.cells #[U8 0, U8 0, U8 0, U8 0, U8 0, U8 0, U8 0, U8 0, U8 0, U8 0, U8 0, U8 0, U8 0, U8 0, U8 0, U8 0] 22) fun g1 w1 =>
 NewVC w1 (.cells #[U8 0, U8 0, U8 0, U8 0, U8 0, U8 0, U8 0, U8 0, U8 0, U8 0, U8 0, U8 0, U8 0, U8 0, U8 0, U8 0] 22) fun g2 w2 => NewVC w2 (.cells #[.string s, .slice none 0 0, I6 (-1), I6 0, I6 0, I6 0] 177) fun g3 w3 =>
 Calls Tryz.prog 134 #[.string s, I6 0] w3 (onRet (fun r_ w4 => ∃ x, r_ = .bool x ∧ JoinVC (S := Bool) (fun J63 => Br x (NilVC (sa_ g3) fun p => SetVC w4 (p.add 2) (I6 0) fun w5 => NilVC (sa_ g3) fun p1 => SetVC w5 (p1.add 3) (I6 2) fun w6 => J63 (decide ((s.size : Int) = 2)) w6) (J63 false w4))
 (fun s_ w7 => weirref4_sixes_J63 R s g1 g2 g3 s_ w7)) (pn_ R))
def weirref4_sixes_H : Hints := [(63, [(7, .bool)]), (508, [(7, .bool)]), (8133, [(45, .bool)]), (127, []), (510, [(67, .bool)]), (255, []), (8186, [(9, .int .i64)]), (261961, [(10, .int .i64)])]
theorem weirref4_sixes_of (s : ByteArray) (w : World) (R : EWP) (h_ : weirref4_sixes_VC s w R) : Calls Tryz.prog 130 #[.string s] w R := calls_of_wpc callOk mixedOk (H := weirref4_sixes_H) (c := bodyOf Tryz.f130) Tryz.func130 rfl (nb_ rfl)
 (Eq.mp (by kernel_rfl) h_)
def weirref4_dotted_L1812 (R : EWP) (s : ByteArray) (J453 : (Int → World → Prop)) (q1 : Int) (w2 : World) (K1812 : (Int → World → Prop)) : Prop := Br (decide (q1 < (s.size : Int))) (StrIdxVC s q1 fun c => Calls Tryz.prog 116 #[U8 c] w2 (onRet (fun r_ w3 => ∃ x, r_ = .bool x ∧ Br x
 (K1812 (IntKind.i64.wrap (q1 + 1)) w3) (J453 q1 w3)) (pn_ R))) (J453 q1 w2)
def weirref4_dotted_J232444 (R : EWP) (s : ByteArray) (K28 : (Int × (Option Addr × Nat × Nat) → World → Prop)) (q : Int) (lA1 : Option Addr) (ln1 lc1 : Nat) (t66_ : Bool) (w9 : World) : Prop := Br t66_
 (Calls Tryz.prog 117 #[.string s, I6 q] w9 (onRet (fun r_3 w10 => ∃ x01 x11, r_3 = .tuple #[I6 x01, I6 x11] ∧ R (.returned (.tuple #[.slice none 0 0, I6 x01, I6 x11])) w10) (pn_ R))) (K28 (IntKind.i64.wrap (q + 1), (lA1, ln1, lc1)) w9)
def weirref4_dotted_J453 (R : EWP) (s : ByteArray) (p1 : Int) (lA : Option Addr) (ln lc : Nat) (K28 : (Int × (Option Addr × Nat × Nat) → World → Prop)) (q : Int) (w4 : World) : Prop := Br (decide (q = p1))
 (Calls Tryz.prog 117 #[.string s, I6 p1] w4 (onRet (fun r_1 w5 => ∃ x0 x1, r_1 = .tuple #[I6 x0, I6 x1] ∧ R (.returned (.tuple #[.slice none 0 0, I6 x0, I6 x1])) w5) (pn_ R))) (Calls Tryz.prog 118 #[.string s, I6 p1, I6 q, I6 255] w4 (onRet (fun r_2 w6 => ∃ x2, r_2 = I6 x2 ∧ Br (decide (x2 < 0))
 (R (.returned (.tuple #[.slice none 0 0, I6 43, I6 p1])) w6) (NewVC w6 (.cells #[U8 (IntKind.u8.wrap x2)] 5) fun g1 w7 => AppVC Tryz.prog #[25, 25] 25 (.slice lA ln lc) (.slice (sa_ g1) 1 1) w7 fun lA1 ln1 lc1 w8 => Br (decide ((ln1 : Int) < 4)) (JoinVC (S := Bool) (fun J232444 =>
 Br (decide ((s.size : Int) ≤ q)) (J232444 true w8) (StrIdxVC s q fun c1 => J232444 (decide (c1 ≠ 46)) w8)) (fun s_ w9 => weirref4_dotted_J232444 R s K28 q lA1 ln1 lc1 s_ w9)) (K28 (q, (lA1, ln1, lc1)) w8))) (pn_ R)))
def weirref4_dotted_L28 (R : EWP) (s : ByteArray) (p1 : Int) (lA : Option Addr) (ln lc : Nat) (w1 : World) (K28 : (Int × (Option Addr × Nat × Nat) → World → Prop)) : Prop := Br (decide ((ln : Int) < 4)) (JoinVC (S := Int) (fun J453 =>
 LoopVC (S := Int) (fun s_ w2 K1812 => weirref4_dotted_L1812 R s J453 s_ w2 K1812) p1 w1) (fun s_ w4 => weirref4_dotted_J453 R s p1 lA ln lc K28 s_ w4)) (Br (decide (p1 < (s.size : Int))) (R (.returned (.tuple #[.slice none 0 0, I6 41, I6 p1])) w1)
 (R (.returned (.tuple #[.slice lA ln lc, I6 0, I6 0])) w1))
def weirref4_dotted_VC (s : ByteArray) (p : Int) (w : World) (R : EWP) : Prop := LoopVC (S := Int × (Option Addr × Nat × Nat)) (fun s_ w1 K28 => weirref4_dotted_L28 R s s_.1 s_.2.1 s_.2.2.1 s_.2.2.2 w1 K28) (p, (none, 0, 0)) w
def weirref4_dotted_H : Hints := [(28, [(1, .int .i64), (7, .slice)]), (1812, [(8, .int .i64)]), (453, [(8, .int .i64)]), (232444, [(66, .bool)])]
theorem weirref4_dotted_of (s : ByteArray) (p : Int) (w : World) (R : EWP) (h_ : weirref4_dotted_VC s p w R) : Calls Tryz.prog 131 #[.string s, I6 p] w R :=
 calls_of_wpc callOk mixedOk (H := weirref4_dotted_H) (c := bodyOf Tryz.f131) Tryz.func131 rfl (nb_ rfl) (Eq.mp (by kernel_rfl) h_)
def weirref4_two_VC (s : ByteArray) (p : Int) (w : World) (R : EWP) : Prop := Br (decide (IntKind.i64.wrap (p + 1) < (s.size : Int))) (StrIdxVC s p fun c => Br (decide (c = 58)) (StrIdxVC s (IntKind.i64.wrap (p + 1)) fun c1 => R (.returned (.bool (decide (c1 = 58)))) w)
 (R (.returned (.bool false)) w)) (R (.returned (.bool false)) w)
def weirref4_two_H : Hints := []
theorem weirref4_two_of (s : ByteArray) (p : Int) (w : World) (R : EWP) (h_ : weirref4_two_VC s p w R) : Calls Tryz.prog 134 #[.string s, I6 p] w R := calls_of_wpc callOk mixedOk (H := weirref4_two_H) (c := bodyOf Tryz.f134) Tryz.func134 rfl (nb_ rfl)
 (Eq.mp (by kernel_rfl) h_)
def weirref4_six_group_L60 (R : EWP) (r : Option Addr) (J15 : (Int × Int → World → Prop)) (q1 n1 : Int) (w1 : World) (K60 : (Int × Int → World → Prop)) : Prop := NilVC r fun p1 => ∃ x1 : ByteArray, w1.cell? p1 = some (.string x1) ∧ Br (decide (q1 < (x1.size : Int))) (NilVC r fun p2 =>
 ∃ x2 : ByteArray, w1.cell? p2 = some (.string x2) ∧ StrIdxVC x2 q1 fun c => Calls Tryz.prog 141 #[U8 c] w1 (onRet (fun r_ w2 => ∃ x3, r_ = I6 x3 ∧ Br (decide ((0 : Int) ≤ x3)) (NilVC r fun p3 => ∃ x4, w2.cell? (p3.add 3) = some (I6 x4) ∧ Br (decide (IntKind.i64.wrap (q1 - x4) < 4))
 (NilVC r fun p4 => ∃ x5 : ByteArray, w2.cell? p4 = some (.string x5) ∧ StrIdxVC x5 q1 fun c1 => Calls Tryz.prog 141 #[U8 c1] w2 (onRet (fun r_1 w3 => ∃ x6, r_1 = I6 x6 ∧ K60 (IntKind.i64.wrap (q1 + 1), IntKind.i64.wrap (IntKind.i64.wrap (16 * n1) + x6)) w3) (pn_ R)))
 (K60 (IntKind.i64.wrap (q1 + 1), n1) w2)) (J15 (q1, n1) w2)) (pn_ R))) (J15 (q1, n1) w1)
def weirref4_six_group_J255 (R : EWP) (r : Option Addr) (q n : Int) (tail : Bool) (more : Int) (w9 : World) : Prop := DrawVC w9 fun S2 w10 => NilVC r fun p11 => ∃ xA xn xc, (∀ w' : World, S2 w' → w'.cell? (p11.add 1) = some (.slice xA xn xc)) ∧
 Calls Tryz.prog 142 #[.pointer r] w10 (onRet (fun r_4 w11 => ∃ x14, r_4 = I6 x14 ∧ S2 w11 ∧ Br (decide (x14 < IntKind.i64.wrap ((xn : Int) + more))) (NilVC r fun p12 => ∃ x15, w11.cell? (p12.add 3) = some (I6 x15) ∧
 Calls Tryz.prog 137 #[.pointer r, I6 44, I6 x15] w11 (onRet (fun r_5 w12 => r_5 = .tuple #[] ∧ R (.returned (.bool true)) w12) (pn_ R))) (Br tail (DrawVC w11 fun S3 w13 => NilVC r fun p13 => ∃ x16 : ByteArray, (∀ w' : World, S3 w' → w'.cell? p13 = some (.string x16)) ∧ NilVC r fun p14 =>
 ∃ x17, (∀ w' : World, S3 w' → w'.cell? (p14.add 3) = some (I6 x17)) ∧ Calls Tryz.prog 131 #[.string x16, I6 x17] w13 (onRet (fun r_6 w14 => ∃ x0A x0n x0c x18 x21, r_6 = .tuple #[.slice x0A x0n x0c, I6 x18, I6 x21] ∧ S3 w14 ∧ Br (decide (x18 ≠ 0))
 (Calls Tryz.prog 137 #[.pointer r, I6 x18, I6 x21] w14 (onRet (fun r_7 w15 => r_7 = .tuple #[] ∧ R (.returned (.bool true)) w15) (pn_ R))) (DrawVC w14 fun S4 w16 => NilVC r fun p15 => ∃ xA1 xn1 xc1, (∀ w' : World, S4 w' → w'.cell? (p15.add 1) = some (.slice xA1 xn1 xc1)) ∧
 IdxVC x0A x0n 1 0 fun a => ∃ x19, (∀ w' : World, S4 w' → w'.cell? a = some (U8 x19)) ∧ IdxVC x0A x0n 1 1 fun a1 => ∃ x20, (∀ w' : World, S4 w' → w'.cell? a1 = some (U8 x20)) ∧ IdxVC x0A x0n 1 2 fun a2 => ∃ x22, (∀ w' : World, S4 w' → w'.cell? a2 = some (U8 x22)) ∧ IdxVC x0A x0n 1 3 fun a3 =>
 ∃ x23, (∀ w' : World, S4 w' → w'.cell? a3 = some (U8 x23)) ∧ NewVC w16 (.cells #[I6 (IntKind.i64.wrap (IntKind.i64.wrap (256 * IntKind.i64.wrap x19) + IntKind.i64.wrap x20)), I6 (IntKind.i64.wrap (IntKind.i64.wrap (256 * IntKind.i64.wrap x22) + IntKind.i64.wrap x23))] 3) fun g1 w17 => S4 w17 ∧
 AppVC Tryz.prog #[83, 83] 83 (.slice xA1 xn1 xc1) (.slice (sa_ g1) 2 2) w17 fun lA ln lc w18 => S4 w18 ∧ NilVC r fun p16 => SetVC w18 (p16.add 1) (.slice lA ln lc) fun w19 => NilVC r fun p17 => ∃ x24 : ByteArray, w19.cell? p17 = some (.string x24) ∧ NilVC r fun p18 =>
 SetVC w19 (p18.add 3) (I6 (x24.size : Int)) fun w20 => R (.returned (.bool true)) w20)) (fun _ _ => False))) (NilVC r fun p19 => ∃ x25, w11.cell? (p19.add 3) = some (I6 x25) ∧ Br (decide ((4 : Int) < IntKind.i64.wrap (q - x25))) (NilVC r fun p20 => ∃ x26, w11.cell? (p20.add 3) = some (I6 x26) ∧
 Calls Tryz.prog 137 #[.pointer r, I6 43, I6 x26] w11 (onRet (fun r_8 w21 => r_8 = .tuple #[] ∧ R (.returned (.bool true)) w21) (pn_ R))) (NilVC r fun p21 => ∃ xA2 xn2 xc2, w11.cell? (p21.add 1) = some (.slice xA2 xn2 xc2) ∧ NewVC w11 (.cells #[I6 n] 3) fun g2 w22 =>
 AppVC Tryz.prog #[83, 83] 83 (.slice xA2 xn2 xc2) (.slice (sa_ g2) 1 1) w22 fun lA1 ln1 lc1 w23 => NilVC r fun p22 => SetVC w23 (p22.add 1) (.slice lA1 ln1 lc1) fun w24 => NilVC r fun p23 => SetVC w24 (p23.add 3) (I6 q) fun w25 => NilVC r fun p24 =>
 ∃ x27 : ByteArray, w25.cell? p24 = some (.string x27) ∧ R (.returned (.bool (decide (q = (x27.size : Int))))) w25)))) (fun _ _ => False))
def weirref4_six_group_J63 (R : EWP) (r : Option Addr) (q n : Int) (tail : Bool) (w8 : World) : Prop := JoinVC (S := Int) (fun J255 => Br tail (J255 2 w8) (J255 1 w8)) (fun s_ w9 => weirref4_six_group_J255 R r q n tail s_ w9)
def weirref4_six_group_J15 (R : EWP) (r : Option Addr) (q n : Int) (w4 : World) : Prop := NilVC r fun p5 => ∃ x7, w4.cell? (p5.add 3) = some (I6 x7) ∧ Br (decide (q = x7)) (DrawVC w4 fun S1 w5 => NilVC r fun p6 => ∃ x8 : ByteArray, (∀ w' : World, S1 w' → w'.cell? p6 = some (.string x8)) ∧
 NilVC r fun p7 => ∃ x9, (∀ w' : World, S1 w' → w'.cell? (p7.add 3) = some (I6 x9)) ∧ Calls Tryz.prog 117 #[.string x8, I6 x9] w5 (onRet (fun r_2 w6 => ∃ x0 x11, r_2 = .tuple #[I6 x0, I6 x11] ∧ S1 w6 ∧ Calls Tryz.prog 137 #[.pointer r, I6 x0, I6 x11] w6 (onRet (fun r_3 w7 => r_3 = .tuple #[] ∧
 R (.returned (.bool true)) w7) (pn_ R))) (fun _ _ => False))) (JoinVC (S := Bool) (fun J63 => NilVC r fun p8 => ∃ x10 : ByteArray, w4.cell? p8 = some (.string x10) ∧ Br (decide (q < (x10.size : Int))) (NilVC r fun p9 => ∃ x12 : ByteArray, w4.cell? p9 = some (.string x12) ∧ StrIdxVC x12 q fun c2 =>
 Br (decide (c2 = 46)) (NilVC r fun p10 => ∃ x13, w4.cell? (p10.add 3) = some (I6 x13) ∧ J63 (decide ((0 : Int) < x13)) w4) (J63 false w4)) (J63 false w4)) (fun s_ w8 => weirref4_six_group_J63 R r q n s_ w8))
def weirref4_six_group_VC (r : Option Addr) (w : World) (R : EWP) : Prop := NilVC r fun p => ∃ x, w.cell? (p.add 3) = some (I6 x) ∧ JoinVC (S := Int × Int) (fun J15 => LoopVC (S := Int × Int) (fun s_ w1 K60 => weirref4_six_group_L60 R r J15 s_.1 s_.2 w1 K60) (x, 0) w)
 (fun s_ w4 => weirref4_six_group_J15 R r s_.1 s_.2 w4)
def weirref4_six_group_H : Hints := [(60, [(3, .int .i64), (4, .int .i64)]), (15, [(3, .int .i64), (4, .int .i64)]), (63, [(7, .bool)]), (255, [(8, .int .i64)])]
theorem weirref4_six_group_of (r : Option Addr) (w : World) (R : EWP) (h_ : weirref4_six_group_VC r w R) : Calls Tryz.prog 135 #[.pointer r] w R := calls_of_wpc callOk mixedOk (H := weirref4_six_group_H) (c := bodyOf Tryz.f135) Tryz.func135 rfl (nb_ rfl)
 (Eq.mp (by kernel_rfl) h_)
def weirref4_six_between_J28 (R : EWP) (r : Option Addr) (x2 t19_ : Bool) (w3 : World) : Prop := Br t19_ (NilVC r fun p4 => ∃ x4, w3.cell? (p4.add 3) = some (I6 x4) ∧ Calls Tryz.prog 137 #[.pointer r, I6 44, I6 x4] w3 (onRet (fun r_1 w4 => r_1 = .tuple #[] ∧ R (.returned (.bool false)) w4)
 (pn_ R))) (Br x2 (NilVC r fun p5 => ∃ xA1 xn1 xc1, w3.cell? (p5.add 1) = some (.slice xA1 xn1 xc1) ∧ NilVC r fun p6 => SetVC w3 (p6.add 2) (I6 (xn1 : Int)) fun w5 => NilVC r fun p7 => ∃ x5, w5.cell? (p7.add 3) = some (I6 x5) ∧ NilVC r fun p8 =>
 SetVC w5 (p8.add 3) (I6 (IntKind.i64.wrap (x5 + 2))) fun w6 => DrawVC w6 fun S2 w7 => NilVC r fun p9 => ∃ x6, (∀ w' : World, S2 w' → w'.cell? (p9.add 3) = some (I6 x6)) ∧ NilVC r fun p10 => ∃ x7 : ByteArray, (∀ w' : World, S2 w' → w'.cell? p10 = some (.string x7)) ∧
 R (.returned (.bool (decide (x6 = (x7.size : Int))))) w7) (DrawVC w3 fun S3 w8 => NilVC r fun p11 => ∃ x8 : ByteArray, (∀ w' : World, S3 w' → w'.cell? p11 = some (.string x8)) ∧ NilVC r fun p12 => ∃ x9, (∀ w' : World, S3 w' → w'.cell? (p12.add 3) = some (I6 x9)) ∧ StrIdxVC x8 x9 fun c =>
 Br (decide (c = 58)) (NilVC r fun p13 => ∃ x10, w8.cell? (p13.add 3) = some (I6 x10) ∧ NilVC r fun p14 => SetVC w8 (p14.add 3) (I6 (IntKind.i64.wrap (x10 + 1))) fun w9 => R (.returned (.bool false)) w9) (NilVC r fun p15 => ∃ x11, w8.cell? (p15.add 3) = some (I6 x11) ∧
 Calls Tryz.prog 137 #[.pointer r, I6 41, I6 x11] w8 (onRet (fun r_2 w10 => r_2 = .tuple #[] ∧ R (.returned (.bool false)) w10) (pn_ R)))))
def weirref4_six_between_VC (r : Option Addr) (w : World) (R : EWP) : Prop := DrawVC w fun S1 w1 => NilVC r fun p => ∃ x : ByteArray, (∀ w' : World, S1 w' → w'.cell? p = some (.string x)) ∧ NilVC r fun p1 => ∃ x1, (∀ w' : World, S1 w' → w'.cell? (p1.add 3) = some (I6 x1)) ∧
 Calls Tryz.prog 134 #[.string x, I6 x1] w1 (onRet (fun r_ w2 => ∃ x2, r_ = .bool x2 ∧ S1 w2 ∧ JoinVC (S := Bool) (fun J28 => Br x2 (NilVC r fun p2 => ∃ x3, w2.cell? (p2.add 2) = some (I6 x3) ∧ Br (decide ((0 : Int) ≤ x3)) (J28 true w2) (NilVC r fun p3 =>
 ∃ xA xn xc, w2.cell? (p3.add 1) = some (.slice xA xn xc) ∧ J28 (decide ((xn : Int) = 8)) w2)) (J28 false w2)) (fun s_ w3 => weirref4_six_between_J28 R r x2 s_ w3)) (fun _ _ => False))
def weirref4_six_between_H : Hints := [(28, [(19, .bool)])]
theorem weirref4_six_between_of (r : Option Addr) (w : World) (R : EWP) (h_ : weirref4_six_between_VC r w R) : Calls Tryz.prog 136 #[.pointer r] w R :=
 calls_of_wpc callOk mixedOk (H := weirref4_six_between_H) (c := bodyOf Tryz.f136) Tryz.func136 rfl (nb_ rfl) (Eq.mp (by kernel_rfl) h_)
def weirref4_worth_J7 (R : EWP) (c : Int)  (w2 : World) : Prop := Br (decide ((65 : Int) ≤ c)) (Br (decide (c ≤ 70)) (R (.returned (I6 (IntKind.i64.wrap (IntKind.i64.wrap (IntKind.u8.wrap (c - 65)) + 10)))) w2) (R (.returned (I6 (-1))) w2)) (R (.returned (I6 (-1))) w2)
def weirref4_worth_VC (c : Int) (w : World) (R : EWP) : Prop := Calls Tryz.prog 116 #[U8 c] w (onRet (fun r_ w1 => ∃ x, r_ = .bool x ∧ Br x (R (.returned (I6 (IntKind.i64.wrap (IntKind.u8.wrap (c - 48))))) w1) (JoinVC (S := Unit) (fun J7 => Br (decide ((97 : Int) ≤ c)) (Br (decide (c ≤ 102))
 (R (.returned (I6 (IntKind.i64.wrap (IntKind.i64.wrap (IntKind.u8.wrap (c - 97)) + 10)))) w1) (J7 () w1)) (J7 () w1)) (fun _ w2 => weirref4_worth_J7 R c w2))) (pn_ R))
def weirref4_worth_H : Hints := [(7, [])]
theorem weirref4_worth_of (c : Int) (w : World) (R : EWP) (h_ : weirref4_worth_VC c w R) : Calls Tryz.prog 141 #[U8 c] w R := calls_of_wpc callOk mixedOk (H := weirref4_worth_H) (c := bodyOf Tryz.f141) Tryz.func141 rfl (nb_ rfl) (Eq.mp (by kernel_rfl) h_)
def weirref4_six_room_VC (r : Option Addr) (w : World) (R : EWP) : Prop := NilVC r fun p => ∃ x, w.cell? (p.add 2) = some (I6 x) ∧ Br (decide ((0 : Int) ≤ x)) (R (.returned (I6 7)) w) (R (.returned (I6 8)) w)
def weirref4_six_room_H : Hints := []
theorem weirref4_six_room_of (r : Option Addr) (w : World) (R : EWP) (h_ : weirref4_six_room_VC r w R) : Calls Tryz.prog 142 #[.pointer r] w R := calls_of_wpc callOk mixedOk (H := weirref4_six_room_H) (c := bodyOf Tryz.f142) Tryz.func142 rfl (nb_ rfl)
 (Eq.mp (by kernel_rfl) h_)
end Nd
end Go.Proofs.YtjngdcilnipjcaaGreatDoor
/- Layer 4's Class (the program's): Valid, the masks, the table of nets. -/
namespace Go.Eng
open Go Go.RowKit
def setsVC (g : Nat) : Nat → List Value → World → (World → Prop) → Prop
 | _, [], w, K => K w
 | i, v :: vs, w, K => SetVC w ⟨g, i, none⟩ v fun w1 => setsVC g (i + 1) vs w1 K
theorem setAll {g : Nat} {t : TypeId} : ∀ (vs : List Value) (i : Nat) (w : World) (cs : List Value) (K : World → Prop), Blk w g t cs → i + vs.length = cs.length →
  (∀ w', w'.heap.size = w.heap.size → Mod (fun k => k = g) w w' → Blk w' g t (cs.take i ++ vs) → K w') → setsVC g i vs w K
 | [], i, w, cs, K, hb, hl, h => h w rfl (Mod.refl _ _) (by simp at hl; rw [List.append_nil, List.take_of_length_le (by omega)]; exact hb)
 | v :: vs, i, w, cs, K, hb, hl, h => by
  unfold setsVC
  have hl' : i + (vs.length + 1) = cs.length := by simpa using hl
  refine SetVC.blk hb (by omega) fun w1 z1 m1 h1 => ?_
  refine setAll vs (i + 1) w1 _ K h1 (by simp; omega) fun w2 z2 m2 h2 => h w2 (by omega) (m1.trans m2) ?_
  have e : (cs.set i v).take (i + 1) ++ vs = cs.take i ++ v :: vs := by
   rw [List.take_succ_eq_append_getElem (by simp; omega)]
   simp [List.take_set_of_le]
  rw [← e]; exact h2
def IPV.arr (p : IPV) : Value := .agg #[.int .u8 p.a0, .int .u8 p.a1, .int .u8 p.a2, .int .u8 p.a3, .int .u8 p.a4, .int .u8 p.a5, .int .u8 p.a6, .int .u8 p.a7, .int .u8 p.a8, .int .u8 p.a9, .int .u8 p.a10, .int .u8 p.a11, .int .u8 p.a12, .int .u8 p.a13, .int .u8 p.a14, .int .u8 p.a15]
def IPV.row (p : IPV) : List Value := [.int .u8 p.a0, .int .u8 p.a1, .int .u8 p.a2, .int .u8 p.a3, .int .u8 p.a4, .int .u8 p.a5, .int .u8 p.a6, .int .u8 p.a7, .int .u8 p.a8, .int .u8 p.a9, .int .u8 p.a10, .int .u8 p.a11, .int .u8 p.a12, .int .u8 p.a13, .int .u8 p.a14, .int .u8 p.a15]
def maskB (a n i : Int) : Int := bitv .and .u8 a (IntKind.u8.wrap (Int.fdiv 65280 (2 ^ (min ((IntKind.u64.wrap (if (if 0 < IntKind.i64.wrap (n - IntKind.i64.wrap (8 * i)) then IntKind.i64.wrap (n - IntKind.i64.wrap (8 * i)) else 0) < 8 then (if 0 < IntKind.i64.wrap (n - IntKind.i64.wrap (8 * i)) then IntKind.i64.wrap (n - IntKind.i64.wrap (8 * i)) else 0) else 8)).toNat) 64))))
def maskS (p : IPV) (n : Int) : IPV := ⟨p.v, maskB p.a0 n 0, maskB p.a1 n 1, maskB p.a2 n 2, maskB p.a3 n 3, maskB p.a4 n 4, maskB p.a5 n 5, maskB p.a6 n 6, maskB p.a7 n 7, maskB p.a8 n 8, maskB p.a9 n 9, maskB p.a10 n 10, maskB p.a11 n 11, maskB p.a12 n 12, maskB p.a13 n 13, maskB p.a14 n 14, maskB p.a15 n 15⟩
def sameA (p q : IPV) : Bool := ((decide (p.a0 = q.a0)) && ((decide (p.a1 = q.a1)) && ((decide (p.a2 = q.a2)) && ((decide (p.a3 = q.a3)) && ((decide (p.a4 = q.a4)) && ((decide (p.a5 = q.a5)) && ((decide (p.a6 = q.a6)) && ((decide (p.a7 = q.a7)) && ((decide (p.a8 = q.a8)) && ((decide (p.a9 = q.a9)) && ((decide (p.a10 = q.a10)) && ((decide (p.a11 = q.a11)) && ((decide (p.a12 = q.a12)) && ((decide (p.a13 = q.a13)) && ((decide (p.a14 = q.a14)) && ((decide (p.a15 = q.a15)) && true))))))))))))))))
structure NetV where
 p : IPV
 b : Int
 c : Int
def NetV.cells (n : NetV) : List Value := [.int .i64 n.p.v, .int .u8 n.p.a0, .int .u8 n.p.a1, .int .u8 n.p.a2, .int .u8 n.p.a3, .int .u8 n.p.a4, .int .u8 n.p.a5, .int .u8 n.p.a6, .int .u8 n.p.a7, .int .u8 n.p.a8, .int .u8 n.p.a9, .int .u8 n.p.a10, .int .u8 n.p.a11, .int .u8 n.p.a12, .int .u8 n.p.a13, .int .u8 n.p.a14, .int .u8 n.p.a15, .int .i64 n.b, .int .i64 n.c]
def netsV : List NetV := [⟨⟨4, 0, 0, 0, 0, 0, 0, 0, 0, 0, 0, 0, 0, 0, 0, 0, 0⟩, 32, 1⟩,
 ⟨⟨6, 0, 0, 0, 0, 0, 0, 0, 0, 0, 0, 0, 0, 0, 0, 0, 0⟩, 128, 1⟩,
 ⟨⟨4, 127, 0, 0, 0, 0, 0, 0, 0, 0, 0, 0, 0, 0, 0, 0, 0⟩, 8, 2⟩,
 ⟨⟨6, 0, 0, 0, 0, 0, 0, 0, 0, 0, 0, 0, 0, 0, 0, 0, 1⟩, 128, 2⟩,
 ⟨⟨4, 224, 0, 0, 0, 0, 0, 0, 0, 0, 0, 0, 0, 0, 0, 0, 0⟩, 4, 3⟩,
 ⟨⟨6, 255, 0, 0, 0, 0, 0, 0, 0, 0, 0, 0, 0, 0, 0, 0, 0⟩, 8, 3⟩,
 ⟨⟨4, 169, 254, 0, 0, 0, 0, 0, 0, 0, 0, 0, 0, 0, 0, 0, 0⟩, 16, 4⟩,
 ⟨⟨6, 254, 128, 0, 0, 0, 0, 0, 0, 0, 0, 0, 0, 0, 0, 0, 0⟩, 10, 4⟩,
 ⟨⟨4, 255, 255, 255, 255, 0, 0, 0, 0, 0, 0, 0, 0, 0, 0, 0, 0⟩, 32, 5⟩,
 ⟨⟨4, 0, 0, 0, 0, 0, 0, 0, 0, 0, 0, 0, 0, 0, 0, 0, 0⟩, 8, 6⟩,
 ⟨⟨4, 240, 0, 0, 0, 0, 0, 0, 0, 0, 0, 0, 0, 0, 0, 0, 0⟩, 4, 6⟩,
 ⟨⟨6, 0, 0, 0, 0, 0, 0, 0, 0, 0, 0, 0, 0, 0, 0, 0, 0⟩, 8, 6⟩]
def netsL : List Value := [.int .i64 4, .int .u8 0, .int .u8 0, .int .u8 0, .int .u8 0, .int .u8 0, .int .u8 0, .int .u8 0, .int .u8 0, .int .u8 0, .int .u8 0, .int .u8 0, .int .u8 0, .int .u8 0, .int .u8 0, .int .u8 0, .int .u8 0, .int .i64 32, .int .i64 1, .int .i64 6, .int .u8 0, .int .u8 0, .int .u8 0, .int .u8 0, .int .u8 0, .int .u8 0, .int .u8 0, .int .u8 0, .int .u8 0, .int .u8 0, .int .u8 0, .int .u8 0, .int .u8 0, .int .u8 0, .int .u8 0, .int .u8 0, .int .i64 128, .int .i64 1, .int .i64 4, .int .u8 127, .int .u8 0, .int .u8 0, .int .u8 0, .int .u8 0, .int .u8 0, .int .u8 0, .int .u8 0, .int .u8 0, .int .u8 0, .int .u8 0, .int .u8 0, .int .u8 0, .int .u8 0, .int .u8 0, .int .u8 0, .int .i64 8, .int .i64 2, .int .i64 6, .int .u8 0, .int .u8 0, .int .u8 0, .int .u8 0, .int .u8 0, .int .u8 0, .int .u8 0, .int .u8 0, .int .u8 0, .int .u8 0, .int .u8 0, .int .u8 0, .int .u8 0, .int .u8 0, .int .u8 0, .int .u8 1, .int .i64 128, .int .i64 2, .int .i64 4, .int .u8 224, .int .u8 0, .int .u8 0, .int .u8 0, .int .u8 0, .int .u8 0, .int .u8 0, .int .u8 0, .int .u8 0, .int .u8 0, .int .u8 0, .int .u8 0, .int .u8 0, .int .u8 0, .int .u8 0, .int .u8 0, .int .i64 4, .int .i64 3, .int .i64 6, .int .u8 255, .int .u8 0, .int .u8 0, .int .u8 0, .int .u8 0, .int .u8 0, .int .u8 0, .int .u8 0, .int .u8 0, .int .u8 0, .int .u8 0, .int .u8 0, .int .u8 0, .int .u8 0, .int .u8 0, .int .u8 0, .int .i64 8, .int .i64 3, .int .i64 4, .int .u8 169, .int .u8 254, .int .u8 0, .int .u8 0, .int .u8 0, .int .u8 0, .int .u8 0, .int .u8 0, .int .u8 0, .int .u8 0, .int .u8 0, .int .u8 0, .int .u8 0, .int .u8 0, .int .u8 0, .int .u8 0, .int .i64 16, .int .i64 4, .int .i64 6, .int .u8 254, .int .u8 128, .int .u8 0, .int .u8 0, .int .u8 0, .int .u8 0, .int .u8 0, .int .u8 0, .int .u8 0, .int .u8 0, .int .u8 0, .int .u8 0, .int .u8 0, .int .u8 0, .int .u8 0, .int .u8 0, .int .i64 10, .int .i64 4, .int .i64 4, .int .u8 255, .int .u8 255, .int .u8 255, .int .u8 255, .int .u8 0, .int .u8 0, .int .u8 0, .int .u8 0, .int .u8 0, .int .u8 0, .int .u8 0, .int .u8 0, .int .u8 0, .int .u8 0, .int .u8 0, .int .u8 0, .int .i64 32, .int .i64 5, .int .i64 4, .int .u8 0, .int .u8 0, .int .u8 0, .int .u8 0, .int .u8 0, .int .u8 0, .int .u8 0, .int .u8 0, .int .u8 0, .int .u8 0, .int .u8 0, .int .u8 0, .int .u8 0, .int .u8 0, .int .u8 0, .int .u8 0, .int .i64 8, .int .i64 6, .int .i64 4, .int .u8 240, .int .u8 0, .int .u8 0, .int .u8 0, .int .u8 0, .int .u8 0, .int .u8 0, .int .u8 0, .int .u8 0, .int .u8 0, .int .u8 0, .int .u8 0, .int .u8 0, .int .u8 0, .int .u8 0, .int .u8 0, .int .i64 4, .int .i64 6, .int .i64 6, .int .u8 0, .int .u8 0, .int .u8 0, .int .u8 0, .int .u8 0, .int .u8 0, .int .u8 0, .int .u8 0, .int .u8 0, .int .u8 0, .int .u8 0, .int .u8 0, .int .u8 0, .int .u8 0, .int .u8 0, .int .u8 0, .int .i64 8, .int .i64 6]
def matchS (p : IPV) (n : NetV) : Bool := decide (n.p.v = p.v) && sameA (maskS p n.b) n.p
def sizeS (p : IPV) : Int := if p.v = 6 then 128 else if p.v ≠ 4 then 0 else if ((decide (p.a4 = 0)) && ((decide (p.a5 = 0)) && ((decide (p.a6 = 0)) && ((decide (p.a7 = 0)) && ((decide (p.a8 = 0)) && ((decide (p.a9 = 0)) && ((decide (p.a10 = 0)) && ((decide (p.a11 = 0)) && ((decide (p.a12 = 0)) && ((decide (p.a13 = 0)) && ((decide (p.a14 = 0)) && ((decide (p.a15 = 0)) && true)))))))))))) then 32 else 0
def classP (p : IPV) : Int := if 0 < sizeS p then (match netsV.find? (matchS p) with | some n => n.c | none => 7) else 0
theorem nets_len : netsV.length = 12 := rfl
theorem nets_at : ∀ i : Nat, (h : i < 12) → (netsL.drop (i * 19)).take 19 = (netsV[i]'(by rw [nets_len]; exact h)).cells
 | 0, _ => rfl
 | 1, _ => rfl
 | 2, _ => rfl
 | 3, _ => rfl
 | 4, _ => rfl
 | 5, _ => rfl
 | 6, _ => rfl
 | 7, _ => rfl
 | 8, _ => rfl
 | 9, _ => rfl
 | 10, _ => rfl
 | 11, _ => rfl
 | i + 12, h => absurd h (by omega)
theorem find_step {p : IPV} {i : Nat} (hi : i < 12) (hno : ∀ j, j < i → matchS p (netsV.getD j ⟨⟨0, 0, 0, 0, 0, 0, 0, 0, 0, 0, 0, 0, 0, 0, 0, 0, 0⟩, 0, 0⟩) = false) (h : matchS p (netsV[i]'(by rw [nets_len]; exact hi)) = true) :
  netsV.find? (matchS p) = some (netsV[i]'(by rw [nets_len]; exact hi)) := by
 rw [List.find?_eq_some_iff_getElem]
 refine ⟨h, i, by rw [nets_len]; exact hi, rfl, fun j hj => ?_⟩
 have := hno j hj
 rw [List.getD_eq_getElem?_getD, List.getElem?_eq_getElem (by rw [nets_len]; omega)] at this
 simpa using this
theorem find_none {p : IPV} (hno : ∀ j, j < 12 → matchS p (netsV.getD j ⟨⟨0, 0, 0, 0, 0, 0, 0, 0, 0, 0, 0, 0, 0, 0, 0, 0, 0⟩, 0, 0⟩) = false) : netsV.find? (matchS p) = none := by
 rw [List.find?_eq_none]
 intro x hx
 obtain ⟨j, hj, rfl⟩ := List.mem_iff_getElem.1 hx
 have := hno j (by rw [nets_len] at hj; exact hj)
 rw [List.getD_eq_getElem?_getD, List.getElem?_eq_getElem hj] at this
 simpa using this
end Go.Eng
namespace Go.Proofs.YtjngdcilnipjcaaGreatDoor
namespace Nd
open Go.Eng Go.RowKit
def Tab (w : World) : Prop := CellsAt w ⟨2, 0, none⟩ 0 netsL
theorem Tab.ext {w w' : World} (h : Tab w) (hE : Ext w w') : Tab w' := CellsAt.ext hE h
section
variable {w : World}
theorem size_spec (p : IPV) : Calls Tryz.prog 106 #[p.val] w fun e w' => Ext w w' ∧ e = .returned (.int .i64 (sizeS p)) := by
 refine addr_size_of p.v p.a0 p.a1 p.a2 p.a3 p.a4 p.a5 p.a6 p.a7 p.a8 p.a9 p.a10 p.a11 p.a12 p.a13 p.a14 p.a15 w _ ?_
 unfold addr_size_VC
 refine NewVC.blk fun g1 w1 hg1 hz1 hE1 hb1 => ?_
 have hb1 : Blk w1 g1 _ p.cells := hb1
 refine ⟨_, hb1.cell 0, Br.dec (fun h => ⟨hE1, ?_⟩) fun h => ?_⟩
 ·unfold sizeS; rw [if_pos h]
 refine ⟨_, hb1.cell 0, Br.dec (fun h4 => ⟨hE1, ?_⟩) fun h4 => ?_⟩
 ·unfold sizeS; rw [if_neg h, if_pos h4]
 refine ⟨by decide, by decide, ?_⟩
 refine ⟨by decide, _, rfl, ?_⟩
 refine ⟨_, _, _, _, _, _, _, _, _, _, _, _, CellsAt.part (g := g1) hb1 5 (ds := p.cells.drop 5) (es := []) rfl, ?_⟩
 have e : sizeS p = if ((decide (p.a4 = 0)) && ((decide (p.a5 = 0)) && ((decide (p.a6 = 0)) && ((decide (p.a7 = 0)) && ((decide (p.a8 = 0)) && ((decide (p.a9 = 0)) && ((decide (p.a10 = 0)) && ((decide (p.a11 = 0)) && ((decide (p.a12 = 0)) && ((decide (p.a13 = 0)) && ((decide (p.a14 = 0)) && ((decide (p.a15 = 0)) && true)))))))))))) then 32 else 0 := by unfold sizeS; rw [if_neg h, if_neg h4]
 cases hc : ((decide (p.a4 = 0)) && ((decide (p.a5 = 0)) && ((decide (p.a6 = 0)) && ((decide (p.a7 = 0)) && ((decide (p.a8 = 0)) && ((decide (p.a9 = 0)) && ((decide (p.a10 = 0)) && ((decide (p.a11 = 0)) && ((decide (p.a12 = 0)) && ((decide (p.a13 = 0)) && ((decide (p.a14 = 0)) && ((decide (p.a15 = 0)) && true)))))))))))) with
 | true => exact Br.f (by rfl) ⟨hE1, by rw [e, if_pos hc]⟩
 | false => exact Br.t (by rfl) ⟨hE1, by rw [e, if_neg (by rw [hc]; decide)]⟩
theorem Valid_spec (p : IPV) : Calls Tryz.prog 78 #[p.val] w fun e w' => Ext w w' ∧ e = .returned (.bool (decide (0 < sizeS p))) := by
 refine addr_Valid_of p.v p.a0 p.a1 p.a2 p.a3 p.a4 p.a5 p.a6 p.a7 p.a8 p.a9 p.a10 p.a11 p.a12 p.a13 p.a14 p.a15 w _ ?_
 unfold addr_Valid_VC
 refine NewVC.blk fun g1 w1 hg1 hz1 hE1 hb1 => ?_
 refine ⟨_, _, _, _, _, _, _, _, _, _, _, _, _, _, _, _, _, CellsAt.blk hb1, ?_⟩
 refine (size_spec p).mono ?_
 rintro _ w2 ⟨hE2, rfl⟩
 exact ⟨_, rfl, hE1.ext hE2, rfl⟩
theorem masked_spec (p : IPV) (n : Int) (_ : 0 ≤ n ∧ n ≤ 128) : Calls Tryz.prog 79 #[p.arr, .int .i64 n] w fun e w' => Ext w w' ∧ e = .returned (maskS p n).arr := by
 refine addr_masked_of p.a0 p.a1 p.a2 p.a3 p.a4 p.a5 p.a6 p.a7 p.a8 p.a9 p.a10 p.a11 p.a12 p.a13 p.a14 p.a15 n w _ ?_
 unfold addr_masked_VC
 refine NewVC.blk fun g1 w1 hg1 hz1 hE1 hb1 => NewVC.blk fun g2 w2 hg2 hz2 hE2 hb2 => NewVC.blk fun g3 w3 hg3 hz3 hE3 hb3 => ?_
 have hb1 : Cells w3 (some ⟨g1, 0, none⟩) (p.bytes.map (.int .u8)) := ((Cells.of_blk hb1 0).ext hE2).ext hE3
 have hb2 := hb2.ext hE3
 have hE := (hE1.ext hE2).ext hE3
 refine LoopVC.of (fun s w' => Mod (fun k => k = g3) w3 w' ∧ ∃ i : Nat, s = (i : Int) ∧ i ≤ 16 ∧ Blk w' g3 22 ((maskS p n).row.take i ++ List.replicate (16 - i) (.int .u8 0))) (fun s _ => (16 - s).toNat) ?_ ?_
 ·exact ⟨Mod.refl _ _, 0, rfl, by omega, hb3⟩
 rintro _ w4 ⟨hm4, i, rfl, hi, hb4⟩
 show addr_masked_L58 _ n g1 g2 g3 (i : Int) w4 _
 unfold addr_masked_L58
 have hlen : ((maskS p n).row.take i ++ List.replicate (16 - i) (Value.int .u8 0)).length = 16 := by simp [IPV.row]; omega
 refine Br.dec (fun hlt => ?_) (fun hge => ?_)
 ·have hlt : i < 16 := by omega
  refine IdxVC.int (hb1.mod hm4 fun a ha _ => by cases ha; show ¬ g1 = g3; omega) (by omega) (by omega) rfl fun a ha => ⟨_, ha, ?_⟩
  refine ⟨by rw [u64_eq]; omega, ?_⟩
  refine IdxVC.blk (by omega) (by omega) ?_
  refine SetVC.blk hb4 (by omega) fun w5 z5 m5 hb5 => ?_
  have e1 : IntKind.i64.wrap ((i : Int) + 1) = ((i + 1 : Nat) : Int) := by rw [w64 (by omega) (by omega)]; omega
  rw [e1]
  refine ⟨⟨hm4.trans m5, i + 1, rfl, by omega, ?_⟩, by omega⟩
  have e2 : ((maskS p n).row.take i ++ List.replicate (16 - i) (Value.int .u8 0)).set i (Value.int .u8 (maskB (p.bytes.getD i 0) n i)) = (maskS p n).row.take (i + 1) ++ List.replicate (16 - (i + 1)) (.int .u8 0) := by
   match i, hlt with
   | 0, _ => rfl
   | 1, _ => rfl
   | 2, _ => rfl
   | 3, _ => rfl
   | 4, _ => rfl
   | 5, _ => rfl
   | 6, _ => rfl
   | 7, _ => rfl
   | 8, _ => rfl
   | 9, _ => rfl
   | 10, _ => rfl
   | 11, _ => rfl
   | 12, _ => rfl
   | 13, _ => rfl
   | 14, _ => rfl
   | 15, _ => rfl
   | k + 16, h => exact absurd h (by omega)
  rw [← e2]
  exact hb5
 ·have he : i = 16 := by omega
  subst he
  have hb4 : Blk w4 g3 _ (maskS p n).row := hb4
  refine ⟨_, _, _, _, _, _, _, _, _, _, _, _, _, _, _, _, CellsAt.blk hb4, ?_⟩
  refine setAll (maskS p n).row 0 w4 _ _ ((hb2.mod hm4 (by show ¬ g2 = g3; omega))) rfl fun w' hz hm hb' => ?_
  exact ⟨_, _, _, _, _, _, _, _, _, _, _, _, _, _, _, _, CellsAt.blk hb', (hE.set hm4 (by omega)).set hm (by omega), rfl⟩
set_option maxRecDepth 20000 in
set_option maxHeartbeats 2000000 in
theorem Class_loop (p : IPV) {g1 : Nat} {w1 : World} {R : Ending → World → Prop} (hb1 : Blk w1 g1 24 p.cells) (hs : 0 < sizeS p) (hR : ∀ w', Ext w1 w' → R (.returned (.int .i64 (classP p))) w') :
  LoopVC (S := Int) (fun s w3 K58 => addr_Class_L58 R g1 4 0 0 0 0 0 0 0 0 0 0 0 0 0 0 0 0 32 1 6 0 0 0 0 0 0 0 0 0 0 0 0 0 0 0 0 128 1 4 127 0 0 0 0 0 0 0 0 0 0 0 0 0 0 0 8 2 6 0 0 0 0 0 0 0 0 0 0 0 0 0 0 0 1 128 2 4 224 0 0 0 0 0 0 0 0 0 0 0 0 0 0 0 4 3 6 255 0 0 0 0 0 0 0 0 0 0 0 0 0 0 0 8 3 4 169 254 0 0 0 0 0 0 0 0 0 0 0 0 0 0 16 4 6 254 128 0 0 0 0 0 0 0 0 0 0 0 0 0 0 10 4 4 255 255 255 255 0 0 0 0 0 0 0 0 0 0 0 0 32 5 4 0 0 0 0 0 0 0 0 0 0 0 0 0 0 0 0 8 6 4 240 0 0 0 0 0 0 0 0 0 0 0 0 0 0 0 4 6 6 0 0 0 0 0 0 0 0 0 0 0 0 0 0 0 0 8 6 s w3 K58) 0 w1 := by
 refine LoopVC.of (fun s w' => Ext w1 w' ∧ ∃ i : Nat, s = (i : Int) ∧ i ≤ 12 ∧ ∀ j, j < i → matchS p (netsV.getD j ⟨⟨0, 0, 0, 0, 0, 0, 0, 0, 0, 0, 0, 0, 0, 0, 0, 0, 0⟩, 0, 0⟩) = false) (fun s _ => (12 - s).toNat) ⟨Mod.refl _ _, 0, rfl, by omega, fun _ h => absurd h (by omega)⟩ ?_
 rintro _ w3 ⟨hE3, i, rfl, hi, hno⟩
 unfold addr_Class_L58
 have hcl : classP p = (match netsV.find? (matchS p) with | some n => n.c | none => 7) := by unfold classP; rw [if_pos hs]
 refine Br.dec (fun hlt => ?_) (fun hge => ?_)
 ·have hlt : i < 12 := by omega
  obtain ⟨N, hN⟩ : ∃ N, N = (netsV[i]'(by rw [nets_len]; exact hlt)) := ⟨_, rfl⟩
  have hat := nets_at i hlt
  rw [← hN] at hat
  have hgd : netsV.getD i ⟨⟨0, 0, 0, 0, 0, 0, 0, 0, 0, 0, 0, 0, 0, 0, 0, 0, 0⟩, 0, 0⟩ = N := by
   rw [List.getD_eq_getElem?_getD, List.getElem?_eq_getElem (by rw [nets_len]; omega), hN]; rfl
  have hbits : 0 ≤ N.b ∧ N.b ≤ 128 := by
   have : ∀ n ∈ netsV, 0 ≤ n.b ∧ n.b ≤ 128 := by decide
   exact this N (by rw [hN]; exact List.getElem_mem _)
  have next : ∀ w', Ext w1 w' → matchS p N = false → (Ext w1 w' ∧ ∃ i' : Nat, IntKind.i64.wrap ((i : Int) + 1) = (i' : Int) ∧ i' ≤ 12 ∧ ∀ j, j < i' → matchS p (netsV.getD j ⟨⟨0, 0, 0, 0, 0, 0, 0, 0, 0, 0, 0, 0, 0, 0, 0, 0, 0⟩, 0, 0⟩) = false) ∧ (12 - IntKind.i64.wrap ((i : Int) + 1)).toNat < (12 - (i : Int)).toNat := fun w' hE' hm => by
   have e1 : IntKind.i64.wrap ((i : Int) + 1) = ((i + 1 : Nat) : Int) := by rw [w64 (by omega) (by omega)]; omega
   rw [e1]
   refine ⟨⟨hE', i + 1, rfl, by omega, fun j hj => ?_⟩, by omega⟩
   rcases Nat.lt_or_ge j i with h | h
   ·exact hno j h
   ·have : j = i := by omega
    subst this
    rw [hgd]; exact hm
  refine ⟨N.p.v, N.p.a0, N.p.a1, N.p.a2, N.p.a3, N.p.a4, N.p.a5, N.p.a6, N.p.a7, N.p.a8, N.p.a9, N.p.a10, N.p.a11, N.p.a12, N.p.a13, N.p.a14, N.p.a15, N.b, N.c, ⟨by omega, by omega, hat⟩, ?_⟩
  refine NewVC.blk fun g2 w4 hg2 hz4 hE4 hb4 => ?_
  have s3 := hE3.size
  have hg1 := hb1.lt
  refine setAll N.cells 0 w4 _ _ hb4 rfl fun w5 hz5 hm5 hb5 => ?_
  have hb5 : Blk w5 g2 _ N.cells := hb5
  have hE5 : Ext w1 w5 := (hE3.ext hE4).set hm5 (by omega)
  have hb15 := hb1.ext hE5
  refine DrawVC.of (fun w' => Ext w5 w') fun w6 hE6 _ => ⟨hE6, ?_⟩
  refine ⟨_, fun w' h => (hb5.ext h).cell 0, _, fun w' h => (hb15.ext h).cell 0, Br.dec (fun hv => ?_) (fun hv => ?_)⟩
  ·refine ⟨_, _, _, _, _, _, _, _, _, _, _, _, _, _, _, _, fun w' h => CellsAt.part (hb15.ext h) 1 (ds := p.row) (es := []) rfl, _, fun w' h => (hb5.ext h).cell 17, _, _, _, _, _, _, _, _, _, _, _, _, _, _, _, _, fun w' h => CellsAt.part (hb5.ext h) 1 (ds := N.p.row) (es := N.cells.drop 17) rfl, ?_⟩
   refine (masked_spec p N.b hbits).mono ?_
   rintro _ w7 ⟨hE7, rfl⟩
   refine ⟨_, _, _, _, _, _, _, _, _, _, _, _, _, _, _, _, rfl, hE6.ext hE7, ?_⟩
   have hEn := hE5.ext (hE6.ext hE7)
   have hm : matchS p N = sameA (maskS p N.b) N.p := by unfold matchS; rw [decide_eq_true hv, Bool.true_and]
   cases hsame : sameA (maskS p N.b) N.p with
   | true =>
    refine Br.t hsame ⟨_, (hb5.ext (hE6.ext hE7)).cell 18, ?_⟩
    have := hR w7 hEn
    rw [hcl, find_step hlt hno (by rw [← hN, hm, hsame])] at this
    rw [hN]; exact this
   | false => exact Br.f hsame (next w7 hEn (by rw [hm, hsame]))
  ·exact next w6 (hE5.ext hE6) (by unfold matchS; rw [decide_eq_false hv, Bool.false_and])
 ·have : i = 12 := by omega
  subst this
  have := hR w3 hE3
  rw [hcl, find_none hno] at this
  exact this
set_option maxRecDepth 20000 in
set_option maxHeartbeats 1000000 in
theorem Class_spec (p : IPV) (hT : Tab w) : Calls Tryz.prog 46 #[p.val] w fun e w' => Ext w w' ∧ e = .returned (.int .i64 (classP p)) := by
 refine addr_Class_of p.v p.a0 p.a1 p.a2 p.a3 p.a4 p.a5 p.a6 p.a7 p.a8 p.a9 p.a10 p.a11 p.a12 p.a13 p.a14 p.a15 w _ ?_
 unfold addr_Class_VC
 refine NewVC.blk fun g1 w1 hg1 hz1 hE1 hb1 => ?_
 have hb1 : Blk w1 g1 24 p.cells := hb1
 refine ⟨_, _, _, _, _, _, _, _, _, _, _, _, _, _, _, _, _, CellsAt.blk hb1, ?_⟩
 refine (Valid_spec p).mono ?_
 rintro _ w2 ⟨hE2, rfl⟩
 have hE := hE1.ext hE2
 refine ⟨_, rfl, ?_⟩
 by_cases hs : 0 < sizeS p
 ·refine Br.f (by simp [hs]) ?_
  refine ⟨4, 0, 0, 0, 0, 0, 0, 0, 0, 0, 0, 0, 0, 0, 0, 0, 0, 32, 1, 6, 0, 0, 0, 0, 0, 0, 0, 0, 0, 0, 0, 0, 0, 0, 0, 0, 128, 1, 4, 127, 0, 0, 0, 0, 0, 0, 0, 0, 0, 0, 0, 0, 0, 0, 0, 8, 2, 6, 0, 0, 0, 0, 0, 0, 0, 0, 0, 0, 0, 0, 0, 0, 0, 1, 128, 2, 4, 224, 0, 0, 0, 0, 0, 0, 0, 0, 0, 0, 0, 0, 0, 0, 0, 4, 3, 6, 255, 0, 0, 0, 0, 0, 0, 0, 0, 0, 0, 0, 0, 0, 0, 0, 8, 3, 4, 169, 254, 0, 0, 0, 0, 0, 0, 0, 0, 0, 0, 0, 0, 0, 0, 16, 4, 6, 254, 128, 0, 0, 0, 0, 0, 0, 0, 0, 0, 0, 0, 0, 0, 0, 10, 4, 4, 255, 255, 255, 255, 0, 0, 0, 0, 0, 0, 0, 0, 0, 0, 0, 0, 32, 5, 4, 0, 0, 0, 0, 0, 0, 0, 0, 0, 0, 0, 0, 0, 0, 0, 0, 8, 6, 4, 240, 0, 0, 0, 0, 0, 0, 0, 0, 0, 0, 0, 0, 0, 0, 0, 4, 6, 6, 0, 0, 0, 0, 0, 0, 0, 0, 0, 0, 0, 0, 0, 0, 0, 0, 8, 6, hT.ext hE, ?_⟩
  exact Class_loop p (hb1.ext hE2) hs fun w' hE' => ⟨hE.ext hE', rfl⟩
 ·refine Br.t (by simp [hs]) ⟨hE, ?_⟩
  unfold classP; rw [if_neg hs]
theorem noTarget_spec (p : IPV) (hT : Tab w) : Calls Tryz.prog 50 #[p.val] w fun e w' => Ext w w' ∧ e = .returned (.bool (decide (classP p = 3 ∨ classP p = 1))) := by
 refine icmp_noTarget_of p.v p.a0 p.a1 p.a2 p.a3 p.a4 p.a5 p.a6 p.a7 p.a8 p.a9 p.a10 p.a11 p.a12 p.a13 p.a14 p.a15 w _ ?_
 unfold icmp_noTarget_VC
 refine NewVC.blk fun g1 w1 hg1 hz1 hE1 hb1 => ?_
 refine ⟨_, _, _, _, _, _, _, _, _, _, _, _, _, _, _, _, _, CellsAt.blk hb1, ?_⟩
 refine (Class_spec p (hT.ext hE1)).mono ?_
 rintro _ w2 ⟨hE2, rfl⟩
 refine ⟨_, rfl, Br.dec (fun h => ⟨hE1.ext hE2, ?_⟩) fun h => ⟨hE1.ext hE2, ?_⟩⟩
 ·simp [h]
 ·simp [h]
end
end Nd
end Go.Proofs.YtjngdcilnipjcaaGreatDoor
