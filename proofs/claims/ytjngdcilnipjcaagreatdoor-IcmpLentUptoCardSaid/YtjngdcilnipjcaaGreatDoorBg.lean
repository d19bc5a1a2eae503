/- WRITTEN BY a program of this session (vc.py): for each Go function the condition that is enough for its contract, and the theorem that it is. -/
import Derived.Test.YtjngdcilnipjcaaGreatDoorProg
import Derived.Test.YtjngdcilnipjcaaGreatDoorBq
import Derived.Test.YtjngdcilnipjcaaGreatDoorBe
namespace Go.Proofs.YtjngdcilnipjcaaGreatDoor
set_option maxRecDepth 100000
open Go.Eng
namespace N6
def bodyOf (fn : Func) : Code := match fn.body with | some c => c | none => .skip
def callF (f : Nat) : Bool := Nat.ble 3 f && Nat.ble f 142 && !(Nat.beq f 128)
theorem callAll : ((List.range 143).all fun f => !(callF f) || callableB Tryz.prog f) = true := by kernel_rfl
theorem callOk : ∀ f, callF f = true → callableB Tryz.prog f = true := by
 intro f hf
 have h := List.all_eq_true.1 callAll f (by simp [callF] at hf; simp; omega)
 simpa [hf] using h
theorem mixedOk : Tryz.prog.follows .mixedOrders = true := by kernel_rfl
def ip6_padding_L12 (R : EWP)  (outA1 : Option Addr) (outn1 outc1 : Nat) (n1 : Int) (w1 : World) (K12 : ((Option Addr × Nat × Nat) × Int → World → Prop)) : Prop := Br (decide ((1 : Int) < n1))
 (NewVC w1 (.cells #[U8 1, U8 (IntKind.u8.wrap (IntKind.i64.wrap ((if 257 < n1 then 257 else n1) - 2)))] 5) fun g1 w2 => AppVC Tryz.prog #[25, 25] 25 (.slice outA1 outn1 outc1) (.slice (sa_ g1) 2 2) w2 fun lA ln lc w3 =>
 AppVC Tryz.prog #[25, 3] 25 (.slice lA ln lc) (I6 (IntKind.i64.wrap ((if 257 < n1 then 257 else n1) - 2))) w3 fun lA1 ln1 lc1 w4 => K12 ((lA1, ln1, lc1), IntKind.i64.wrap (n1 - (if 257 < n1 then 257 else n1))) w4) (Br (decide (n1 = 1)) (NewVC w1 (.cells #[U8 0] 5) fun g2 w5 =>
 AppVC Tryz.prog #[25, 25] 25 (.slice outA1 outn1 outc1) (.slice (sa_ g2) 1 1) w5 fun lA2 ln2 lc2 w6 => R (.returned (.slice lA2 ln2 lc2)) w6) (R (.returned (.slice outA1 outn1 outc1)) w1))
def ip6_padding_VC (outA : Option Addr) (outn outc : Nat) (n : Int) (w : World) (R : EWP) : Prop := LoopVC (S := (Option Addr × Nat × Nat) × Int) (fun s_ w1 K12 => ip6_padding_L12 R s_.1.1 s_.1.2.1 s_.1.2.2 s_.2 w1 K12) ((outA, outn, outc), n) w
def ip6_padding_H : Hints := [(12, [(0, .slice), (1, .int .i64)])]
theorem ip6_padding_of (outA : Option Addr) (outn outc : Nat) (n : Int) (w : World) (R : EWP) (h_ : ip6_padding_VC outA outn outc n w R) : Calls Tryz.prog 140 #[.slice outA outn outc, I6 n] w R :=
 calls_of_wpc callOk mixedOk (H := ip6_padding_H) (c := bodyOf Tryz.f140) Tryz.func140 rfl (nb_ rfl) (Eq.mp (by kernel_rfl) h_)
def ip6_putOptions_J14948 (R : EWP) (lA : Option Addr) (ln : Nat) (outA : Option Addr) (outn outc : Nat) (t11_ : Int) (K58 : ((Option Addr × Nat × Nat) × Int → World → Prop)) (g1 : Nat) (J3737 : ((Option Addr × Nat × Nat) × Int × Bool × Bool × Bool → World → Prop)) (t16_ : Bool) (w4 : World) : Prop :=
 Br t16_ (R (.returned (.tuple #[.slice none 0 0, I6 75])) w4) (∃ x4, w4.cell? (ad_ g1 0) = some (I6 x4) ∧ Br (decide (x4 ≠ 0)) (DrawVC w4 fun S1 w5 => ∃ x5, (∀ w' : World, S1 w' → w'.cell? ⟨g1, 0, none⟩ = some (I6 x5)) ∧
 ∃ xA1 xn1 xc1, (∀ w' : World, S1 w' → w'.cell? ⟨g1, 1, none⟩ = some (.slice xA1 xn1 xc1)) ∧ ∃ xA2 xn2 xc2, (∀ w' : World, S1 w' → w'.cell? ⟨g1, 1, none⟩ = some (.slice xA2 xn2 xc2)) ∧ NewVC w5 (.cells #[U8 (IntKind.u8.wrap x5), U8 (IntKind.u8.wrap (xn1 : Int))] 5) fun g2 w6 => S1 w6 ∧
 AppVC Tryz.prog #[25, 25] 25 (.slice outA outn outc) (.slice (sa_ g2) 2 2) w6 fun lA1 ln1 lc1 w7 => S1 w7 ∧ AppVC Tryz.prog #[25, 25] 25 (.slice lA1 ln1 lc1) (.slice xA2 xn2 xc2) w7 fun lA2 ln2 lc2 w8 => S1 w8 ∧ K58 ((lA2, ln2, lc2), IntKind.i64.wrap (t11_ + 1)) w8)
 (∃ xA3 xn3 xc3, w4.cell? (ad_ g1 1) = some (.slice xA3 xn3 xc3) ∧ Br (decide ((xn3 : Int) = 0)) (R (.returned (.tuple #[.slice none 0 0, I6 75])) w4) (Br (decide ((0 : Int) < t11_)) (IdxVC lA ln 2 (IntKind.i64.wrap (t11_ - 1)) fun a1 => ∃ x6, w4.cell? a1 = some (I6 x6) ∧ Br (decide (x6 = 0))
 (R (.returned (.tuple #[.slice none 0 0, I6 75])) w4) (J3737 ((outA, outn, outc), t11_, decide ((0 : Int) < t11_), true, decide (x6 = 0)) w4)) (J3737 ((outA, outn, outc), t11_, decide ((0 : Int) < t11_), false, false) w4))))
def ip6_putOptions_L59802 (R : EWP) (t11_ : Int) (K58 : ((Option Addr × Nat × Nat) × Int → World → Prop)) (g1 : Nat) (outA1 : Option Addr) (outn1 outc1 : Nat) (xA4 : Option Addr) (xn4 : Nat) (t79_ : Int) (w10 : World) (K59802 : (Int → World → Prop)) : Prop := Br (decide (t79_ < (xn4 : Int)))
 (IdxVC xA4 xn4 1 t79_ fun a2 => ∃ x7, w10.cell? a2 = some (U8 x7) ∧ Br (decide (x7 ≠ 0)) (R (.returned (.tuple #[.slice none 0 0, I6 75])) w10) (K59802 (IntKind.i64.wrap (t79_ + 1)) w10)) (∃ xA5 xn5 xc5, w10.cell? (ad_ g1 1) = some (.slice xA5 xn5 xc5) ∧ Br (decide ((2046 : Int) < (xn5 : Int)))
 (R (.returned (.tuple #[.slice none 0 0, I6 75])) w10) (∃ xA6 xn6 xc6, w10.cell? (ad_ g1 1) = some (.slice xA6 xn6 xc6) ∧ Calls Tryz.prog 140 #[.slice outA1 outn1 outc1, I6 (xn6 : Int)] w10 (onRet (fun r_ w11 => ∃ xA7 xn7 xc7, r_ = .slice xA7 xn7 xc7 ∧
 K58 ((xA7, xn7, xc7), IntKind.i64.wrap (t11_ + 1)) w11) (pn_ R))))
def ip6_putOptions_J3737 (R : EWP) (t11_ : Int) (K58 : ((Option Addr × Nat × Nat) × Int → World → Prop)) (g1 : Nat) (outA1 : Option Addr) (outn1 outc1 : Nat) (_t64_ : Int) (_t65_ _t66_ _t74_ : Bool) (w9 : World) : Prop := ∃ xA4 xn4 xc4, w9.cell? (ad_ g1 1) = some (.slice xA4 xn4 xc4) ∧
 LoopVC (S := Int) (fun s_ w10 K59802 => ip6_putOptions_L59802 R t11_ K58 g1 outA1 outn1 outc1 xA4 xn4 s_ w10 K59802) 0 w9
def ip6_putOptions_L58 (R : EWP) (lA : Option Addr) (ln : Nat) (outA : Option Addr) (outn outc : Nat) (t11_ : Int) (w1 : World) (K58 : ((Option Addr × Nat × Nat) × Int → World → Prop)) : Prop := Br (decide (t11_ < (ln : Int))) (IdxVC lA ln 2 t11_ fun a => OptV.ex fun h => CellsAt w1 a 0 h.cells ∧
 NewVC w1 (.cells (OptV.z : OptV).cells.toArray 135) fun g1 w2 => St_ g1 h.cells w2 fun w3 => JoinVC (S := (Option Addr × Nat × Nat) × Int × Bool × Bool × Bool) (fun J3737 => JoinVC (S := Bool) (fun J14948 => ∃ x, w3.cell? (ad_ g1 0) = some (I6 x) ∧ Br (decide (x < 0)) (J14948 true w3)
 (∃ x1, w3.cell? (ad_ g1 0) = some (I6 x1) ∧ Br (decide ((255 : Int) < x1)) (J14948 true w3) (∃ x2, w3.cell? (ad_ g1 0) = some (I6 x2) ∧ Br (decide (x2 = 1)) (J14948 true w3) (∃ x3, w3.cell? (ad_ g1 0) = some (I6 x3) ∧ Br (decide (x3 ≠ 0)) (∃ xA xn xc, w3.cell? (ad_ g1 1) = some (.slice xA xn xc) ∧
 J14948 (decide ((255 : Int) < (xn : Int))) w3) (J14948 false w3))))) (fun s_ w4 => ip6_putOptions_J14948 R lA ln outA outn outc t11_ K58 g1 J3737 s_ w4)) (fun s_ w9 => ip6_putOptions_J3737 R t11_ K58 g1 s_.1.1 s_.1.2.1 s_.1.2.2 s_.2.1 s_.2.2.1 s_.2.2.2.1 s_.2.2.2.2 w9))
 (Br (decide (Int.tmod (outn : Int) 8 ≠ 6)) (R (.returned (.tuple #[.slice none 0 0, I6 75])) w1) (Br (decide ((2046 : Int) < (outn : Int))) (R (.returned (.tuple #[.slice none 0 0, I6 75])) w1) (R (.returned (.tuple #[.slice outA outn outc, I6 0])) w1)))
def ip6_putOptions_VC (lA : Option Addr) (ln _lc : Nat) (w : World) (R : EWP) : Prop := LoopVC (S := (Option Addr × Nat × Nat) × Int) (fun s_ w1 K58 => ip6_putOptions_L58 R lA ln s_.1.1 s_.1.2.1 s_.1.2.2 s_.2 w1 K58) ((none, 0, 0), 0) w
def ip6_putOptions_H : Hints := [(58, [(4, .slice), (11, .int .i64)]), (14948, [(16, .bool)]), (3737, [(4, .slice), (64, .int .i64), (65, .bool), (66, .bool), (74, .bool)]), (59802, [(79, .int .i64)])]
theorem ip6_putOptions_of (lA : Option Addr) (ln lc : Nat) (w : World) (R : EWP) (h_ : ip6_putOptions_VC lA ln lc w R) : Calls Tryz.prog 133 #[.slice lA ln lc] w R :=
 calls_of_wpc callOk mixedOk (H := ip6_putOptions_H) (c := bodyOf Tryz.f133) Tryz.func133 rfl (nb_ rfl) (Eq.mp (by kernel_rfl) h_)
def ip6_body_J51 (R : EWP) (g1 : Nat) (t25_ : Bool) (w6 : World) : Prop := Br t25_ (R (.returned (.tuple #[.slice none 0 0, I6 72])) w6) (∃ x9, w6.cell? (ad_ g1 0) = some (I6 x9) ∧ Calls Tryz.prog 126 #[I6 x9] w6 (onRet (fun r_3 w7 => ∃ x10, r_3 = I6 x10 ∧ Br (decide (x10 = 1))
 (∃ xA1 xn1 xc1, w7.cell? (ad_ g1 1) = some (.slice xA1 xn1 xc1) ∧ Calls Tryz.prog 133 #[.slice xA1 xn1 xc1] w7 (onRet (fun r_4 w8 => ∃ x0A x0n x0c x11, r_4 = .tuple #[.slice x0A x0n x0c, I6 x11] ∧ R (.returned (.tuple #[.slice x0A x0n x0c, I6 x11])) w8) (pn_ R)))
 (∃ xA2 xn2 xc2, w7.cell? (ad_ g1 1) = some (.slice xA2 xn2 xc2) ∧ Br (decide ((0 : Int) < (xn2 : Int))) (R (.returned (.tuple #[.slice none 0 0, I6 72])) w7) (∃ xA3 xn3 xc3, w7.cell? (ad_ g1 2) = some (.slice xA3 xn3 xc3) ∧ Br (decide (Int.tmod (xn3 : Int) 8 ≠ 6))
 (R (.returned (.tuple #[.slice none 0 0, I6 72])) w7) (∃ xA4 xn4 xc4, w7.cell? (ad_ g1 2) = some (.slice xA4 xn4 xc4) ∧ Br (decide ((2046 : Int) < (xn4 : Int))) (R (.returned (.tuple #[.slice none 0 0, I6 72])) w7) (∃ xA5 xn5 xc5, w7.cell? (ad_ g1 2) = some (.slice xA5 xn5 xc5) ∧
 R (.returned (.tuple #[.slice xA5 xn5 xc5, I6 0])) w7))))) (pn_ R)))
def ip6_body_J12 (R : EWP) (g1 : Nat) (t4_ : Bool) (w4 : World) : Prop := Br t4_ (R (.returned (.tuple #[.slice none 0 0, I6 72])) w4) (JoinVC (S := Bool) (fun J51 => ∃ x7, w4.cell? (ad_ g1 0) = some (I6 x7) ∧ Calls Tryz.prog 126 #[I6 x7] w4 (onRet (fun r_2 w5 => ∃ x8, r_2 = I6 x8 ∧
 Br (decide (x8 = 1)) (∃ xA xn xc, w5.cell? (ad_ g1 2) = some (.slice xA xn xc) ∧ J51 (decide ((0 : Int) < (xn : Int))) w5) (J51 false w5)) (pn_ R))) (fun s_ w6 => ip6_body_J51 R g1 s_ w6))
def ip6_body_VC (x : ExtV) (w : World) (R : EWP) : Prop := NewVC w (.cells x.cells.toArray 145) fun g1 w1 => JoinVC (S := Bool) (fun J12 => ∃ x1, w1.cell? (ad_ g1 0) = some (I6 x1) ∧ Br (decide (x1 < 0)) (J12 true w1) (∃ x2, w1.cell? (ad_ g1 0) = some (I6 x2) ∧ Br (decide ((255 : Int) < x2))
 (J12 true w1) (∃ x3, w1.cell? (ad_ g1 0) = some (I6 x3) ∧ Calls Tryz.prog 126 #[I6 x3] w1 (onRet (fun r_ w2 => ∃ x4, r_ = I6 x4 ∧ Br (decide (x4 ≠ 1)) (∃ x5, w2.cell? (ad_ g1 0) = some (I6 x5) ∧ Calls Tryz.prog 126 #[I6 x5] w2 (onRet (fun r_1 w3 => ∃ x6, r_1 = I6 x6 ∧ J12 (decide (x6 ≠ 2)) w3)
 (pn_ R))) (J12 false w2)) (pn_ R))))) (fun s_ w4 => ip6_body_J12 R g1 s_ w4)
def ip6_body_H : Hints := [(12, [(4, .bool)]), (51, [(25, .bool)])]
theorem ip6_body_of (x : ExtV) (w : World) (R : EWP) (h_ : ip6_body_VC x w R) : Calls Tryz.prog 125 #[x.val] w R := calls_of_wpc callOk mixedOk (H := ip6_body_H) (c := bodyOf Tryz.f125) Tryz.func125 rfl (nb_ rfl) (Eq.mp (by kernel_rfl) h_)
def ip6_sort_L26 (R : EWP) (kind x0 x1 x2 x3 x4 x5 x6 x7 t6_ : Int) (w1 : World) (K26 : (Int → World → Prop)) : Prop := Br (decide (t6_ < 4)) (∃ x01 x11, PartVC ([I6 x0, I6 x1, I6 x2, I6 x3, I6 x4, I6 x5, I6 x6, I6 x7]) t6_ 4 2 ([I6 x01, I6 x11]) ∧
 NewVC w1 (.cells (Hd4V.z : Hd4V).cells.toArray 173) fun g1 w2 => St_ g1 [I6 x01, I6 x11] w2 fun w3 => ∃ x, w3.cell? (ad_ g1 0) = some (I6 x) ∧ Br (decide (x = kind)) (∃ x8, w3.cell? (ad_ g1 1) = some (I6 x8) ∧ R (.returned (I6 x8)) w3) (K26 (IntKind.i64.wrap (t6_ + 1)) w3))
 (R (.returned (I6 0)) w1)
def ip6_sort_VC (kind : Int) (w : World) (R : EWP) : Prop := ∃ x0 x1 x2 x3 x4 x5 x6 x7, CellsAt w ⟨3, 0, none⟩ 0 [I6 x0, I6 x1, I6 x2, I6 x3, I6 x4, I6 x5, I6 x6, I6 x7] ∧ LoopVC (S := Int) (fun s_ w1 K26 => ip6_sort_L26 R kind x0 x1 x2 x3 x4 x5 x6 x7 s_ w1 K26) 0 w
def ip6_sort_H : Hints := [(26, [(6, .int .i64)])]
theorem ip6_sort_of (kind : Int) (w : World) (R : EWP) (h_ : ip6_sort_VC kind w R) : Calls Tryz.prog 126 #[I6 kind] w R := calls_of_wpc callOk mixedOk (H := ip6_sort_H) (c := bodyOf Tryz.f126) Tryz.func126 rfl (nb_ rfl) (Eq.mp (by kernel_rfl) h_)
def ip6_headers_J125343 (outA : Option Addr) (outn outc : Nat) (t19_ : Int) (K122 : ((Option Addr × Nat × Nat) × Int → World → Prop)) (x0A : Option Addr) (x0n x0c : Nat) (then_ : Int) (w6 : World) : Prop :=
 NewVC w6 (.cells #[U8 (IntKind.u8.wrap then_), U8 (IntKind.u8.wrap (IntKind.i64.wrap (Int.tdiv (x0n : Int) 8)))] 5) fun g2 w7 => AppVC Tryz.prog #[25, 25] 25 (.slice outA outn outc) (.slice (sa_ g2) 2 2) w7 fun lA1 ln1 lc1 w8 =>
 AppVC Tryz.prog #[25, 25] 25 (.slice lA1 ln1 lc1) (.slice x0A x0n x0c) w8 fun lA2 ln2 lc2 w9 => K122 ((lA2, ln2, lc2), IntKind.i64.wrap (t19_ + 1)) w9
def ip6_headers_J7833 (R : EWP) (lA : Option Addr) (ln : Nat) (next : Int) (outA : Option Addr) (outn outc : Nat) (t19_ : Int) (K122 : ((Option Addr × Nat × Nat) × Int → World → Prop)) (g1 : Nat)  (w4 : World) : Prop := ExtV.ex fun h1 => CA_ w4 g1 h1.cells ∧
 Calls Tryz.prog 125 #[h1.val] w4 (onRet (fun r_ w5 => ∃ x0A x0n x0c x1, r_ = .tuple #[.slice x0A x0n x0c, I6 x1] ∧ Br (decide (x1 ≠ 0)) (R (.returned (.tuple #[.slice none 0 0, I6 x1])) w5) (JoinVC (S := Int) (fun J125343 => Br (decide (IntKind.i64.wrap (t19_ + 1) < (ln : Int)))
 (IdxVC lA ln 3 (IntKind.i64.wrap (t19_ + 1)) fun a1 => ∃ x2, w5.cell? a1 = some (I6 x2) ∧ J125343 x2 w5) (J125343 next w5)) (fun s_ w6 => ip6_headers_J125343 outA outn outc t19_ K122 x0A x0n x0c s_ w6))) (pn_ R))
def ip6_headers_L122 (R : EWP) (lA : Option Addr) (ln : Nat) (next : Int) (inner : Bool) (outA : Option Addr) (outn outc : Nat) (t19_ : Int) (w1 : World) (K122 : ((Option Addr × Nat × Nat) × Int → World → Prop)) : Prop := Br (decide (t19_ < (ln : Int))) (IdxVC lA ln 3 t19_ fun a =>
 ExtV.ex fun h => CellsAt w1 a 0 h.cells ∧ NewVC w1 (.cells (ExtV.z : ExtV).cells.toArray 145) fun g1 w2 => St_ g1 h.cells w2 fun w3 => JoinVC (S := Unit) (fun J7833 => ∃ x, w3.cell? (ad_ g1 0) = some (I6 x) ∧ Br (decide (x = 0)) (Br (decide ((0 : Int) < t19_))
 (R (.returned (.tuple #[.slice none 0 0, I6 73])) w3) (Br inner (R (.returned (.tuple #[.slice none 0 0, I6 73])) w3) (J7833 () w3))) (J7833 () w3)) (fun _ w4 => ip6_headers_J7833 R lA ln next outA outn outc t19_ K122 g1 w4)) (R (.returned (.tuple #[.slice outA outn outc, I6 0])) w1)
def ip6_headers_VC (lA : Option Addr) (ln _lc : Nat) (next : Int) (inner : Bool) (w : World) (R : EWP) : Prop := Br (decide ((8 : Int) < (ln : Int))) (R (.returned (.tuple #[.slice none 0 0, I6 74])) w)
 (LoopVC (S := (Option Addr × Nat × Nat) × Int) (fun s_ w1 K122 => ip6_headers_L122 R lA ln next inner s_.1.1 s_.1.2.1 s_.1.2.2 s_.2 w1 K122) ((none, 0, 0), 0) w)
def ip6_headers_H : Hints := [(122, [(8, .slice), (19, .int .i64)]), (7833, []), (125343, [(13, .int .i64)])]
theorem ip6_headers_of (lA : Option Addr) (ln lc : Nat) (next : Int) (inner : Bool) (w : World) (R : EWP) (h_ : ip6_headers_VC lA ln lc next inner w R) : Calls Tryz.prog 108 #[.slice lA ln lc, I6 next, .bool inner] w R :=
 calls_of_wpc callOk mixedOk (H := ip6_headers_H) (c := bodyOf Tryz.f108) Tryz.func108 rfl (nb_ rfl) (Eq.mp (by kernel_rfl) h_)
def ip6_fits_VC (f : FragV) (n : Int) (w : World) (R : EWP) : Prop := NewVC w (.cells f.cells.toArray 35) fun g1 w1 => ∃ x, w1.cell? (ad_ g1 1) = some (.bool x) ∧ Br x (Br (decide (n = 0)) (R (.returned (.bool false)) w1) (Br (decide (Int.tmod n 8 ≠ 0)) (R (.returned (.bool false)) w1)
 (∃ x1, w1.cell? (ad_ g1 3) = some (I6 x1) ∧ Br (decide ((0 : Int) < x1)) (Br (decide (n = 0)) (R (.returned (.bool false)) w1) (∃ x2, w1.cell? (ad_ g1 3) = some (I6 x2) ∧ R (.returned (.bool (decide (IntKind.i64.wrap (x2 + n) ≤ 65535)))) w1)) (∃ x3, w1.cell? (ad_ g1 3) = some (I6 x3) ∧
 R (.returned (.bool (decide (IntKind.i64.wrap (x3 + n) ≤ 65535)))) w1)))) (∃ x4, w1.cell? (ad_ g1 3) = some (I6 x4) ∧ Br (decide ((0 : Int) < x4)) (Br (decide (n = 0)) (R (.returned (.bool false)) w1) (∃ x5, w1.cell? (ad_ g1 3) = some (I6 x5) ∧
 R (.returned (.bool (decide (IntKind.i64.wrap (x5 + n) ≤ 65535)))) w1)) (∃ x6, w1.cell? (ad_ g1 3) = some (I6 x6) ∧ R (.returned (.bool (decide (IntKind.i64.wrap (x6 + n) ≤ 65535)))) w1))
def ip6_fits_H : Hints := []
theorem ip6_fits_of (f : FragV) (n : Int) (w : World) (R : EWP) (h_ : ip6_fits_VC f n w R) : Calls Tryz.prog 127 #[f.val, I6 n] w R := calls_of_wpc callOk mixedOk (H := ip6_fits_H) (c := bodyOf Tryz.f127) Tryz.func127 rfl (nb_ rfl)
 (Eq.mp (by kernel_rfl) h_)
def ip6_fragged_J115 (R : EWP) (g1 g2 : Nat) (t15_ : Bool) (w6 : World) : Prop := Br t15_ (R (.returned (I6 72)) w6) (∃ x4, w6.cell? (ad_ g2 0) = some (.bool x4) ∧ Br (!x4) (R (.returned (I6 0)) w6) (∃ x5, w6.cell? (ad_ g2 2) = some (I6 x5) ∧ Br (decide (x5 < 0)) (R (.returned (I6 76)) w6)
 (∃ x6, w6.cell? (ad_ g2 2) = some (I6 x6) ∧ Br (decide ((4294967296 : Int) ≤ x6)) (R (.returned (I6 76)) w6) (∃ x7, w6.cell? (ad_ g2 3) = some (I6 x7) ∧ Br (decide (x7 < 0)) (R (.returned (I6 76)) w6) (∃ x8, w6.cell? (ad_ g2 3) = some (I6 x8) ∧ Br (decide (Int.tmod x8 8 ≠ 0))
 (R (.returned (I6 76)) w6) (∃ x9, w6.cell? (ad_ g2 3) = some (I6 x9) ∧ Br (decide ((65528 : Int) < x9)) (R (.returned (I6 76)) w6) (FragV.ex fun h3 => CA_ w6 g2 h3.cells ∧ ∃ xA xn xc, w6.cell? (ad_ g1 43) = some (.slice xA xn xc) ∧
 Calls Tryz.prog 127 #[h3.val, I6 (xn : Int)] w6 (onRet (fun r_1 w7 => ∃ x10, r_1 = .bool x10 ∧ Br (!x10) (R (.returned (I6 76)) w7) (R (.returned (I6 0)) w7)) (pn_ R)))))))))
def ip6_fragged_J28 (R : EWP) (g1 g2 : Nat) (t6_ : Bool) (w4 : World) : Prop := Br t6_ (R (.returned (I6 76)) w4) (JoinVC (S := Bool) (fun J115 => ∃ x1, w4.cell? (ad_ g2 0) = some (.bool x1) ∧ Br (!x1) (∃ x2, w4.cell? (ad_ g1 42) = some (I6 x2) ∧
 Calls Tryz.prog 126 #[I6 x2] w4 (onRet (fun r_ w5 => ∃ x3, r_ = I6 x3 ∧ J115 (decide (x3 ≠ 0)) w5) (pn_ R))) (J115 false w4)) (fun s_ w6 => ip6_fragged_J115 R g1 g2 s_ w6))
def ip6_fragged_VC (h : Ip6V) (w : World) (R : EWP) : Prop := NewVC w (.cells h.cells.toArray 37) fun g1 w1 => FragV.ex fun h1 => CellsAt w1 ⟨g1, 38, none⟩ 0 h1.cells ∧ NewVC w1 (.cells (FragV.z : FragV).cells.toArray 35) fun g2 w2 => St_ g2 h1.cells w2 fun w3 => JoinVC (S := Bool) (fun J28 =>
 ∃ x, w3.cell? (ad_ g2 0) = some (.bool x) ∧ Br (!x) (FragV.ex fun h2 => CA_ w3 g2 h2.cells ∧ J28 (!((FragV.beq h2 (FragV.z : FragV)))) w3) (J28 false w3)) (fun s_ w4 => ip6_fragged_J28 R g1 g2 s_ w4)
def ip6_fragged_H : Hints := [(28, [(6, .bool)]), (115, [(15, .bool)])]
theorem ip6_fragged_of (h : Ip6V) (w : World) (R : EWP) (h_ : ip6_fragged_VC h w R) : Calls Tryz.prog 109 #[h.val] w R := calls_of_wpc callOk mixedOk (H := ip6_fragged_H) (c := bodyOf Tryz.f109) Tryz.func109 rfl (nb_ rfl) (Eq.mp (by kernel_rfl) h_)
def ip6_sized_J3 (R : EWP) (g1 : Nat) (v6 : Bool) (w4 : World) : Prop := Br (!v6) (R (.returned (I6 78)) w4) (∃ x4, w4.cell? (ad_ g1 0) = some (I6 x4) ∧ Br (decide (x4 < 0)) (R (.returned (I6 78)) w4) (∃ x5, w4.cell? (ad_ g1 0) = some (I6 x5) ∧ Br (decide ((255 : Int) < x5))
 (R (.returned (I6 78)) w4) (∃ x6, w4.cell? (ad_ g1 1) = some (I6 x6) ∧ Br (decide (x6 < 0)) (R (.returned (I6 78)) w4) (∃ x7, w4.cell? (ad_ g1 1) = some (I6 x7) ∧ Br (decide ((1048576 : Int) ≤ x7)) (R (.returned (I6 78)) w4) (∃ x8, w4.cell? (ad_ g1 2) = some (I6 x8) ∧ Br (decide (x8 < 0))
 (R (.returned (I6 78)) w4) (∃ x9, w4.cell? (ad_ g1 2) = some (I6 x9) ∧ Br (decide ((255 : Int) < x9)) (R (.returned (I6 78)) w4) (∃ x10, w4.cell? (ad_ g1 42) = some (I6 x10) ∧ Br (decide (x10 < 0)) (R (.returned (I6 78)) w4) (∃ x11, w4.cell? (ad_ g1 42) = some (I6 x11) ∧
 Br (decide ((255 : Int) < x11)) (R (.returned (I6 78)) w4) (R (.returned (I6 0)) w4)))))))))
def ip6_sized_VC (h : Ip6V) (w : World) (R : EWP) : Prop := NewVC w (.cells h.cells.toArray 37) fun g1 w1 => JoinVC (S := Bool) (fun J3 => ∃ x, w1.cell? (ad_ g1 3) = some (I6 x) ∧ Br (decide (x = 6)) (∃ x1, w1.cell? (ad_ g1 20) = some (I6 x1) ∧ Br (decide (x1 = 6))
 (IPV.ex fun h1 => CellsAt w1 ⟨g1, 3, none⟩ 0 h1.cells ∧ Calls Tryz.prog 78 #[h1.val] w1 (onRet (fun r_ w2 => ∃ x2, r_ = .bool x2 ∧ Br x2 (IPV.ex fun h2 => CellsAt w2 ⟨g1, 20, none⟩ 0 h2.cells ∧ Calls Tryz.prog 78 #[h2.val] w2 (onRet (fun r_1 w3 => ∃ x3, r_1 = .bool x3 ∧ J3 x3 w3) (pn_ R)))
 (J3 false w2)) (pn_ R))) (J3 false w1)) (J3 false w1)) (fun s_ w4 => ip6_sized_J3 R g1 s_ w4)
def ip6_sized_H : Hints := [(3, [(3, .bool)])]
theorem ip6_sized_of (h : Ip6V) (w : World) (R : EWP) (h_ : ip6_sized_VC h w R) : Calls Tryz.prog 107 #[h.val] w R := calls_of_wpc callOk mixedOk (H := ip6_sized_H) (c := bodyOf Tryz.f107) Tryz.func107 rfl (nb_ rfl) (Eq.mp (by kernel_rfl) h_)
def ip6_made_J8181 (R : EWP) (g1 : Nat) (x0A : Option Addr) (x0n x0c : Nat) (J511 : ((Option Addr × Nat × Nat) → World → Prop)) (more : Int) (w8 : World) : Prop := NewVC w8 (.cells #[I6 8, I6 8, I6 13, I6 2, I6 1, I6 32] 3) fun g2 w9 => ∃ x8, w9.cell? (ad_ g1 42) = some (I6 x8) ∧
 ∃ x9, w9.cell? (ad_ g1 41) = some (I6 x9) ∧ ∃ x10, w9.cell? (ad_ g1 40) = some (I6 x10) ∧ NewVC w9 (.cells #[I6 x8, I6 0, I6 (IntKind.i64.wrap (Int.tdiv x9 8)), I6 0, I6 more, I6 x10] 3) fun g3 w10 =>
 Calls Tryz.prog 41 #[.slice (sa_ g2) 6 6, .slice (sa_ g3) 6 6] w10 (onRet (fun r_3 w11 => ∃ x0A1 x0n1 x0c1 x12, r_3 = .tuple #[.slice x0A1 x0n1 x0c1, I6 x12] ∧ AppVC Tryz.prog #[25, 25] 25 (.slice x0A x0n x0c) (.slice x0A1 x0n1 x0c1) w11 fun lA ln lc w12 => J511 (lA, ln, lc) w12) (pn_ R))
def ip6_made_J511 (R : EWP) (g1 : Nat) (first1 : Int) (extsA : Option Addr) (extsn extsc : Nat) (w13 : World) : Prop := ∃ xA3 xn3 xc3, w13.cell? (ad_ g1 43) = some (.slice xA3 xn3 xc3) ∧ Br (decide ((65535 : Int) < IntKind.i64.wrap (40 + IntKind.i64.wrap ((extsn : Int) + (xn3 : Int)))))
 (R (.returned (.tuple #[.slice none 0 0, I6 2])) w13) (NewVC w13 (.cells #[I6 4, I6 8, I6 20, I6 16, I6 8, I6 8] 3) fun g4 w14 => ∃ x13, w14.cell? (ad_ g1 0) = some (I6 x13) ∧ ∃ x14, w14.cell? (ad_ g1 1) = some (I6 x14) ∧ ∃ x15, w14.cell? (ad_ g1 2) = some (I6 x15) ∧
 NewVC w14 (.cells #[I6 6, I6 x13, I6 x14, I6 (IntKind.i64.wrap ((extsn : Int) + (xn3 : Int))), I6 first1, I6 x15] 3) fun g5 w15 => Calls Tryz.prog 41 #[.slice (sa_ g4) 6 6, .slice (sa_ g5) 6 6] w15 (onRet (fun r_4 w16 => ∃ x0A2 x0n2 x0c2 x16, r_4 = .tuple #[.slice x0A2 x0n2 x0c2, I6 x16] ∧
 DrawVC w16 fun S2 w17 => SliceVC (some ⟨g1, 4, none⟩) 16 16 1 none none none fun sA sn sc => SliceVC (some ⟨g1, 21, none⟩) 16 16 1 none none none fun sA1 sn1 sc1 => ∃ xA4 xn4 xc4, (∀ w' : World, S2 w' → w'.cell? ⟨g1, 43, none⟩ = some (.slice xA4 xn4 xc4)) ∧
 NewVC w17 (.cells #[.slice x0A2 x0n2 x0c2, .slice sA sn sc, .slice sA1 sn1 sc1, .slice extsA extsn extsc, .slice xA4 xn4 xc4] 25) fun g6 w18 => S2 w18 ∧ Calls Tryz.prog 110 #[.slice (sa_ g6) 5 5, .slice none 0 0] w18 (onRet (fun r_5 w19 => ∃ xA5 xn5 xc5, r_5 = .slice xA5 xn5 xc5 ∧ S2 w19 ∧
 R (.returned (.tuple #[.slice xA5 xn5 xc5, I6 0])) w19) (fun _ _ => False))) (pn_ R)))
def ip6_made_J31 (R : EWP) (g1 : Nat) (next first1 : Int) (w5 : World) : Prop := ∃ xA2 xn2 xc2, w5.cell? (ad_ g1 37) = some (.slice xA2 xn2 xc2) ∧ Calls Tryz.prog 108 #[.slice xA2 xn2 xc2, I6 next, .bool false] w5 (onRet (fun r_1 w6 => ∃ x0A x0n x0c x11, r_1 = .tuple #[.slice x0A x0n x0c, I6 x11] ∧
 Br (decide (x11 ≠ 0)) (R (.returned (.tuple #[.slice none 0 0, I6 x11])) w6) (Ip6V.ex fun h2 => CA_ w6 g1 h2.cells ∧ Calls Tryz.prog 109 #[h2.val] w6 (onRet (fun r_2 w7 => ∃ x5, r_2 = I6 x5 ∧ Br (decide (x5 ≠ 0)) (R (.returned (.tuple #[.slice none 0 0, I6 x5])) w7)
 (JoinVC (S := (Option Addr × Nat × Nat)) (fun J511 => ∃ x6, w7.cell? (ad_ g1 38) = some (.bool x6) ∧ Br x6 (JoinVC (S := Int) (fun J8181 => ∃ x7, w7.cell? (ad_ g1 39) = some (.bool x7) ∧ Br x7 (J8181 1 w7) (J8181 0 w7)) (fun s_ w8 => ip6_made_J8181 R g1 x0A x0n x0c J511 s_ w8))
 (J511 (x0A, x0n, x0c) w7)) (fun s_ w13 => ip6_made_J511 R g1 first1 s_.1 s_.2.1 s_.2.2 w13))) (pn_ R)))) (pn_ R))
def ip6_made_J15 (R : EWP) (g1 : Nat) (first next : Int) (w4 : World) : Prop := JoinVC (S := Int) (fun J31 => ∃ xA xn xc, w4.cell? (ad_ g1 37) = some (.slice xA xn xc) ∧ Br (decide ((0 : Int) < (xn : Int))) (∃ xA1 xn1 xc1, w4.cell? (ad_ g1 37) = some (.slice xA1 xn1 xc1) ∧
 IdxVC xA1 xn1 3 0 fun a => ∃ x4, w4.cell? a = some (I6 x4) ∧ J31 x4 w4) (J31 first w4)) (fun s_ w5 => ip6_made_J31 R g1 next s_ w5)
def ip6_made_VC (h : Ip6V) (w : World) (R : EWP) : Prop := NewVC w (.cells h.cells.toArray 37) fun g1 w1 => Ip6V.ex fun h1 => CA_ w1 g1 h1.cells ∧ Calls Tryz.prog 107 #[h1.val] w1 (onRet (fun r_ w2 => ∃ x, r_ = I6 x ∧ Br (decide (x ≠ 0)) (R (.returned (.tuple #[.slice none 0 0, I6 x])) w2)
 (DrawVC w2 fun S1 w3 => ∃ x1, (∀ w' : World, S1 w' → w'.cell? ⟨g1, 42, none⟩ = some (I6 x1)) ∧ ∃ x2, (∀ w' : World, S1 w' → w'.cell? ⟨g1, 42, none⟩ = some (I6 x2)) ∧ JoinVC (S := Int × Int) (fun J15 => ∃ x3, w3.cell? (ad_ g1 38) = some (.bool x3) ∧ Br x3 (J15 (44, 44) w3) (J15 (x1, x2) w3))
 (fun s_ w4 => ip6_made_J15 R g1 s_.1 s_.2 w4))) (pn_ R))
def ip6_made_H : Hints := [(15, [(5, .int .i64), (6, .int .i64)]), (31, [(5, .int .i64)]), (8181, [(10, .int .i64)]), (511, [(7, .slice)])]
theorem ip6_made_of (h : Ip6V) (w : World) (R : EWP) (h_ : ip6_made_VC h w R) : Calls Tryz.prog 80 #[h.val] w R := calls_of_wpc callOk mixedOk (H := ip6_made_H) (c := bodyOf Tryz.f80) Tryz.func80 rfl (nb_ rfl) (Eq.mp (by kernel_rfl) h_)
def ip6_Serialise_VC (h : Ip6V) (w : World) (R : EWP) : Prop := NewVC w (.cells h.cells.toArray 37) fun g1 w1 => Ip6V.ex fun h1 => CA_ w1 g1 h1.cells ∧ Calls Tryz.prog 80 #[h1.val] w1 (onRet (fun r_ w2 => ∃ x0A x0n x0c x1, r_ = .tuple #[.slice x0A x0n x0c, I6 x1] ∧
 R (.returned (.tuple #[.slice x0A x0n x0c, I6 x1])) w2) (pn_ R))
def ip6_Serialise_H : Hints := []
theorem ip6_Serialise_of (h : Ip6V) (w : World) (R : EWP) (h_ : ip6_Serialise_VC h w R) : Calls Tryz.prog 49 #[h.val] w R := calls_of_wpc callOk mixedOk (H := ip6_Serialise_H) (c := bodyOf Tryz.f49) Tryz.func49 rfl (nb_ rfl) (Eq.mp (by kernel_rfl) h_)
def bytes_Join_L4090 (R : EWP) (sepA : Option Addr) (sepn sepc : Nat) (sA1 : Option Addr) (sn1 sc1 : Nat) (sA2 : Option Addr) (sn2 : Nat) (bp t72_ : Int) (w7 : World) (K4090 : (Int × Int → World → Prop)) : Prop := Br (decide (t72_ < (sn2 : Int))) (IdxVC sA2 sn2 1 t72_ fun a3 =>
 ∃ xA3 xn3 xc3, w7.cell? a3 = some (.slice xA3 xn3 xc3) ∧ SliceVC sA1 sn1 sc1 1 (some bp) none none fun sA3 sn3 sc3 => CopyVC Tryz.prog #[25, 25] 3 (.slice sA3 sn3 sc3) (.slice sepA sepn sepc) w7 fun m1 w8 => SliceVC sA1 sn1 sc1 1 (some (IntKind.i64.wrap (bp + m1))) none none fun sA4 sn4 sc4 =>
 CopyVC Tryz.prog #[25, 25] 3 (.slice sA4 sn4 sc4) (.slice xA3 xn3 xc3) w8 fun m2 w9 => K4090 (IntKind.i64.wrap (IntKind.i64.wrap (bp + m1) + m2), IntKind.i64.wrap (t72_ + 1)) w9) (R (.returned (.slice sA1 sn1 sc1)) w7)
def bytes_Join_L506 (R : EWP) (sA : Option Addr) (sn sc : Nat) (sepA : Option Addr) (sepn sepc : Nat) (n1 t44_ : Int) (w4 : World) (K506 : (Int × Int → World → Prop)) : Prop := Br (decide (t44_ < (sn : Int))) (IdxVC sA sn 1 t44_ fun a1 => ∃ xA1 xn1 xc1, w4.cell? a1 = some (.slice xA1 xn1 xc1) ∧
 Br (decide (IntKind.i64.wrap (9223372036854775807 - n1) < (xn1 : Int)))
 (R (.panicked [{ v := .iface 9 (.string ⟨#[98, 121, 116, 101, 115, 58, 32, 74, 111, 105, 110, 32, 111, 117, 116, 112, 117, 116, 32, 108, 101, 110, 103, 116, 104, 32, 111, 118, 101, 114, 102, 108, 111, 119]⟩), recovered := false }]) w4)
 (K506 (IntKind.i64.wrap (n1 + (xn1 : Int)), IntKind.i64.wrap (t44_ + 1)) w4)) (NoZeroVC w4 5 n1 fun g2 nzc w5 => SliceVC (sa_ g2) n1.toNat nzc 1 none (some n1) (some n1) fun sA1 sn1 sc1 => IdxVC sA sn 1 0 fun a2 => ∃ xA2 xn2 xc2, w5.cell? a2 = some (.slice xA2 xn2 xc2) ∧
 CopyVC Tryz.prog #[25, 25] 3 (.slice sA1 sn1 sc1) (.slice xA2 xn2 xc2) w5 fun m w6 => SliceVC sA sn sc 1 (some 1) none none fun sA2 sn2 _sc2 => LoopVC (S := Int × Int) (fun s_ w7 K4090 => bytes_Join_L4090 R sepA sepn sepc sA1 sn1 sc1 sA2 sn2 s_.1 s_.2 w7 K4090) (m, 0) w6)
def bytes_Join_J31 (R : EWP) (sA : Option Addr) (sn sc : Nat) (sepA : Option Addr) (sepn sepc : Nat) (n : Int) (w3 : World) : Prop := LoopVC (S := Int × Int) (fun s_ w4 K506 => bytes_Join_L506 R sA sn sc sepA sepn sepc s_.1 s_.2 w4 K506) (n, 0) w3
def bytes_Join_VC (sA : Option Addr) (sn sc : Nat) (sepA : Option Addr) (sepn sepc : Nat) (w : World) (R : EWP) : Prop := Br (decide ((sn : Int) = 0)) (NewVC w (.cells #[] 5) fun g1 w1 => R (.returned (.slice (sa_ g1) 0 0)) w1) (Br (decide ((sn : Int) = 1)) (IdxVC sA sn 1 0 fun a =>
 ∃ xA xn xc, w.cell? a = some (.slice xA xn xc) ∧ AppVC Tryz.prog #[25, 25] 25 (.slice none 0 0) (.slice xA xn xc) w fun lA ln lc w2 => R (.returned (.slice lA ln lc)) w2) (JoinVC (S := Int) (fun J31 => Br (decide ((0 : Int) < (sepn : Int))) (DivVC (IntKind.i64.wrap ((sn : Int) - 1)) (
 Br (decide (IntKind.i64.wrap (Int.tdiv 9223372036854775807 (IntKind.i64.wrap ((sn : Int) - 1))) ≤ (sepn : Int)))
 (R (.panicked [{ v := .iface 9 (.string ⟨#[98, 121, 116, 101, 115, 58, 32, 74, 111, 105, 110, 32, 111, 117, 116, 112, 117, 116, 32, 108, 101, 110, 103, 116, 104, 32, 111, 118, 101, 114, 102, 108, 111, 119]⟩), recovered := false }]) w)
 (J31 (IntKind.i64.wrap (0 + IntKind.i64.wrap ((sepn : Int) * IntKind.i64.wrap ((sn : Int) - 1)))) w))) (J31 0 w)) (fun s_ w3 => bytes_Join_J31 R sA sn sc sepA sepn sepc s_ w3)))
def bytes_Join_H : Hints := [(31, [(5, .int .i64)]), (506, [(5, .int .i64), (44, .int .i64)]), (4090, [(9, .int .i64), (72, .int .i64)])]
theorem bytes_Join_of (sA : Option Addr) (sn sc : Nat) (sepA : Option Addr) (sepn sepc : Nat) (w : World) (R : EWP) (h_ : bytes_Join_VC sA sn sc sepA sepn sepc w R) : Calls Tryz.prog 110 #[.slice sA sn sc, .slice sepA sepn sepc] w R :=
 calls_of_wpc callOk mixedOk (H := bytes_Join_H) (c := bodyOf Tryz.f110) Tryz.func110 rfl (nb_ rfl) (Eq.mp (by kernel_rfl) h_)
def weirref7_Serialise_L1018 (R : EWP) (g1 : Nat) (x0A : Option Addr) (x0n x0c : Nat) (headA1 : Option Addr) (headn1 headc1 : Nat) (i1 : Int) (w17 : World) (K1018 : ((Option Addr × Nat × Nat) × Int → World → Prop)) : Prop := Br (decide (i1 < 16)) (IdxVC (some ⟨g1, 21, none⟩) 16 1 i1 fun a1 =>
 ∃ x17, w17.cell? a1 = some (U8 x17) ∧ NewVC w17 (.cells #[U8 x17] 5) fun g5 w18 => AppVC Tryz.prog #[25, 25] 25 (.slice headA1 headn1 headc1) (.slice (sa_ g5) 1 1) w18 fun lA1 ln1 lc1 w19 => K1018 ((lA1, ln1, lc1), IntKind.i64.wrap (i1 + 1)) w19)
 (AppVC Tryz.prog #[25, 25] 25 (.slice headA1 headn1 headc1) (.slice x0A x0n x0c) w17 fun lA2 ln2 lc2 w20 => R (.returned (.tuple #[.slice lA2 ln2 lc2, I6 0])) w20)
def weirref7_Serialise_L506 (R : EWP) (g1 : Nat) (x0A : Option Addr) (x0n x0c : Nat) (headA : Option Addr) (headn headc : Nat) (i : Int) (w14 : World) (K506 : ((Option Addr × Nat × Nat) × Int → World → Prop)) : Prop := Br (decide (i < 16)) (IdxVC (some ⟨g1, 4, none⟩) 16 1 i fun a =>
 ∃ x16, w14.cell? a = some (U8 x16) ∧ NewVC w14 (.cells #[U8 x16] 5) fun g4 w15 => AppVC Tryz.prog #[25, 25] 25 (.slice headA headn headc) (.slice (sa_ g4) 1 1) w15 fun lA ln lc w16 => K506 ((lA, ln, lc), IntKind.i64.wrap (i + 1)) w16)
 (LoopVC (S := (Option Addr × Nat × Nat) × Int) (fun s_ w17 K1018 => weirref7_Serialise_L1018 R g1 x0A x0n x0c s_.1.1 s_.1.2.1 s_.1.2.2 s_.2 w17 K1018) ((headA, headn, headc), 0) w14)
def weirref7_Serialise_D62 (R : EWP) (g1 : Nat) (x0A : Option Addr) (x0n x0c : Nat) (x0A1 : Option Addr) (x0n1 x0c1 : Nat) (w13 : World) : Prop :=
 LoopVC (S := (Option Addr × Nat × Nat) × Int) (fun s_ w14 K506 => weirref7_Serialise_L506 R g1 x0A x0n x0c s_.1.1 s_.1.2.1 s_.1.2.2 s_.2 w14 K506) ((x0A1, x0n1, x0c1), 0) w13
def weirref7_Serialise_VC (h : Ip6V) (w : World) (R : EWP) : Prop := NewVC w (.cells h.cells.toArray 37) fun g1 w1 => ∃ x, w1.cell? (ad_ g1 0) = some (I6 x) ∧ Calls Tryz.prog 67 #[I6 x, I6 255] w1 (onRet (fun r_ w2 => ∃ x1, r_ = .bool x1 ∧ Br x1 (R (.returned (.tuple #[.slice none 0 0, I6 78])) w2)
 (∃ x2, w2.cell? (ad_ g1 1) = some (I6 x2) ∧ Calls Tryz.prog 67 #[I6 x2, I6 1048575] w2 (onRet (fun r_1 w3 => ∃ x3, r_1 = .bool x3 ∧ Br x3 (R (.returned (.tuple #[.slice none 0 0, I6 78])) w3) (∃ x4, w3.cell? (ad_ g1 2) = some (I6 x4) ∧
 Calls Tryz.prog 67 #[I6 x4, I6 255] w3 (onRet (fun r_2 w4 => ∃ x5, r_2 = .bool x5 ∧ Br x5 (R (.returned (.tuple #[.slice none 0 0, I6 78])) w4) (IPV.ex fun h1 => CellsAt w4 ⟨g1, 3, none⟩ 0 h1.cells ∧ Calls Tryz.prog 68 #[h1.val] w4 (onRet (fun r_3 w5 => ∃ x6, r_3 = .bool x6 ∧ Br (!x6)
 (R (.returned (.tuple #[.slice none 0 0, I6 78])) w5) (IPV.ex fun h2 => CellsAt w5 ⟨g1, 20, none⟩ 0 h2.cells ∧ Calls Tryz.prog 68 #[h2.val] w5 (onRet (fun r_4 w6 => ∃ x7, r_4 = .bool x7 ∧ Br (!x7) (R (.returned (.tuple #[.slice none 0 0, I6 78])) w6) (∃ x8, w6.cell? (ad_ g1 42) = some (I6 x8) ∧
 Calls Tryz.prog 67 #[I6 x8, I6 255] w6 (onRet (fun r_5 w7 => ∃ x9, r_5 = .bool x9 ∧ Br x9 (R (.returned (.tuple #[.slice none 0 0, I6 78])) w7) (Ip6V.ex fun h3 => CA_ w7 g1 h3.cells ∧
 Calls Tryz.prog 69 #[h3.val] w7 (onRet (fun r_6 w8 => ∃ x0A x0n x0c x11, r_6 = .tuple #[.slice x0A x0n x0c, I6 x11] ∧ Br (decide (x11 ≠ 0)) (R (.returned (.tuple #[.slice none 0 0, I6 x11])) w8) (DrawVC w8 fun S1 w9 => ∃ x10, (∀ w' : World, S1 w' → w'.cell? ⟨g1, 0, none⟩ = some (I6 x10)) ∧
 ∃ x12, (∀ w' : World, S1 w' → w'.cell? ⟨g1, 1, none⟩ = some (I6 x12)) ∧ Ip6V.ex fun h4 => (∀ w' : World, S1 w' → CellsAt w' ⟨g1, 0, none⟩ 0 h4.cells) ∧ ∃ x13, (∀ w' : World, S1 w' → w'.cell? ⟨g1, 2, none⟩ = some (I6 x13)) ∧ (NewVC w9 (.cells #[I6 4, I6 8, I6 20, I6 16, I6 8, I6 8] 3) fun g2 w10 =>
 S1 w10 ∧ Calls Tryz.prog 71 #[h4.val] w10 (onRet (fun r_7 w11 => ∃ x14, r_7 = I6 x14 ∧ S1 w11 ∧ NewVC w11 (.cells #[I6 6, I6 x10, I6 x12, I6 (x0n : Int), I6 x14, I6 x13] 3) fun g3 w12 => S1 w12 ∧
 Calls Tryz.prog 70 #[.slice (sa_ g2) 6 6, .slice (sa_ g3) 6 6] w12 (onRet (fun r_8 w13 => ∃ x0A1 x0n1 x0c1 x15, r_8 = .tuple #[.slice x0A1 x0n1 x0c1, I6 x15] ∧ S1 w13 ∧ weirref7_Serialise_D62 R g1 x0A x0n x0c x0A1 x0n1 x0c1 w13) (fun _ _ => False))) (fun _ _ => False))) ∧
 (Calls Tryz.prog 71 #[h4.val] w9 (onRet (fun r_9 w21 => ∃ x18, r_9 = I6 x18 ∧ S1 w21 ∧ (NewVC w21 (.cells #[I6 4, I6 8, I6 20, I6 16, I6 8, I6 8] 3) fun g6 w22 => S1 w22 ∧ NewVC w22 (.cells #[I6 6, I6 x10, I6 x12, I6 (x0n : Int), I6 x18, I6 x13] 3) fun g7 w23 => S1 w23 ∧
 Calls Tryz.prog 70 #[.slice (sa_ g6) 6 6, .slice (sa_ g7) 6 6] w23 (onRet (fun r_10 w24 => ∃ x0A2 x0n2 x0c2 x19, r_10 = .tuple #[.slice x0A2 x0n2 x0c2, I6 x19] ∧ S1 w24 ∧ weirref7_Serialise_D62 R g1 x0A x0n x0c x0A2 x0n2 x0c2 w24) (fun _ _ => False))) ∧
 (NewVC w21 (.cells #[I6 6, I6 x10, I6 x12, I6 (x0n : Int), I6 x18, I6 x13] 3) fun g10 w32 => S1 w32 ∧ NewVC w32 (.cells #[I6 4, I6 8, I6 20, I6 16, I6 8, I6 8] 3) fun g11 w33 => S1 w33 ∧
 Calls Tryz.prog 70 #[.slice (sa_ g11) 6 6, .slice (sa_ g10) 6 6] w33 (onRet (fun r_11 w34 => ∃ x0A3 x0n3 x0c3 x110, r_11 = .tuple #[.slice x0A3 x0n3 x0c3, I6 x110] ∧ S1 w34 ∧ weirref7_Serialise_D62 R g1 x0A x0n x0c x0A3 x0n3 x0c3 w34) (fun _ _ => False)))) (fun _ _ => False))))) (pn_ R))))
 (pn_ R)))) (pn_ R)))) (pn_ R)))) (pn_ R)))) (pn_ R)))) (pn_ R))
def weirref7_Serialise_H : Hints := [(506, [(6, .slice), (8, .int .i64)]), (1018, [(6, .slice), (9, .int .i64)])]
theorem weirref7_Serialise_of (h : Ip6V) (w : World) (R : EWP) (h_ : weirref7_Serialise_VC h w R) : Calls Tryz.prog 37 #[h.val] w R := calls_of_wpc callOk mixedOk (H := weirref7_Serialise_H) (c := bodyOf Tryz.f37) Tryz.func37 rfl (nb_ rfl)
 (Eq.mp (by kernel_rfl) h_)
def weirref7_body_J1013 (R : EWP) (g1 : Nat) (x0A : Option Addr) (x0n x0c : Nat) (J63 : ((Option Addr × Nat × Nat) → World → Prop)) (low : Int) (w6 : World) : Prop := ∃ x6, w6.cell? (ad_ g1 40) = some (I6 x6) ∧
 Calls Tryz.prog 98 #[I6 4, .int .u64 (IntKind.u64.wrap x6)] w6 (onRet (fun r_3 w7 => ∃ x0A1 x0n1 x0c1 x11, r_3 = .tuple #[.slice x0A1 x0n1 x0c1, I6 x11] ∧ ∃ x7, w7.cell? (ad_ g1 42) = some (I6 x7) ∧
 NewVC w7 (.cells #[U8 (IntKind.u8.wrap x7), U8 0, U8 (IntKind.u8.wrap (IntKind.i64.wrap (Int.tdiv low 256))), U8 (IntKind.u8.wrap (Int.tmod low 256))] 5) fun g2 w8 => AppVC Tryz.prog #[25, 25] 25 (.slice x0A x0n x0c) (.slice (sa_ g2) 4 4) w8 fun lA ln lc w9 =>
 AppVC Tryz.prog #[25, 25] 25 (.slice lA ln lc) (.slice x0A1 x0n1 x0c1) w9 fun lA1 ln1 lc1 w10 => J63 (lA1, ln1, lc1) w10) (pn_ R))
def weirref7_body_J63 (R : EWP) (g1 : Nat) (bA : Option Addr) (bn bc : Nat) (w11 : World) : Prop := ∃ xA1 xn1 xc1, w11.cell? (ad_ g1 43) = some (.slice xA1 xn1 xc1) ∧ AppVC Tryz.prog #[25, 25] 25 (.slice bA bn bc) (.slice xA1 xn1 xc1) w11 fun lA2 ln2 lc2 w12 =>
 Br (decide ((65535 : Int) < IntKind.i64.wrap (40 + (ln2 : Int)))) (R (.returned (.tuple #[.slice none 0 0, I6 2])) w12) (R (.returned (.tuple #[.slice lA2 ln2 lc2, I6 0])) w12)
def weirref7_body_VC (h : Ip6V) (w : World) (R : EWP) : Prop := NewVC w (.cells h.cells.toArray 37) fun g1 w1 => DrawVC w1 fun S1 w2 => ∃ xA xn xc, (∀ w' : World, S1 w' → w'.cell? ⟨g1, 37, none⟩ = some (.slice xA xn xc)) ∧
 Ip6V.ex fun h1 => (∀ w' : World, S1 w' → CellsAt w' ⟨g1, 0, none⟩ 0 h1.cells) ∧ Calls Tryz.prog 96 #[h1.val] w2 (onRet (fun r_ w3 => ∃ x, r_ = I6 x ∧ S1 w3 ∧
 Calls Tryz.prog 95 #[.slice xA xn xc, I6 x, .bool true] w3 (onRet (fun r_1 w4 => ∃ x0A x0n x0c x1, r_1 = .tuple #[.slice x0A x0n x0c, I6 x1] ∧ S1 w4 ∧ Br (decide (x1 ≠ 0)) (R (.returned (.tuple #[.slice none 0 0, I6 x1])) w4) (Ip6V.ex fun h2 => CA_ w4 g1 h2.cells ∧
 Calls Tryz.prog 97 #[h2.val] w4 (onRet (fun r_2 w5 => ∃ x2, r_2 = I6 x2 ∧ Br (decide (x2 ≠ 0)) (R (.returned (.tuple #[.slice none 0 0, I6 x2])) w5) (JoinVC (S := (Option Addr × Nat × Nat)) (fun J63 => ∃ x3, w5.cell? (ad_ g1 38) = some (.bool x3) ∧ Br x3
 (∃ x4, w5.cell? (ad_ g1 41) = some (I6 x4) ∧ JoinVC (S := Int) (fun J1013 => ∃ x5, w5.cell? (ad_ g1 39) = some (.bool x5) ∧ Br x5 (J1013 (IntKind.i64.wrap (x4 + 1)) w5) (J1013 x4 w5)) (fun s_ w6 => weirref7_body_J1013 R g1 x0A x0n x0c J63 s_ w6)) (J63 (x0A, x0n, x0c) w5))
 (fun s_ w11 => weirref7_body_J63 R g1 s_.1 s_.2.1 s_.2.2 w11))) (pn_ R)))) (fun _ _ => False))) (fun _ _ => False))
def weirref7_body_H : Hints := [(1013, [(6, .int .i64)]), (63, [(4, .slice)])]
theorem weirref7_body_of (h : Ip6V) (w : World) (R : EWP) (h_ : weirref7_body_VC h w R) : Calls Tryz.prog 69 #[h.val] w R := calls_of_wpc callOk mixedOk (H := weirref7_body_H) (c := bodyOf Tryz.f69) Tryz.func69 rfl (nb_ rfl) (Eq.mp (by kernel_rfl) h_)
def weirref7_first_VC (h : Ip6V) (w : World) (R : EWP) : Prop := NewVC w (.cells h.cells.toArray 37) fun g1 w1 => ∃ xA xn xc, w1.cell? (ad_ g1 37) = some (.slice xA xn xc) ∧ Br (decide ((0 : Int) < (xn : Int))) (∃ xA1 xn1 xc1, w1.cell? (ad_ g1 37) = some (.slice xA1 xn1 xc1) ∧
 IdxVC xA1 xn1 3 0 fun a => ∃ x, w1.cell? a = some (I6 x) ∧ R (.returned (I6 x)) w1) (Ip6V.ex fun h1 => CA_ w1 g1 h1.cells ∧ Calls Tryz.prog 96 #[h1.val] w1 (onRet (fun r_ w2 => ∃ x1, r_ = I6 x1 ∧ R (.returned (I6 x1)) w2) (pn_ R)))
def weirref7_first_H : Hints := []
theorem weirref7_first_of (h : Ip6V) (w : World) (R : EWP) (h_ : weirref7_first_VC h w R) : Calls Tryz.prog 71 #[h.val] w R := calls_of_wpc callOk mixedOk (H := weirref7_first_H) (c := bodyOf Tryz.f71) Tryz.func71 rfl (nb_ rfl) (Eq.mp (by kernel_rfl) h_)
def weirref7_out_VC (n hi : Int) (w : World) (R : EWP) : Prop := Br (decide (n < 0)) (R (.returned (.bool true)) w) (R (.returned (.bool (decide (hi < n)))) w)
def weirref7_out_H : Hints := []
theorem weirref7_out_of (n hi : Int) (w : World) (R : EWP) (h_ : weirref7_out_VC n hi w R) : Calls Tryz.prog 67 #[I6 n, I6 hi] w R := calls_of_wpc callOk mixedOk (H := weirref7_out_H) (c := bodyOf Tryz.f67) Tryz.func67 rfl (nb_ rfl)
 (Eq.mp (by kernel_rfl) h_)
def weirref7_six_VC (ip : IPV) (w : World) (R : EWP) : Prop := NewVC w (.cells ip.cells.toArray 24) fun g1 w1 => ∃ x, w1.cell? (ad_ g1 0) = some (I6 x) ∧ R (.returned (.bool (decide (x = 6)))) w1
def weirref7_six_H : Hints := []
theorem weirref7_six_of (ip : IPV) (w : World) (R : EWP) (h_ : weirref7_six_VC ip w R) : Calls Tryz.prog 68 #[ip.val] w R := calls_of_wpc callOk mixedOk (H := weirref7_six_H) (c := bodyOf Tryz.f68) Tryz.func68 rfl (nb_ rfl) (Eq.mp (by kernel_rfl) h_)
def weirref7_headers_J15655 (outA : Option Addr) (outn outc : Nat) (i : Int) (K122 : ((Option Addr × Nat × Nat) × Int → World → Prop)) (bA : Option Addr) (bn bc : Nat) (k : Int) (w5 : World) : Prop :=
 NewVC w5 (.cells #[U8 (IntKind.u8.wrap k), U8 (IntKind.u8.wrap (IntKind.i64.wrap (Int.tdiv (bn : Int) 8)))] 5) fun g1 w6 => AppVC Tryz.prog #[25, 25] 25 (.slice outA outn outc) (.slice (sa_ g1) 2 2) w6 fun lA1 ln1 lc1 w7 =>
 AppVC Tryz.prog #[25, 25] 25 (.slice lA1 ln1 lc1) (.slice bA bn bc) w7 fun lA2 ln2 lc2 w8 => K122 ((lA2, ln2, lc2), IntKind.i64.wrap (i + 1)) w8
def weirref7_headers_J1956 (R : EWP) (lA : Option Addr) (ln : Nat) (next : Int) (outA : Option Addr) (outn outc : Nat) (i : Int) (K122 : ((Option Addr × Nat × Nat) × Int → World → Prop)) (bA : Option Addr) (bn bc : Nat) (e_ : Int) (w4 : World) : Prop := Br (decide (e_ ≠ 0))
 (R (.returned (.tuple #[.slice none 0 0, I6 e_])) w4) (JoinVC (S := Int) (fun J15655 => Br (decide (IntKind.i64.wrap (i + 1) < (ln : Int))) (IdxVC lA ln 3 (IntKind.i64.wrap (i + 1)) fun a1 => ∃ x, w4.cell? a1 = some (I6 x) ∧ J15655 x w4) (J15655 next w4))
 (fun s_ w5 => weirref7_headers_J15655 outA outn outc i K122 bA bn bc s_ w5))
def weirref7_headers_L122 (R : EWP) (lA : Option Addr) (ln : Nat) (next : Int) (first : Bool) (outA : Option Addr) (outn outc : Nat) (i : Int) (w1 : World) (K122 : ((Option Addr × Nat × Nat) × Int → World → Prop)) : Prop := Br (decide (i < (ln : Int)))
 (JoinVC (S := (Option Addr × Nat × Nat) × Int) (fun J1956 => IdxVC lA ln 3 i fun a => ExtV.ex fun h => CellsAt w1 a 0 h.cells ∧ Br first (Calls Tryz.prog 122 #[h.val, .bool (decide (i = 0))] w1 (onRet (fun r_ w2 => ∃ x0A x0n x0c x1, r_ = .tuple #[.slice x0A x0n x0c, I6 x1] ∧
 J1956 ((x0A, x0n, x0c), x1) w2) (pn_ R))) (Calls Tryz.prog 122 #[h.val, .bool false] w1 (onRet (fun r_1 w3 => ∃ x0A1 x0n1 x0c1 x11, r_1 = .tuple #[.slice x0A1 x0n1 x0c1, I6 x11] ∧ J1956 ((x0A1, x0n1, x0c1), x11) w3) (pn_ R))))
 (fun s_ w4 => weirref7_headers_J1956 R lA ln next outA outn outc i K122 s_.1.1 s_.1.2.1 s_.1.2.2 s_.2 w4)) (R (.returned (.tuple #[.slice outA outn outc, I6 0])) w1)
def weirref7_headers_VC (lA : Option Addr) (ln _lc : Nat) (next : Int) (first : Bool) (w : World) (R : EWP) : Prop := Br (decide ((8 : Int) < (ln : Int))) (R (.returned (.tuple #[.slice none 0 0, I6 74])) w)
 (LoopVC (S := (Option Addr × Nat × Nat) × Int) (fun s_ w1 K122 => weirref7_headers_L122 R lA ln next first s_.1.1 s_.1.2.1 s_.1.2.2 s_.2 w1 K122) ((none, 0, 0), 0) w)
def weirref7_headers_H : Hints := [(122, [(8, .slice), (9, .int .i64)]), (1956, [(10, .slice), (11, .int .i64)]), (15655, [(12, .int .i64)])]
theorem weirref7_headers_of (lA : Option Addr) (ln lc : Nat) (next : Int) (first : Bool) (w : World) (R : EWP) (h_ : weirref7_headers_VC lA ln lc next first w R) : Calls Tryz.prog 95 #[.slice lA ln lc, I6 next, .bool first] w R :=
 calls_of_wpc callOk mixedOk (H := weirref7_headers_H) (c := bodyOf Tryz.f95) Tryz.func95 rfl (nb_ rfl) (Eq.mp (by kernel_rfl) h_)
def weirref7_behind_VC (h : Ip6V) (w : World) (R : EWP) : Prop := NewVC w (.cells h.cells.toArray 37) fun g1 w1 => ∃ x, w1.cell? (ad_ g1 38) = some (.bool x) ∧ Br x (R (.returned (I6 44)) w1) (∃ x1, w1.cell? (ad_ g1 42) = some (I6 x1) ∧ R (.returned (I6 x1)) w1)
def weirref7_behind_H : Hints := []
theorem weirref7_behind_of (h : Ip6V) (w : World) (R : EWP) (h_ : weirref7_behind_VC h w R) : Calls Tryz.prog 96 #[h.val] w R := calls_of_wpc callOk mixedOk (H := weirref7_behind_H) (c := bodyOf Tryz.f96) Tryz.func96 rfl (nb_ rfl) (Eq.mp (by kernel_rfl) h_)
def weirref7_frag_VC (h : Ip6V) (w : World) (R : EWP) : Prop := NewVC w (.cells h.cells.toArray 37) fun g1 w1 => FragV.ex fun h1 => CellsAt w1 ⟨g1, 38, none⟩ 0 h1.cells ∧ NewVC w1 (.cells (FragV.z : FragV).cells.toArray 35) fun g2 w2 => St_ g2 h1.cells w2 fun w3 =>
 ∃ x, w3.cell? (ad_ g2 0) = some (.bool x) ∧ Br (!x) (∃ x1, w3.cell? (ad_ g2 1) = some (.bool x1) ∧ Br x1 (R (.returned (I6 76)) w3) (∃ x2, w3.cell? (ad_ g2 2) = some (I6 x2) ∧ Br (decide (x2 ≠ 0)) (R (.returned (I6 76)) w3) (∃ x3, w3.cell? (ad_ g2 3) = some (I6 x3) ∧ Br (decide (x3 ≠ 0))
 (R (.returned (I6 76)) w3) (∃ x4, w3.cell? (ad_ g1 42) = some (I6 x4) ∧ Calls Tryz.prog 123 #[I6 x4] w3 (onRet (fun r_ w4 => ∃ x5, r_ = .bool x5 ∧ Br (!x5) (R (.returned (I6 72)) w4) (R (.returned (I6 0)) w4)) (pn_ R)))))) (∃ x6, w3.cell? (ad_ g2 2) = some (I6 x6) ∧
 Calls Tryz.prog 67 #[I6 x6, I6 4294967295] w3 (onRet (fun r_1 w5 => ∃ x7, r_1 = .bool x7 ∧ Br x7 (R (.returned (I6 76)) w5) (∃ x8, w5.cell? (ad_ g2 3) = some (I6 x8) ∧ Calls Tryz.prog 67 #[I6 x8, I6 65528] w5 (onRet (fun r_2 w6 => ∃ x9, r_2 = .bool x9 ∧ Br x9 (R (.returned (I6 76)) w6)
 (∃ x10, w6.cell? (ad_ g2 3) = some (I6 x10) ∧ Br (decide (Int.tmod x10 8 ≠ 0)) (R (.returned (I6 76)) w6) (∃ x11, w6.cell? (ad_ g2 3) = some (I6 x11) ∧ ∃ x12, w6.cell? (ad_ g2 1) = some (.bool x12) ∧ ∃ xA xn xc, w6.cell? (ad_ g1 43) = some (.slice xA xn xc) ∧
 Calls Tryz.prog 124 #[I6 x11, .bool x12, I6 (xn : Int)] w6 (onRet (fun r_3 w7 => ∃ x13, r_3 = .bool x13 ∧ Br (!x13) (R (.returned (I6 76)) w7) (R (.returned (I6 0)) w7)) (pn_ R))))) (pn_ R)))) (pn_ R)))
def weirref7_frag_H : Hints := []
theorem weirref7_frag_of (h : Ip6V) (w : World) (R : EWP) (h_ : weirref7_frag_VC h w R) : Calls Tryz.prog 97 #[h.val] w R := calls_of_wpc callOk mixedOk (H := weirref7_frag_H) (c := bodyOf Tryz.f97) Tryz.func97 rfl (nb_ rfl) (Eq.mp (by kernel_rfl) h_)
def weirref7_header_J7 (R : EWP) (g1 : Nat)  (w3 : World) : Prop := ∃ x5, w3.cell? (ad_ g1 0) = some (I6 x5) ∧ Br (decide (x5 = 43)) (∃ xA xn xc, w3.cell? (ad_ g1 1) = some (.slice xA xn xc) ∧ Br (decide ((0 : Int) < (xn : Int))) (R (.returned (.tuple #[.slice none 0 0, I6 72])) w3)
 (∃ xA1 xn1 xc1, w3.cell? (ad_ g1 2) = some (.slice xA1 xn1 xc1) ∧ Br (decide (Int.tmod (xn1 : Int) 8 ≠ 6)) (R (.returned (.tuple #[.slice none 0 0, I6 72])) w3) (∃ xA2 xn2 xc2, w3.cell? (ad_ g1 2) = some (.slice xA2 xn2 xc2) ∧ Br (decide ((2046 : Int) < (xn2 : Int)))
 (R (.returned (.tuple #[.slice none 0 0, I6 72])) w3) (∃ xA3 xn3 xc3, w3.cell? (ad_ g1 2) = some (.slice xA3 xn3 xc3) ∧ R (.returned (.tuple #[.slice xA3 xn3 xc3, I6 0])) w3)))) (∃ xA4 xn4 xc4, w3.cell? (ad_ g1 2) = some (.slice xA4 xn4 xc4) ∧ Br (decide ((0 : Int) < (xn4 : Int)))
 (R (.returned (.tuple #[.slice none 0 0, I6 72])) w3) (∃ xA5 xn5 xc5, w3.cell? (ad_ g1 1) = some (.slice xA5 xn5 xc5) ∧ Calls Tryz.prog 132 #[.slice xA5 xn5 xc5] w3 (onRet (fun r_ w4 => ∃ x0A x0n x0c x11, r_ = .tuple #[.slice x0A x0n x0c, I6 x11] ∧
 R (.returned (.tuple #[.slice x0A x0n x0c, I6 x11])) w4) (pn_ R))))
def weirref7_header_J3 (R : EWP) (g1 : Nat)  (w2 : World) : Prop := JoinVC (S := Unit) (fun J7 => ∃ x2, w2.cell? (ad_ g1 0) = some (I6 x2) ∧ Br (decide (x2 ≠ 0)) (∃ x3, w2.cell? (ad_ g1 0) = some (I6 x3) ∧ Br (decide (x3 ≠ 43)) (∃ x4, w2.cell? (ad_ g1 0) = some (I6 x4) ∧ Br (decide (x4 ≠ 60))
 (R (.returned (.tuple #[.slice none 0 0, I6 72])) w2) (J7 () w2)) (J7 () w2)) (J7 () w2)) (fun _ w3 => weirref7_header_J7 R g1 w3)
def weirref7_header_VC (x : ExtV) (first : Bool) (w : World) (R : EWP) : Prop := NewVC w (.cells x.cells.toArray 145) fun g1 w1 => JoinVC (S := Unit) (fun J3 => ∃ x1, w1.cell? (ad_ g1 0) = some (I6 x1) ∧ Br (decide (x1 = 0)) (Br (!first) (R (.returned (.tuple #[.slice none 0 0, I6 73])) w1)
 (J3 () w1)) (J3 () w1)) (fun _ w2 => weirref7_header_J3 R g1 w2)
def weirref7_header_H : Hints := [(3, []), (7, [])]
theorem weirref7_header_of (x : ExtV) (first : Bool) (w : World) (R : EWP) (h_ : weirref7_header_VC x first w R) : Calls Tryz.prog 122 #[x.val, .bool first] w R :=
 calls_of_wpc callOk mixedOk (H := weirref7_header_H) (c := bodyOf Tryz.f122) Tryz.func122 rfl (nb_ rfl) (Eq.mp (by kernel_rfl) h_)
def weirref7_upper_VC (k : Int) (w : World) (R : EWP) : Prop := Br (decide (k ≠ 0)) (Br (decide (k ≠ 43)) (Br (decide (k ≠ 44)) (R (.returned (.bool (decide (k ≠ 60)))) w) (R (.returned (.bool false)) w)) (R (.returned (.bool false)) w)) (R (.returned (.bool false)) w)
def weirref7_upper_H : Hints := []
theorem weirref7_upper_of (k : Int) (w : World) (R : EWP) (h_ : weirref7_upper_VC k w R) : Calls Tryz.prog 123 #[I6 k] w R := calls_of_wpc callOk mixedOk (H := weirref7_upper_H) (c := bodyOf Tryz.f123) Tryz.func123 rfl (nb_ rfl) (Eq.mp (by kernel_rfl) h_)
def weirref7_piece_J3 (R : EWP) (off n : Int)  (w1 : World) : Prop := Br (decide (off = 0)) (R (.returned (.bool (decide (IntKind.i64.wrap (off + n) ≤ 65535)))) w1) (Br (decide ((0 : Int) < n)) (R (.returned (.bool (decide (IntKind.i64.wrap (off + n) ≤ 65535)))) w1)
 (R (.returned (.bool false)) w1))
def weirref7_piece_VC (off : Int) (more : Bool) (n : Int) (w : World) (R : EWP) : Prop := JoinVC (S := Unit) (fun J3 => Br more (Br (decide (n = 0)) (R (.returned (.bool false)) w) (Br (decide (Int.tmod n 8 ≠ 0)) (R (.returned (.bool false)) w) (J3 () w))) (J3 () w))
 (fun _ w1 => weirref7_piece_J3 R off n w1)
def weirref7_piece_H : Hints := [(3, [])]
theorem weirref7_piece_of (off : Int) (more : Bool) (n : Int) (w : World) (R : EWP) (h_ : weirref7_piece_VC off more n w R) : Calls Tryz.prog 124 #[I6 off, .bool more, I6 n] w R :=
 calls_of_wpc callOk mixedOk (H := weirref7_piece_H) (c := bodyOf Tryz.f124) Tryz.func124 rfl (nb_ rfl) (Eq.mp (by kernel_rfl) h_)
def weirref7_PutOptions_J14922 (R : EWP) (outA : Option Addr) (outn outc : Nat) (i : Int) (K58 : ((Option Addr × Nat × Nat) × Int → World → Prop)) (g1 : Nat) (_t25_ : Int) (_t26_ _t27_ _t35_ : Bool) (w5 : World) : Prop := ∃ xA1 xn1 xc1, w5.cell? (ad_ g1 1) = some (.slice xA1 xn1 xc1) ∧
 Calls Tryz.prog 139 #[.slice outA outn outc, I6 (xn1 : Int)] w5 (onRet (fun r_1 w6 => ∃ xA2 xn2 xc2, r_1 = .slice xA2 xn2 xc2 ∧ K58 ((xA2, xn2, xc2), IntKind.i64.wrap (i + 1)) w6) (pn_ R))
def weirref7_PutOptions_L58 (R : EWP) (lA : Option Addr) (ln : Nat) (outA : Option Addr) (outn outc : Nat) (i : Int) (w1 : World) (K58 : ((Option Addr × Nat × Nat) × Int → World → Prop)) : Prop := Br (decide (i < (ln : Int))) (IdxVC lA ln 2 i fun a => OptV.ex fun h => CellsAt w1 a 0 h.cells ∧
 NewVC w1 (.cells (OptV.z : OptV).cells.toArray 135) fun g1 w2 => St_ g1 h.cells w2 fun w3 => ∃ x, w3.cell? (ad_ g1 0) = some (I6 x) ∧ Br (decide (x = 0)) (JoinVC (S := Int × Bool × Bool × Bool) (fun J14922 => ∃ xA xn xc, w3.cell? (ad_ g1 1) = some (.slice xA xn xc) ∧
 Calls Tryz.prog 138 #[.slice xA xn xc] w3 (onRet (fun r_ w4 => ∃ x1, r_ = .bool x1 ∧ Br (!x1) (R (.returned (.tuple #[.slice none 0 0, I6 75])) w4) (Br (decide ((0 : Int) < i)) (IdxVC lA ln 2 (IntKind.i64.wrap (i - 1)) fun a1 => ∃ x2, w4.cell? a1 = some (I6 x2) ∧ Br (decide (x2 = 0))
 (R (.returned (.tuple #[.slice none 0 0, I6 75])) w4) (J14922 (i, decide ((0 : Int) < i), true, decide (x2 = 0)) w4)) (J14922 (i, decide ((0 : Int) < i), false, false) w4))) (pn_ R))) (fun s_ w5 => weirref7_PutOptions_J14922 R outA outn outc i K58 g1 s_.1 s_.2.1 s_.2.2.1 s_.2.2.2 w5))
 (∃ x3, w3.cell? (ad_ g1 0) = some (I6 x3) ∧ Br (decide (x3 < 2)) (R (.returned (.tuple #[.slice none 0 0, I6 75])) w3) (∃ x4, w3.cell? (ad_ g1 0) = some (I6 x4) ∧ Br (decide ((255 : Int) < x4)) (R (.returned (.tuple #[.slice none 0 0, I6 75])) w3)
 (∃ xA3 xn3 xc3, w3.cell? (ad_ g1 1) = some (.slice xA3 xn3 xc3) ∧ Br (decide ((255 : Int) < (xn3 : Int))) (R (.returned (.tuple #[.slice none 0 0, I6 75])) w3) (∃ x5, w3.cell? (ad_ g1 0) = some (I6 x5) ∧ ∃ xA4 xn4 xc4, w3.cell? (ad_ g1 1) = some (.slice xA4 xn4 xc4) ∧
 NewVC w3 (.cells #[U8 (IntKind.u8.wrap x5), U8 (IntKind.u8.wrap (xn4 : Int))] 5) fun g2 w7 => AppVC Tryz.prog #[25, 25] 25 (.slice outA outn outc) (.slice (sa_ g2) 2 2) w7 fun lA1 ln1 lc1 w8 => ∃ xA5 xn5 xc5, w8.cell? (ad_ g1 1) = some (.slice xA5 xn5 xc5) ∧
 AppVC Tryz.prog #[25, 25] 25 (.slice lA1 ln1 lc1) (.slice xA5 xn5 xc5) w8 fun lA2 ln2 lc2 w9 => K58 ((lA2, ln2, lc2), IntKind.i64.wrap (i + 1)) w9))))) (Br (decide (Int.tmod (outn : Int) 8 ≠ 6)) (R (.returned (.tuple #[.slice none 0 0, I6 75])) w1) (Br (decide ((2046 : Int) < (outn : Int)))
 (R (.returned (.tuple #[.slice none 0 0, I6 75])) w1) (R (.returned (.tuple #[.slice outA outn outc, I6 0])) w1)))
def weirref7_PutOptions_VC (lA : Option Addr) (ln _lc : Nat) (w : World) (R : EWP) : Prop := LoopVC (S := (Option Addr × Nat × Nat) × Int) (fun s_ w1 K58 => weirref7_PutOptions_L58 R lA ln s_.1.1 s_.1.2.1 s_.1.2.2 s_.2 w1 K58) ((none, 0, 0), 0) w
def weirref7_PutOptions_H : Hints := [(58, [(4, .slice), (5, .int .i64)]), (14922, [(25, .int .i64), (26, .bool), (27, .bool), (35, .bool)])]
theorem weirref7_PutOptions_of (lA : Option Addr) (ln lc : Nat) (w : World) (R : EWP) (h_ : weirref7_PutOptions_VC lA ln lc w R) : Calls Tryz.prog 132 #[.slice lA ln lc] w R :=
 calls_of_wpc callOk mixedOk (H := weirref7_PutOptions_H) (c := bodyOf Tryz.f132) Tryz.func132 rfl (nb_ rfl) (Eq.mp (by kernel_rfl) h_)
def weirref7_run_L26 (R : EWP) (bA : Option Addr) (bn : Nat) (i : Int) (w1 : World) (K26 : (Int → World → Prop)) : Prop := Br (decide (i < (bn : Int))) (IdxVC bA bn 1 i fun a => ∃ x, w1.cell? a = some (U8 x) ∧ Br (decide (x ≠ 0)) (R (.returned (.bool false)) w1) (K26 (IntKind.i64.wrap (i + 1)) w1))
 (R (.returned (.bool (decide ((0 : Int) < (bn : Int))))) w1)
def weirref7_run_VC (bA : Option Addr) (bn _bc : Nat) (w : World) (R : EWP) : Prop := LoopVC (S := Int) (fun s_ w1 K26 => weirref7_run_L26 R bA bn s_ w1 K26) 0 w
def weirref7_run_H : Hints := [(26, [(3, .int .i64)])]
theorem weirref7_run_of (bA : Option Addr) (bn bc : Nat) (w : World) (R : EWP) (h_ : weirref7_run_VC bA bn bc w R) : Calls Tryz.prog 138 #[.slice bA bn bc] w R :=
 calls_of_wpc callOk mixedOk (H := weirref7_run_H) (c := bodyOf Tryz.f138) Tryz.func138 rfl (nb_ rfl) (Eq.mp (by kernel_rfl) h_)
def weirref7_fill_L6330 (n1 : Int) (K12 : ((Option Addr × Nat × Nat) × Int → World → Prop)) (m : Int) (outA2 : Option Addr) (outn2 outc2 : Nat) (i : Int) (w5 : World) (K6330 : ((Option Addr × Nat × Nat) × Int → World → Prop)) : Prop := Br (decide (i < m)) (NewVC w5 (.cells #[U8 0] 5) fun g2 w6 =>
 AppVC Tryz.prog #[25, 25] 25 (.slice outA2 outn2 outc2) (.slice (sa_ g2) 1 1) w6 fun lA1 ln1 lc1 w7 => K6330 ((lA1, ln1, lc1), IntKind.i64.wrap (i + 1)) w7) (K12 ((outA2, outn2, outc2), IntKind.i64.wrap (n1 - m)) w5)
def weirref7_fill_J197 (outA1 : Option Addr) (outn1 outc1 : Nat) (n1 : Int) (K12 : ((Option Addr × Nat × Nat) × Int → World → Prop)) (m : Int) (w2 : World) : Prop := NewVC w2 (.cells #[U8 1, U8 (IntKind.u8.wrap (IntKind.i64.wrap (m - 2)))] 5) fun g1 w3 =>
 AppVC Tryz.prog #[25, 25] 25 (.slice outA1 outn1 outc1) (.slice (sa_ g1) 2 2) w3 fun lA ln lc w4 => LoopVC (S := (Option Addr × Nat × Nat) × Int) (fun s_ w5 K6330 => weirref7_fill_L6330 n1 K12 m s_.1.1 s_.1.2.1 s_.1.2.2 s_.2 w5 K6330) ((lA, ln, lc), 2) w4
def weirref7_fill_L12 (R : EWP)  (outA1 : Option Addr) (outn1 outc1 : Nat) (n1 : Int) (w1 : World) (K12 : ((Option Addr × Nat × Nat) × Int → World → Prop)) : Prop := Br (decide ((1 : Int) < n1)) (JoinVC (S := Int) (fun J197 => Br (decide ((257 : Int) < n1)) (J197 257 w1) (J197 n1 w1))
 (fun s_ w2 => weirref7_fill_J197 outA1 outn1 outc1 n1 K12 s_ w2)) (Br (decide (n1 = 1)) (NewVC w1 (.cells #[U8 0] 5) fun g3 w8 => AppVC Tryz.prog #[25, 25] 25 (.slice outA1 outn1 outc1) (.slice (sa_ g3) 1 1) w8 fun lA2 ln2 lc2 w9 => R (.returned (.slice lA2 ln2 lc2)) w9)
 (R (.returned (.slice outA1 outn1 outc1)) w1))
def weirref7_fill_VC (outA : Option Addr) (outn outc : Nat) (n : Int) (w : World) (R : EWP) : Prop := LoopVC (S := (Option Addr × Nat × Nat) × Int) (fun s_ w1 K12 => weirref7_fill_L12 R s_.1.1 s_.1.2.1 s_.1.2.2 s_.2 w1 K12) ((outA, outn, outc), n) w
def weirref7_fill_H : Hints := [(12, [(0, .slice), (1, .int .i64)]), (197, [(5, .int .i64)]), (6330, [(0, .slice), (6, .int .i64)])]
theorem weirref7_fill_of (outA : Option Addr) (outn outc : Nat) (n : Int) (w : World) (R : EWP) (h_ : weirref7_fill_VC outA outn outc n w R) : Calls Tryz.prog 139 #[.slice outA outn outc, I6 n] w R :=
 calls_of_wpc callOk mixedOk (H := weirref7_fill_H) (c := bodyOf Tryz.f139) Tryz.func139 rfl (nb_ rfl) (Eq.mp (by kernel_rfl) h_)
def weirref1_Pack_L64806 (valuesA : Option Addr) (valuesn : Nat) (i : Int) (K506 : ((Option Addr × Nat × Nat) × Int → World → Prop)) (rowA1 : Option Addr) (rown1 rowc1 : Nat) (k : Int) (w5 : World) (K64806 : ((Option Addr × Nat × Nat) × Int → World → Prop)) : Prop := Br (decide ((0 : Int) ≤ k))
 (DrawVC w5 fun S2 w6 => IdxVC valuesA valuesn 1 i fun a4 => ∃ x6, (∀ w' : World, S2 w' → w'.cell? a4 = some (I6 x6)) ∧ Calls Tryz.prog 100 #[I6 k] w6 (onRet (fun r_2 w7 => ∃ x7, r_2 = I6 x7 ∧ S2 w7 ∧ DivVC x7 ( NewVC w7 (.cells #[I6 (Int.tmod (IntKind.i64.wrap (Int.tdiv x6 x7)) 2)] 3) fun g1 w8 =>
 S2 w8 ∧ AppVC Tryz.prog #[83, 83] 83 (.slice rowA1 rown1 rowc1) (.slice (sa_ g1) 1 1) w8 fun lA ln lc w9 => S2 w9 ∧ K64806 ((lA, ln, lc), IntKind.i64.wrap (k - 1)) w9)) (fun _ _ => False))) (K506 ((rowA1, rown1, rowc1), IntKind.i64.wrap (i + 1)) w5)
def weirref1_Pack_L522826 (rowA : Option Addr) (rown : Nat) (lA1 : Option Addr) (ln1 lc1 : Nat) (i1 : Int) (K2042 : ((Option Addr × Nat × Nat) × Int → World → Prop)) (c k1 : Int) (w11 : World) (K522826 : (Int × Int → World → Prop)) : Prop := Br (decide (k1 < IntKind.i64.wrap (i1 + 8)))
 (IdxVC rowA rown 1 k1 fun a5 => ∃ x8, w11.cell? a5 = some (I6 x8) ∧ K522826 (IntKind.i64.wrap (IntKind.i64.wrap (2 * c) + x8), IntKind.i64.wrap (k1 + 1)) w11) (NewVC w11 (.cells #[U8 (IntKind.u8.wrap c)] 5) fun g2 w12 =>
 AppVC Tryz.prog #[25, 25] 25 (.slice lA1 ln1 lc1) (.slice (sa_ g2) 1 1) w12 fun lA2 ln2 lc2 w13 => K2042 ((lA2, ln2, lc2), IntKind.i64.wrap (i1 + 8)) w13)
def weirref1_Pack_L2042 (R : EWP) (x : Int) (rowA : Option Addr) (rown : Nat) (lA1 : Option Addr) (ln1 lc1 : Nat) (i1 : Int) (w10 : World) (K2042 : ((Option Addr × Nat × Nat) × Int → World → Prop)) : Prop := Br (decide (i1 < x))
 (LoopVC (S := Int × Int) (fun s_ w11 K522826 => weirref1_Pack_L522826 rowA rown lA1 ln1 lc1 i1 K2042 s_.1 s_.2 w11 K522826) (0, i1) w10) (R (.returned (.tuple #[.slice lA1 ln1 lc1, I6 0])) w10)
def weirref1_Pack_L506 (R : EWP) (widthsA : Option Addr) (widthsn : Nat) (valuesA : Option Addr) (valuesn : Nat) (x : Int) (rowA : Option Addr) (rown rowc : Nat) (i : Int) (w2 : World) (K506 : ((Option Addr × Nat × Nat) × Int → World → Prop)) : Prop := Br (decide (i < (widthsn : Int)))
 (DrawVC w2 fun S1 w3 => IdxVC valuesA valuesn 1 i fun a => ∃ x1, (∀ w' : World, S1 w' → w'.cell? a = some (I6 x1)) ∧ Br (decide (x1 < 0)) (R (.returned (.tuple #[.slice none 0 0, I6 12])) w3) (IdxVC valuesA valuesn 1 i fun a1 => ∃ x2, (∀ w' : World, S1 w' → w'.cell? a1 = some (I6 x2)) ∧
 IdxVC widthsA widthsn 1 i fun a2 => ∃ x3, (∀ w' : World, S1 w' → w'.cell? a2 = some (I6 x3)) ∧ Calls Tryz.prog 100 #[I6 x3] w3 (onRet (fun r_1 w4 => ∃ x4, r_1 = I6 x4 ∧ S1 w4 ∧ Br (decide (x4 ≤ x2)) (R (.returned (.tuple #[.slice none 0 0, I6 12])) w4) (IdxVC widthsA widthsn 1 i fun a3 =>
 ∃ x5, w4.cell? a3 = some (I6 x5) ∧ LoopVC (S := (Option Addr × Nat × Nat) × Int) (fun s_ w5 K64806 => weirref1_Pack_L64806 valuesA valuesn i K506 s_.1.1 s_.1.2.1 s_.1.2.2 s_.2 w5 K64806) ((rowA, rown, rowc), IntKind.i64.wrap (x5 - 1)) w4)) (fun _ _ => False))))
 (LoopVC (S := (Option Addr × Nat × Nat) × Int) (fun s_ w10 K2042 => weirref1_Pack_L2042 R x rowA rown s_.1.1 s_.1.2.1 s_.1.2.2 s_.2 w10 K2042) ((none, 0, 0), 0) w2)
def weirref1_Pack_VC (widthsA : Option Addr) (widthsn widthsc : Nat) (valuesA : Option Addr) (valuesn _valuesc : Nat) (w : World) (R : EWP) : Prop := Calls Tryz.prog 99 #[.slice widthsA widthsn widthsc] w (onRet (fun r_ w1 => ∃ x, r_ = I6 x ∧ Br (decide (x < 0))
 (R (.returned (.tuple #[.slice none 0 0, I6 11])) w1) (Br (decide ((widthsn : Int) ≠ (valuesn : Int))) (R (.returned (.tuple #[.slice none 0 0, I6 1])) w1)
 (LoopVC (S := (Option Addr × Nat × Nat) × Int) (fun s_ w2 K506 => weirref1_Pack_L506 R widthsA widthsn valuesA valuesn x s_.1.1 s_.1.2.1 s_.1.2.2 s_.2 w2 K506) ((none, 0, 0), 0) w1))) (pn_ R))
def weirref1_Pack_H : Hints := [(506, [(7, .slice), (8, .int .i64)]), (64806, [(7, .slice), (9, .int .i64)]), (2042, [(10, .slice), (11, .int .i64)]), (522826, [(12, .int .i64), (13, .int .i64)])]
theorem weirref1_Pack_of (widthsA : Option Addr) (widthsn widthsc : Nat) (valuesA : Option Addr) (valuesn valuesc : Nat) (w : World) (R : EWP) (h_ : weirref1_Pack_VC widthsA widthsn widthsc valuesA valuesn valuesc w R) :
 Calls Tryz.prog 70 #[.slice widthsA widthsn widthsc, .slice valuesA valuesn valuesc] w R := calls_of_wpc callOk mixedOk (H := weirref1_Pack_H) (c := bodyOf Tryz.f70) Tryz.func70 rfl (nb_ rfl)
 (Eq.mp (by kernel_rfl) h_)
def weirref1_Bytes_L250 (R : EWP) (n : Int) (lA : Option Addr) (ln lc : Nat) (i1 : Int) (w4 : World) (K250 : (Int → World → Prop)) : Prop := Br (decide (i1 < IntKind.i64.wrap (8 - n))) (IdxVC lA ln 1 i1 fun a => ∃ x, w4.cell? a = some (U8 x) ∧ Br (decide (x ≠ 0))
 (R (.returned (.tuple #[.slice none 0 0, I6 12])) w4) (K250 (IntKind.i64.wrap (i1 + 1)) w4)) (SliceVC lA ln lc 1 (some (IntKind.i64.wrap (8 - n))) none none fun sA sn sc => R (.returned (.tuple #[.slice sA sn sc, I6 0])) w4)
def weirref1_Bytes_L122 (R : EWP) (n v_1 : Int) (lA : Option Addr) (ln lc : Nat) (i : Int) (w1 : World) (K122 : (Int × (Option Addr × Nat × Nat) × Int → World → Prop)) : Prop := Br (decide (i < 8))
 (NewVC w1 (.cells #[U8 (IntKind.u8.wrap (IntKind.u64.wrap (Int.tdiv (IntKind.u64.wrap (Int.tdiv (IntKind.u64.wrap (Int.tdiv (IntKind.u64.wrap (Int.tdiv (IntKind.u64.wrap (Int.tdiv (IntKind.u64.wrap (Int.tdiv (IntKind.u64.wrap (Int.tdiv v_1 256)) 256)) 256)) 256)) 256)) 256)) 256)))] 5) fun g1 w2 =>
 AppVC Tryz.prog #[25, 25] 25 (.slice lA ln lc) (.slice (sa_ g1) 1 1) w2 fun lA1 ln1 lc1 w3 => K122 (IntKind.u64.wrap (v_1 * 256), (lA1, ln1, lc1), IntKind.i64.wrap (i + 1)) w3) (LoopVC (S := Int) (fun s_ w4 K250 => weirref1_Bytes_L250 R n lA ln lc s_ w4 K250) 0 w1)
def weirref1_Bytes_VC (n v_ : Int) (w : World) (R : EWP) : Prop := Br (decide (n < 1)) (R (.returned (.tuple #[.slice none 0 0, I6 1])) w) (Br (decide ((8 : Int) < n)) (R (.returned (.tuple #[.slice none 0 0, I6 1])) w)
 (LoopVC (S := Int × (Option Addr × Nat × Nat) × Int) (fun s_ w1 K122 => weirref1_Bytes_L122 R n s_.1 s_.2.1.1 s_.2.1.2.1 s_.2.1.2.2 s_.2.2 w1 K122) (v_, (none, 0, 0), 0) w))
def weirref1_Bytes_H : Hints := [(122, [(1, .int .u64), (6, .slice), (7, .int .i64)]), (250, [(8, .int .i64)])]
theorem weirref1_Bytes_of (n v_ : Int) (w : World) (R : EWP) (h_ : weirref1_Bytes_VC n v_ w R) : Calls Tryz.prog 98 #[I6 n, .int .u64 v_] w R := calls_of_wpc callOk mixedOk (H := weirref1_Bytes_H) (c := bodyOf Tryz.f98) Tryz.func98 rfl (nb_ rfl)
 (Eq.mp (by kernel_rfl) h_)
def weirref1_bits_L122 (R : EWP) (widthsA : Option Addr) (widthsn : Nat) (n i : Int) (w1 : World) (K122 : (Int × Int → World → Prop)) : Prop := Br (decide (i < (widthsn : Int))) (IdxVC widthsA widthsn 1 i fun a => ∃ x, w1.cell? a = some (I6 x) ∧ Br (decide (x < 1)) (R (.returned (I6 (-1))) w1)
 (IdxVC widthsA widthsn 1 i fun a1 => ∃ x1, w1.cell? a1 = some (I6 x1) ∧ Br (decide ((32 : Int) < x1)) (R (.returned (I6 (-1))) w1) (IdxVC widthsA widthsn 1 i fun a2 => ∃ x2, w1.cell? a2 = some (I6 x2) ∧ K122 (IntKind.i64.wrap (n + x2), IntKind.i64.wrap (i + 1)) w1)))
 (Br (decide (Int.tmod n 8 ≠ 0)) (R (.returned (I6 (-1))) w1) (R (.returned (I6 n)) w1))
def weirref1_bits_VC (widthsA : Option Addr) (widthsn _widthsc : Nat) (w : World) (R : EWP) : Prop := Br (decide ((64 : Int) < (widthsn : Int))) (R (.returned (I6 (-1))) w) (LoopVC (S := Int × Int) (fun s_ w1 K122 => weirref1_bits_L122 R widthsA widthsn s_.1 s_.2 w1 K122) (0, 0) w)
def weirref1_bits_H : Hints := [(122, [(3, .int .i64), (4, .int .i64)])]
theorem weirref1_bits_of (widthsA : Option Addr) (widthsn widthsc : Nat) (w : World) (R : EWP) (h_ : weirref1_bits_VC widthsA widthsn widthsc w R) : Calls Tryz.prog 99 #[.slice widthsA widthsn widthsc] w R :=
 calls_of_wpc callOk mixedOk (H := weirref1_bits_H) (c := bodyOf Tryz.f99) Tryz.func99 rfl (nb_ rfl) (Eq.mp (by kernel_rfl) h_)
def weirref1_power_L58 (R : EWP) (n p i : Int) (w1 : World) (K58 : (Int × Int → World → Prop)) : Prop := Br (decide (i < n)) (K58 (IntKind.i64.wrap (2 * p), IntKind.i64.wrap (i + 1)) w1) (R (.returned (I6 p)) w1)
def weirref1_power_VC (n : Int) (w : World) (R : EWP) : Prop := LoopVC (S := Int × Int) (fun s_ w1 K58 => weirref1_power_L58 R n s_.1 s_.2 w1 K58) (1, 0) w
def weirref1_power_H : Hints := [(58, [(3, .int .i64), (4, .int .i64)])]
theorem weirref1_power_of (n : Int) (w : World) (R : EWP) (h_ : weirref1_power_VC n w R) : Calls Tryz.prog 100 #[I6 n] w R := calls_of_wpc callOk mixedOk (H := weirref1_power_H) (c := bodyOf Tryz.f100) Tryz.func100 rfl (nb_ rfl) (Eq.mp (by kernel_rfl) h_)
def addr_Valid_VC (ip : IPV) (w : World) (R : EWP) : Prop := NewVC w (.cells ip.cells.toArray 24) fun g1 w1 => IPV.ex fun h => CA_ w1 g1 h.cells ∧ Calls Tryz.prog 106 #[h.val] w1 (onRet (fun r_ w2 => ∃ x, r_ = I6 x ∧ R (.returned (.bool (decide ((0 : Int) < x)))) w2) (pn_ R))
def addr_Valid_H : Hints := []
theorem addr_Valid_of (ip : IPV) (w : World) (R : EWP) (h_ : addr_Valid_VC ip w R) : Calls Tryz.prog 78 #[ip.val] w R := calls_of_wpc callOk mixedOk (H := addr_Valid_H) (c := bodyOf Tryz.f78) Tryz.func78 rfl (nb_ rfl) (Eq.mp (by kernel_rfl) h_)
def addr_size_VC (ip : IPV) (w : World) (R : EWP) : Prop := NewVC w (.cells ip.cells.toArray 24) fun g1 w1 => ∃ x, w1.cell? (ad_ g1 0) = some (I6 x) ∧ Br (decide (x = 6)) (R (.returned (I6 128)) w1) (∃ x1, w1.cell? (ad_ g1 0) = some (I6 x1) ∧ Br (decide (x1 ≠ 4)) (R (.returned (I6 0)) w1)
 (SliceVC (some ⟨g1, 1, none⟩) 16 16 1 (some 4) none none fun sA sn _sc => 12 ≤ sn ∧ NilVC sA fun p => ∃ x0 x11 x2 x3 x4 x5 x6 x7 x8 x9 x10 x111, CellsAt w1 p 0 [U8 x0, U8 x11, U8 x2, U8 x3, U8 x4, U8 x5, U8 x6, U8 x7, U8 x8, U8 x9, U8 x10, U8 x111] ∧
 Br (!(((decide (x0 = 0)) && ((decide (x11 = 0)) && ((decide (x2 = 0)) && ((decide (x3 = 0)) && ((decide (x4 = 0)) && ((decide (x5 = 0)) && ((decide (x6 = 0)) && ((decide (x7 = 0)) && ((decide (x8 = 0)) && ((decide (x9 = 0)) && ((decide (x10 = 0)) && ((decide (x111 = 0)) && true))))))))))))))
 (R (.returned (I6 0)) w1) (R (.returned (I6 32)) w1)))
def addr_size_H : Hints := []
theorem addr_size_of (ip : IPV) (w : World) (R : EWP) (h_ : addr_size_VC ip w R) : Calls Tryz.prog 106 #[ip.val] w R := calls_of_wpc callOk mixedOk (H := addr_size_H) (c := bodyOf Tryz.f106) Tryz.func106 rfl (nb_ rfl) (Eq.mp (by kernel_rfl) h_)
end N6
end Go.Proofs.YtjngdcilnipjcaaGreatDoor
