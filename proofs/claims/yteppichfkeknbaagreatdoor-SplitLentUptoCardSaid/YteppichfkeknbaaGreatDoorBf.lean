/- WRITTEN BY a program of this session (vc.py): for each Go function the condition that is enough for its contract, and the theorem that it is. -/
import Derived.Test.YteppichfkeknbaaGreatDoorProg
import Derived.Test.YteppichfkeknbaaGreatDoorBq
import Derived.Test.YteppichfkeknbaaGreatDoorBe
import Derived.Test.YteppichfkeknbaaGreatDoorBd
namespace Go.Proofs.YteppichfkeknbaaGreatDoor
open Go.Eng
def bodyOf (fn : Func) : Code := match fn.body with | some c => c | none => .skip
def callF (f : Nat) : Bool := Nat.ble 3 f && Nat.ble f 130 && !(Nat.beq f 105) && !(Nat.beq f 113) && !(Nat.beq f 114) && !(Nat.beq f 115) && !(Nat.beq f 116) && !(Nat.beq f 117) && !(Nat.beq f 118) && !(Nat.beq f 119) && !(Nat.beq f 120) && !(Nat.beq f 121) && !(Nat.beq f 122) && !(Nat.beq f 123) && !(Nat.beq f 124) && !(Nat.beq f 125) && !(Nat.beq f 126) && !(Nat.beq f 127) && !(Nat.beq f 128)
theorem callAll : ((List.range 131).all fun f => !(callF f) || callableB Tryz.prog f) = true := by kernel_rfl
theorem callOk : ∀ f, callF f = true → callableB Tryz.prog f = true := by
  intro f hf
  have h := List.all_eq_true.1 callAll f (by simp [callF] at hf; simp; omega)
  simpa [hf] using h
theorem mixedOk : Tryz.prog.follows .mixedOrders = true := by kernel_rfl

set_option maxRecDepth 100000 in
def view_bits_L122 (R : Ending → World → Prop) (widthsA : Option Addr) (widthsn : Nat) (all : Int) (t12_ : Int) (w1 : World) (K122 : (Int × Int → World → Prop)) : Prop :=
  Br (decide (t12_ < (widthsn : Int)))
    (IdxVC widthsA widthsn 1 t12_ fun a =>
  ∃ x : Int, w1.cell? a = some (.int .i64 x) ∧
  Br (decide (x < 1))
    (R (.returned (.tuple #[.int .i64 0, .int .i64 11])) w1)
    (Br (decide ((32 : Int) < x))
    (R (.returned (.tuple #[.int .i64 0, .int .i64 11])) w1)
    (K122 (IntKind.i64.wrap (all + x), IntKind.i64.wrap (t12_ + 1)) w1)))
    (Br (decide (Int.tmod all 8 ≠ 0))
    (R (.returned (.tuple #[.int .i64 0, .int .i64 11])) w1)
    (R (.returned (.tuple #[.int .i64 (IntKind.i64.wrap (Int.tdiv all 8)), .int .i64 0])) w1))
set_option maxRecDepth 100000 in
def view_bits_VC (widthsA : Option Addr) (widthsn : Nat) (_widthsc : Nat) (w : World) (R : Ending → World → Prop) : Prop :=
  Br (decide ((64 : Int) < (widthsn : Int)))
    (R (.returned (.tuple #[.int .i64 0, .int .i64 11])) w)
    (LoopVC (S := Int × Int) (fun s_ w1 K122 => view_bits_L122 R widthsA widthsn s_.1 s_.2 w1 K122) (0, 0) w)
def view_bits_H : Hints := [(122, [(4, .int .i64), (12, .int .i64)])]
set_option maxRecDepth 100000 in
theorem view_bits_of (widthsA : Option Addr) (widthsn : Nat) (widthsc : Nat) (w : World) (R : Ending → World → Prop) (hvc_ : view_bits_VC widthsA widthsn widthsc w R) :
    Calls Tryz.prog 104 #[.slice widthsA widthsn widthsc] w R :=
  calls_of_wpc callOk mixedOk (H := view_bits_H) (args := [.slice widthsA widthsn widthsc]) (fn := Tryz.f104) (c := bodyOf Tryz.f104) Tryz.func104 rfl (Nat.le_of_ble_eq_true rfl)
    (Eq.mp (by kernel_rfl : view_bits_VC widthsA widthsn widthsc w R = wpc Tryz.prog callF Tryz.f104.ntmps view_bits_H 1 (bodyOf Tryz.f104) (argEnv 0 [.slice widthsA widthsn widthsc]) [] w (finish Tryz.prog callF Tryz.f104.results.toList R)) hvc_)

set_option maxRecDepth 100000 in
def view_Pack_L1042846 (x0 : Int) (g1 : Nat) (t31_ : Int) (K1018 : (Int × Int → World → Prop)) (x2 : Int) (bit1 : Int) (k : Int) (w4 : World) (K1042846 : (Int × Int → World → Prop)) : Prop :=
  Br (decide ((0 : Int) ≤ k))
    (IdxVC (some ⟨g1, 0, none⟩) x0.toNat 1 (IntKind.i64.wrap (Int.tdiv bit1 8)) fun a2 =>
  ∃ x3 : Int, w4.cell? a2 = some (.int .u8 x3) ∧
  ShVC (IntKind.u64.wrap k) (
  ShVC (IntKind.u64.wrap (7 - IntKind.u64.wrap (Int.tmod bit1 8))) (
  IdxVC (some ⟨g1, 0, none⟩) x0.toNat 1 (IntKind.i64.wrap (Int.tdiv bit1 8)) fun a3 =>
  SetVC w4 a3 (.int .u8 (bitv .or .u8 x3 (IntKind.u8.wrap (IntKind.u8.wrap (bitv .and .i64 (Int.fdiv x2 (2 ^ (min ((IntKind.u64.wrap k).toNat) 64))) 1) * 2 ^ (min ((IntKind.u64.wrap (7 - IntKind.u64.wrap (Int.tmod bit1 8))).toNat) 8))))) fun w5 =>
  K1042846 (IntKind.i64.wrap (bit1 + 1), IntKind.i64.wrap (k - 1)) w5)))
    (K1018 (bit1, IntKind.i64.wrap (t31_ + 1)) w4)
set_option maxRecDepth 100000 in
def view_Pack_L1018 (R : Ending → World → Prop) (widthsA : Option Addr) (widthsn : Nat) (valuesA : Option Addr) (valuesn : Nat) (x0 : Int) (g1 : Nat) (bit : Int) (t31_ : Int) (w3 : World) (K1018 : (Int × Int → World → Prop)) : Prop :=
  Br (decide (t31_ < (widthsn : Int)))
    (IdxVC widthsA widthsn 1 t31_ fun a =>
  ∃ x : Int, w3.cell? a = some (.int .i64 x) ∧
  IdxVC valuesA valuesn 1 t31_ fun a1 =>
  ∃ x2 : Int, w3.cell? a1 = some (.int .i64 x2) ∧
  Br (decide (x2 < 0))
    (R (.returned (.tuple #[.slice none 0 0, .int .i64 12])) w3)
    (ShVC (IntKind.u64.wrap x) (
    Br (decide (Int.fdiv x2 (2 ^ (min ((IntKind.u64.wrap x).toNat) 64)) ≠ 0))
    (R (.returned (.tuple #[.slice none 0 0, .int .i64 12])) w3)
    (LoopVC (S := Int × Int) (fun s_ w4 K1042846 => view_Pack_L1042846 x0 g1 t31_ K1018 x2 s_.1 s_.2 w4 K1042846) (bit, IntKind.i64.wrap (x - 1)) w3))))
    (R (.returned (.tuple #[.slice (some ⟨g1, 0, none⟩) x0.toNat x0.toNat, .int .i64 0])) w3)
set_option maxRecDepth 100000 in
def view_Pack_VC (widthsA : Option Addr) (widthsn : Nat) (widthsc : Nat) (valuesA : Option Addr) (valuesn : Nat) (_valuesc : Nat) (w : World) (R : Ending → World → Prop) : Prop :=
  Calls Tryz.prog 104 #[.slice widthsA widthsn widthsc] w (onRet (fun r_ w1 => ∃ x0 : Int, ∃ x1 : Int, r_ = .tuple #[.int .i64 x0, .int .i64 x1] ∧
  Br (decide (x1 ≠ 0))
    (R (.returned (.tuple #[.slice none 0 0, .int .i64 x1])) w1)
    (Br (decide ((valuesn : Int) ≠ (widthsn : Int)))
    (R (.returned (.tuple #[.slice none 0 0, .int .i64 1])) w1)
    (MakeVC w1 5 1 [.int .u8 0] x0 x0 fun g1 w2 =>
  LoopVC (S := Int × Int) (fun s_ w3 K1018 => view_Pack_L1018 R widthsA widthsn valuesA valuesn x0 g1 s_.1 s_.2 w3 K1018) (0, 0) w2)))
    (fun ch w1 => R (.panicked ch) w1))
def view_Pack_H : Hints := [(1018, [(9, .int .i64), (31, .int .i64)]), (1042846, [(9, .int .i64), (13, .int .i64)])]
set_option maxRecDepth 100000 in
theorem view_Pack_of (widthsA : Option Addr) (widthsn : Nat) (widthsc : Nat) (valuesA : Option Addr) (valuesn : Nat) (valuesc : Nat) (w : World) (R : Ending → World → Prop) (hvc_ : view_Pack_VC widthsA widthsn widthsc valuesA valuesn valuesc w R) :
    Calls Tryz.prog 91 #[.slice widthsA widthsn widthsc, .slice valuesA valuesn valuesc] w R :=
  calls_of_wpc callOk mixedOk (H := view_Pack_H) (args := [.slice widthsA widthsn widthsc, .slice valuesA valuesn valuesc]) (fn := Tryz.f91) (c := bodyOf Tryz.f91) Tryz.func91 rfl (Nat.le_of_ble_eq_true rfl)
    (Eq.mp (by kernel_rfl : view_Pack_VC widthsA widthsn widthsc valuesA valuesn valuesc w R = wpc Tryz.prog callF Tryz.f91.ntmps view_Pack_H 1 (bodyOf Tryz.f91) (argEnv 0 [.slice widthsA widthsn widthsc, .slice valuesA valuesn valuesc]) [] w (finish Tryz.prog callF Tryz.f91.results.toList R)) hvc_)

set_option maxRecDepth 100000 in
def weirref2_folded_VC (n : Int) (w : World) (R : Ending → World → Prop) : Prop :=
  Br (decide (n = 0))
    (R (.returned (.int .i64 0)) w)
    (R (.returned (.int .i64 (IntKind.i64.wrap (Int.tmod (IntKind.i64.wrap (n - 1)) 65535 + 1)))) w)
def weirref2_folded_H : Hints := []
set_option maxRecDepth 100000 in
theorem weirref2_folded_of (n : Int) (w : World) (R : Ending → World → Prop) (hvc_ : weirref2_folded_VC n w R) :
    Calls Tryz.prog 107 #[.int .i64 n] w R :=
  calls_of_wpc callOk mixedOk (H := weirref2_folded_H) (args := [.int .i64 n]) (fn := Tryz.f107) (c := bodyOf Tryz.f107) Tryz.func107 rfl (Nat.le_of_ble_eq_true rfl)
    (Eq.mp (by kernel_rfl : weirref2_folded_VC n w R = wpc Tryz.prog callF Tryz.f107.ntmps weirref2_folded_H 1 (bodyOf Tryz.f107) (argEnv 0 [.int .i64 n]) [] w (finish Tryz.prog callF Tryz.f107.results.toList R)) hvc_)

set_option maxRecDepth 100000 in
def weirref2_Sum_L7826 (partsA : Option Addr) (partsn : Nat) (i : Int) (K122 : (Int × Int × Int → World → Prop)) (at_1 : Int) (n1 : Int) (k : Int) (w2 : World) (K7826 : (Int × Int × Int → World → Prop)) : Prop :=
  IdxVC partsA partsn 1 i fun a =>
  ∃ (xA : Option Addr) (xn xc : Nat), w2.cell? a = some (.slice xA xn xc) ∧
  Br (decide (k < (xn : Int)))
    (IdxVC partsA partsn 1 i fun a1 =>
  ∃ (xA1 : Option Addr) (xn1 xc1 : Nat), w2.cell? a1 = some (.slice xA1 xn1 xc1) ∧
  IdxVC xA1 xn1 1 k fun a2 =>
  ∃ x : Int, w2.cell? a2 = some (.int .u8 x) ∧
  Br (decide (Int.tmod at_1 2 = 0))
    (K7826 (IntKind.i64.wrap (at_1 + 1), IntKind.i64.wrap (n1 + IntKind.i64.wrap (IntKind.i64.wrap x * 256)), IntKind.i64.wrap (k + 1)) w2)
    (K7826 (IntKind.i64.wrap (at_1 + 1), IntKind.i64.wrap (n1 + IntKind.i64.wrap x), IntKind.i64.wrap (k + 1)) w2))
    (K122 (at_1, n1, IntKind.i64.wrap (i + 1)) w2)
set_option maxRecDepth 100000 in
def weirref2_Sum_L122 (R : Ending → World → Prop) (partsA : Option Addr) (partsn : Nat) (at_ : Int) (n : Int) (i : Int) (w1 : World) (K122 : (Int × Int × Int → World → Prop)) : Prop :=
  Br (decide (i < (partsn : Int)))
    (LoopVC (S := Int × Int × Int) (fun s_ w2 K7826 => weirref2_Sum_L7826 partsA partsn i K122 s_.1 s_.2.1 s_.2.2 w2 K7826) (at_, n, 0) w1)
    (Calls Tryz.prog 107 #[.int .i64 n] w1 (onRet (fun r_ w3 => ∃ x1 : Int, r_ = .int .i64 x1 ∧
  R (.returned (.int .i64 x1)) w3)
    (fun ch w3 => R (.panicked ch) w3)))
set_option maxRecDepth 100000 in
def weirref2_Sum_VC (partsA : Option Addr) (partsn : Nat) (_partsc : Nat) (w : World) (R : Ending → World → Prop) : Prop :=
  LoopVC (S := Int × Int × Int) (fun s_ w1 K122 => weirref2_Sum_L122 R partsA partsn s_.1 s_.2.1 s_.2.2 w1 K122) (0, 0, 0) w
def weirref2_Sum_H : Hints := [(122, [(3, .int .i64), (4, .int .i64), (5, .int .i64)]), (7826, [(3, .int .i64), (4, .int .i64), (6, .int .i64)])]
set_option maxRecDepth 100000 in
theorem weirref2_Sum_of (partsA : Option Addr) (partsn : Nat) (partsc : Nat) (w : World) (R : Ending → World → Prop) (hvc_ : weirref2_Sum_VC partsA partsn partsc w R) :
    Calls Tryz.prog 95 #[.slice partsA partsn partsc] w R :=
  calls_of_wpc callOk mixedOk (H := weirref2_Sum_H) (args := [.slice partsA partsn partsc]) (fn := Tryz.f95) (c := bodyOf Tryz.f95) Tryz.func95 rfl (Nat.le_of_ble_eq_true rfl)
    (Eq.mp (by kernel_rfl : weirref2_Sum_VC partsA partsn partsc w R = wpc Tryz.prog callF Tryz.f95.ntmps weirref2_Sum_H 1 (bodyOf Tryz.f95) (argEnv 0 [.slice partsA partsn partsc]) [] w (finish Tryz.prog callF Tryz.f95.results.toList R)) hvc_)

set_option maxRecDepth 100000 in
def weirref2_Check_VC (partsA : Option Addr) (partsn : Nat) (partsc : Nat) (w : World) (R : Ending → World → Prop) : Prop :=
  Calls Tryz.prog 95 #[.slice partsA partsn partsc] w (onRet (fun r_ w1 => ∃ x : Int, r_ = .int .i64 x ∧
  R (.returned (.int .i64 (IntKind.i64.wrap (65535 - x)))) w1)
    (fun ch w1 => R (.panicked ch) w1))
def weirref2_Check_H : Hints := []
set_option maxRecDepth 100000 in
theorem weirref2_Check_of (partsA : Option Addr) (partsn : Nat) (partsc : Nat) (w : World) (R : Ending → World → Prop) (hvc_ : weirref2_Check_VC partsA partsn partsc w R) :
    Calls Tryz.prog 83 #[.slice partsA partsn partsc] w R :=
  calls_of_wpc callOk mixedOk (H := weirref2_Check_H) (args := [.slice partsA partsn partsc]) (fn := Tryz.f83) (c := bodyOf Tryz.f83) Tryz.func83 rfl (Nat.le_of_ble_eq_true rfl)
    (Eq.mp (by kernel_rfl : weirref2_Check_VC partsA partsn partsc w R = wpc Tryz.prog callF Tryz.f83.ntmps weirref2_Check_H 1 (bodyOf Tryz.f83) (argEnv 0 [.slice partsA partsn partsc]) [] w (finish Tryz.prog callF Tryz.f83.results.toList R)) hvc_)
end Go.Proofs.YteppichfkeknbaaGreatDoor
/- Contracts of package view's inner looks. -/
namespace Go.Proofs.YteppichfkeknbaaGreatDoor
open Go.Eng

end Go.Proofs.YteppichfkeknbaaGreatDoor
/- The deferred closures of package view (recover), and the looks at its face: Uint, Window. -/
namespace Go.Proofs.YteppichfkeknbaaGreatDoor
open Go.Eng

section
variable {u : TypeId} {pv : Value} {older : List PanicEntry} {w : World} {g1 g2 g3 : Nat} {x1 x2 x3 : Value}
end

/-! ### Uint, Window -/

end Go.Proofs.YteppichfkeknbaaGreatDoor
/- Contracts of package view's Fields and what it stands on. -/
namespace Go.Proofs.YteppichfkeknbaaGreatDoor
open Go.Eng Go.RowKit

theorem tyInt : TypeIs Tryz.prog 3 (.int .i64 0) 1 8 := .of (by kernel_rfl)
theorem tyByte : TypeIs Tryz.prog 5 (.int .u8 0) 1 1 := .of (by kernel_rfl)

theorem bits_yes {A : Option Addr} {n c : Nat} {ws : List Int} {w : World} (hb : Cells w A (ws.map (.int .i64))) (hl : ws.length = n) (h : widthsOk ws) :
    Calls Tryz.prog 104 #[.slice A n c] w fun e w' => w = w' ∧ e = .returned (.tuple #[.int .i64 (psum ws / 8), .int .i64 0]) := by
  obtain ⟨h64, hW, h8⟩ := h
  refine view_bits_of A n c w _ ?_
  unfold view_bits_VC
  refine Br.no (by omega) ?_
  refine LoopVC.of (fun s w1 => w = w1 ∧ ∃ i : Nat, i ≤ n ∧ s = (psum (ws.take i), (i : Int))) (fun s _ => (n - s.2).toNat) ⟨rfl, 0, by omega, rfl⟩ ?_
  rintro _ w1 ⟨rfl, i, hi, rfl⟩
  have hb1 := psum_bound (hW.take i)
  have hle : (ws.take i).length ≤ 64 := by rw [List.length_take]; omega
  show view_bits_L122 _ A n (psum (ws.take i)) (i : Int) w _
  unfold view_bits_L122
  refine Br.dec (fun h1 => ?_) (fun h1 => ?_)
  · refine IdxVC.int hb (by omega) (by omega) hl fun a hc => ⟨_, hc, ?_⟩
    have hil : i < ws.length := by omega
    have hx := hW ws[i] (List.getElem_mem hil)
    rw [getD_cast _ _ hil]
    refine Br.no (by omega) (Br.no (by omega) ?_)
    have e2 : psum (ws.take (i + 1)) = psum (ws.take i) + ws[i] := by
      rw [List.take_succ_eq_append_getElem hil, psum_snoc]
    refine ⟨⟨rfl, i + 1, by omega, ?_⟩, ?_⟩
    · rw [w64 (n := psum (ws.take i) + ws[i]) (by omega) (by omega), w64 (n := (i : Int) + 1) (by omega) (by omega), e2]; simp
    · simp only
      rw [w64 (n := (i : Int) + 1) (by omega) (by omega)]; omega
  · have hin : i = ws.length := by omega
    subst hin
    rw [List.take_length] at hb1 ⊢
    have e8 : Int.tmod (psum ws) 8 = 0 := by rw [Int.tmod_eq_emod_of_nonneg hb1.1]; exact h8
    rw [e8]
    refine Br.no (by decide) ⟨rfl, ?_⟩
    rw [Int.tdiv_eq_ediv_of_nonneg hb1.1, w64 (by omega) (by omega)]

end Go.Proofs.YteppichfkeknbaaGreatDoor
/- Contracts of package view's Fields where it refuses, and of Pack. -/
namespace Go.Eng
open Go Go.RowKit
theorem zeros_one (z : Value) : ∀ n, zeros [z] n = List.replicate n z
  | 0 => rfl
  | n + 1 => by simp [zeros, zeros_one z n, List.replicate_succ]
theorem MakeVC.blk {w : World} {e bytes : Nat} {z : Value} {l c : Int} {F : Nat → World → Prop} (h0 : 0 ≤ l) (h1 : l ≤ c) (h2 : bytes * c ≤ 281474976710656)
    (h : ∀ g w', g = w.heap.size → w'.heap.size = w.heap.size + 1 → Ext w w' → Blk w' g e (List.replicate c.toNat z) → F g w') : MakeVC w e bytes [z] l c F :=
  ⟨h0, h1, h2, NewVC.blk fun g w' hg hz hE hb => h g w' hg hz hE (by rw [zeros_one] at hb; simpa using hb)⟩
theorem IdxVC.blk {g n : Nat} {i : Int} {F : Addr → Prop} (h0 : 0 ≤ i) (h1 : i < n) (hF : F ⟨g, i.toNat, none⟩) : IdxVC (some ⟨g, 0, none⟩) n 1 i F :=
  ⟨_, rfl, h0, h1, by rw [addr_add]; simpa using hF⟩
theorem own_of_blk {w : World} {g base n c : Nat} {e : TypeId} {cs : List Value} (h : Blk w g e cs) (hb : base ≤ g) (hc : cs.length = c) (hn : n ≤ c) (hm : c ≤ maxLen) :
    w.ownsRow base e 1 (.slice (some ⟨g, 0, none⟩) n c) n (cs.take n) :=
  ⟨by simp [hc, hn], .inr ⟨g, c, cs.toArray, rfl, hb, h, hn, hm, by simp [hc], by simp⟩⟩
theorem and1_i64 {y : Int} (h0 : 0 ≤ y) (h1 : y < 9223372036854775808) : bitv .and .i64 y 1 = y % 2 := by
  obtain ⟨a, rfl⟩ := Int.eq_ofNat_of_zero_le h0
  unfold bitv
  simp only
  have e1 : (BitVec.ofInt IntKind.i64.bits (a : Int) &&& BitVec.ofInt IntKind.i64.bits 1).toNat = a % 2 := by
    rw [BitVec.toNat_and]
    have t1 : (BitVec.ofInt IntKind.i64.bits (a : Int)).toNat = a := by simp [IntKind.bits]; omega
    have t2 : (BitVec.ofInt IntKind.i64.bits 1).toNat = 1 := by decide
    rw [t1, t2, Nat.and_one_is_mod]
  rw [e1]
  have : ((a % 2 : Nat) : Int) = (a : Int) % 2 := by omega
  rw [this]
  exact w64 (by omega) (by omega)
theorem map_set {α β : Type} (f : α → β) (l : List α) (i : Nat) (a : α) : (l.map f).set i (f a) = (l.set i a).map f := by
  simp [List.map_set]
theorem bitAt_zeros (n q : Nat) : bitAt (List.replicate n 0) q = 0 := by
  unfold bitAt
  have : (List.replicate n (0 : Int)).getD (q / 8) 0 = 0 := by
    simp [List.getD_eq_getElem?_getD, List.getElem?_replicate]; split <;> rfl
  rw [this]; simp
theorem Bts.set {ds : List Int} (h : Bts ds) (i : Nat) {y : Int} (h0 : 0 ≤ y) (h1 : y < 256) : Bts (ds.set i y) := by
  intro x hx
  rcases List.mem_or_eq_of_mem_set hx with hx | rfl
  · exact h x hx
  · exact ⟨h0, h1⟩
end Go.Eng
namespace Go.Proofs.YteppichfkeknbaaGreatDoor
open Go.Eng Go.RowKit

/-- Pack's inner loop: one value's bits. -/
theorem pack_inner {ws vs : List Int} {B g1 : Nat} {L wide v t31 : Int} {w0 : World} {K : Int × Int → World → Prop} {ds : List Int} {w : World} {i : Nat}
    (hM : Mod (fun k => k = g1) w0 w) (hb : Blk w g1 5 (ds.map (.int .u8))) (hl : (ds.length : Int) = L) (hB : Bts ds) (hw0 : 1 ≤ wide) (hw1 : wide ≤ 32) (hfit : (B : Int) + wide ≤ 8 * L) (hL : L ≤ 4096)
    (hv0 : 0 ≤ v) (hv1 : v < 2 ^ wide.toNat) (hz : ∀ q, B ≤ q → bitAt ds q = 0) (hW : W32 (ws.take i)) (hpB : (psum (ws.take i)).toNat = B) (hf : fieldsV (bitAt ds) 0 (ws.take i) = vs.take i)
    (hend : ∀ w' ds', Mod (fun k => k = g1) w0 w' → Blk w' g1 5 (ds'.map (.int .u8)) → ds'.length = ds.length → Bts ds' → (∀ q, B + wide.toNat ≤ q → bitAt ds' q = 0) → fieldsV (bitAt ds') 0 (ws.take i) = vs.take i →
      fieldV (bitAt ds') B wide.toNat = v → K ((B : Int) + wide, IntKind.i64.wrap (t31 + 1)) w') :
    LoopVC (S := Int × Int) (fun s w4 K1042846 => view_Pack_L1042846 L g1 t31 K v s.1 s.2 w4 K1042846) ((B : Int), IntKind.i64.wrap (wide - 1)) w := by
  rw [w64 (n := wide - 1) (by omega) (by omega)]
  refine LoopVC.of (fun s w' => ∃ (j : Nat) (ds' : List Int), (j : Int) ≤ wide ∧ s = ((B : Int) + j, wide - 1 - j) ∧ Mod (fun k => k = g1) w0 w' ∧ Blk w' g1 5 (ds'.map (.int .u8)) ∧ ds'.length = ds.length ∧ Bts ds' ∧
    (∀ q, B + j ≤ q → bitAt ds' q = 0) ∧ fieldsV (bitAt ds') 0 (ws.take i) = vs.take i ∧ fieldV (bitAt ds') B j = v / 2 ^ (wide.toNat - j)) (fun s _ => (s.2 + 1).toNat) ?_ ?_
  · refine ⟨0, ds, by omega, by simp, hM, hb, rfl, hB, fun q hq => hz q (by omega), hf, ?_⟩
    simp only [fieldV, Nat.sub_zero]
    rw [Int.ediv_eq_zero_of_lt hv0 hv1]
  · rintro _ w4 ⟨j, ds', hj, rfl, hM, hb, hl', hB', hz', hf', hfv⟩
    show view_Pack_L1042846 L g1 t31 K v ((B : Int) + j) (wide - 1 - j) w4 _
    unfold view_Pack_L1042846
    refine Br.dec (fun hk => ?_) (fun hk => ?_)
    · have e1 : Int.tdiv ((B : Int) + j) 8 = (((B + j) / 8 : Nat) : Int) := by rw [Int.tdiv_eq_ediv_of_nonneg (by omega)]; omega
      have e2 : Int.tmod ((B : Int) + j) 8 = (((B + j) % 8 : Nat) : Int) := by rw [Int.tmod_eq_emod_of_nonneg (by omega)]; omega
      rw [e1, e2, w64 (n := (((B + j) / 8 : Nat) : Int)) (by omega) (by omega), wu64 (n := (((B + j) % 8 : Nat) : Int)) (by omega) (by omega),
        wu64 (n := 7 - (((B + j) % 8 : Nat) : Int)) (by omega) (by omega), wu64 (n := wide - 1 - (j : Int)) (by omega) (by omega)]
      have hlt : (B + j) / 8 < ds'.length := by omega
      refine IdxVC.blk (by omega) (by omega) ?_
      rw [Int.toNat_natCast]
      refine ⟨ds'[(B + j) / 8], by rw [hb.cell]; simp [hlt], by omega, by omega, ?_⟩
      refine IdxVC.blk (by omega) (by omega) ?_
      rw [Int.toNat_natCast]
      have ek : (min (wide - 1 - (j : Int)).toNat 64) = wide.toNat - (j + 1) := by omega
      have em : (min (7 - (((B + j) % 8 : Nat) : Int)).toNat 8) = 7 - (B + j) % 8 := by omega
      rw [ek, em]
      have hdv : Int.fdiv v (2 ^ (wide.toNat - (j + 1))) = v / 2 ^ (wide.toNat - (j + 1)) := Int.fdiv_eq_ediv_of_nonneg _ (Int.pow_nonneg (by decide))
      have hp := pow2_32 (n := wide.toNat) (by omega)
      have hdb : 0 ≤ v / 2 ^ (wide.toNat - (j + 1)) := Int.ediv_nonneg hv0 (Int.pow_nonneg (by decide))
      have hdb2 : v / 2 ^ (wide.toNat - (j + 1)) ≤ v := Int.ediv_le_self _ hv0
      rw [hdv, and1_i64 hdb (by omega)]
      generalize hbe : (v / 2 ^ (wide.toNat - (j + 1))) % 2 = b
      have hb0 : 0 ≤ b := by omega
      have hb1 : b < 2 := by omega
      have hx := hB'.at hlt
      have hzb : (ds'[(B + j) / 8] / 2 ^ (7 - (B + j) % 8)) % 2 = 0 := by
        have := hz' (B + j) (by omega)
        unfold bitAt at this
        simpa [hlt] using this
      obtain ⟨y0, y1, hy⟩ := or_bit (m := 7 - (B + j) % 8) hx.1 hx.2 (by omega) hb0 hb1 hzb
      rw [wu8 (n := b) hb0 (by omega)]
      generalize bitv .or .u8 ds'[(B + j) / 8] (IntKind.u8.wrap (b * 2 ^ (7 - (B + j) % 8))) = y at y0 y1 hy
      have hbs := bitAt_set hlt hy
      refine SetVC.blk hb (by simp [hlt]) fun w5 hz5 hm5 hb5 => ?_
      rw [map_set] at hb5
      rw [w64 (n := (B : Int) + j + 1) (by omega) (by omega), w64 (n := wide - 1 - (j : Int) - 1) (by omega) (by omega)]
      refine ⟨⟨j + 1, ds'.set ((B + j) / 8) y, by omega, ?_, hM.trans hm5, hb5, by simpa using hl', hB'.set _ y0 y1, ?_, ?_, ?_⟩, ?_⟩
      · rw [Prod.mk.injEq]; constructor <;> omega
      · intro q hq
        rw [hbs, if_neg (by omega)]
        exact hz' q (by omega)
      · rw [← hf']
        refine fieldsV_congr _ _ hW fun q hq => ?_
        rw [hbs, if_neg (by omega)]
      · simp only [fieldV]
        rw [hbs, if_pos rfl]
        have hc : fieldV (bitAt (ds'.set ((B + j) / 8) y)) B j = fieldV (bitAt ds') B j := fieldV_congr _ _ _ fun q hq => by
          rw [hbs, if_neg (by omega)]
        rw [hc, hfv, ← hbe]
        have := half_join v (wide.toNat - (j + 1)) hv0
        rwa [show wide.toNat - (j + 1) + 1 = wide.toNat - j by omega] at this
      · simp only; omega
    · have hjw : (j : Int) = wide := by omega
      have hj2 : j = wide.toNat := by omega
      have hfv2 : fieldV (bitAt ds') B wide.toNat = v := by rw [← hj2, hfv, ← hj2]; simp
      rw [hjw]
      exact hend w4 ds' hM hb hl' hB' (by rw [← hj2]; exact hz') hf' hfv2

theorem pack_ok {A W : Option Addr} {n c m d : Nat} {ws vs : List Int} {w : World} (hws : Cells w W (ws.map (.int .i64))) (hm : ws.length = m) (hvs : Cells w A (vs.map (.int .i64))) (hn : vs.length = n)
    (hok : widthsOk ws) (hnm : n = m) :
    Calls Tryz.prog 91 #[.slice W m d, .slice A n c] w fun e w' => Ext w w' ∧
      ((valuesOk ws vs ∧ ∃ A' ds, Packed ws vs ds ∧ e = .returned (.tuple #[.slice A' ds.length ds.length, .int .i64 0]) ∧ w'.ownsRow w.heap.size 5 1 (.slice A' ds.length ds.length) ds.length (ds.map (.int .u8))) ∨
       (¬ valuesOk ws vs ∧ e = .returned (.tuple #[.slice none 0 0, .int .i64 12]))) := by
  have hW := hok.2.1
  have hpb := psum_bound hW
  have h64 : ws.length ≤ 64 := hok.1
  have h8 := hok.2.2
  refine view_Pack_of W m d A n c w _ ?_
  unfold view_Pack_VC
  refine (bits_yes hws hm hok).mono ?_
  rintro _ w1 ⟨rfl, rfl⟩
  refine ⟨_, _, rfl, Br.no (by omega) (Br.no (by omega) ?_)⟩
  refine MakeVC.blk (by omega) (by omega) (by omega) fun g1 w2 hg1 hz2 hE2 hb => ?_
  refine LoopVC.of (fun s w' => ∃ (i : Nat) (ds : List Int), i ≤ m ∧ s = (psum (ws.take i), (i : Int)) ∧ Mod (fun k => k = g1) w2 w' ∧ Blk w' g1 5 (ds.map (.int .u8)) ∧ (ds.length : Int) = psum ws / 8 ∧ Bts ds ∧
    (∀ q, (psum (ws.take i)).toNat ≤ q → bitAt ds q = 0) ∧ fieldsV (bitAt ds) 0 (ws.take i) = vs.take i ∧ (∀ j, j < i → 0 ≤ vs.getD j 0 ∧ vs.getD j 0 < 2 ^ (ws.getD j 0).toNat)) (fun s _ => (m - s.2).toNat) ?_ ?_
  · refine ⟨0, List.replicate (psum ws / 8).toNat 0, by omega, by simp [psum], Mod.refl _ _, by simpa using hb, by simp; omega, ?_, fun q _ => bitAt_zeros _ _, by simp [fieldsV], fun j hj => by omega⟩
    intro x hx
    have := List.eq_of_mem_replicate hx
    omega
  · rintro _ w3 ⟨i, ds, him, rfl, hM, hb, hl, hB, hz, hf, hvok⟩
    have hE3 : Ext w w3 := hE2.trans' hM fun k hk e => by omega
    show view_Pack_L1018 _ W m A n (psum ws / 8) g1 (psum (ws.take i)) (i : Int) w3 _
    unfold view_Pack_L1018
    refine Br.dec (fun hlt => ?_) (fun hge => ?_)
    · have hil : i < ws.length := by omega
      have hiv : i < vs.length := by omega
      have hwi := hW ws[i] (List.getElem_mem hil)
      refine IdxVC.int (hws.ext hE3) (by omega) hlt hm fun a hc => ⟨_, hc, ?_⟩
      refine IdxVC.int (hvs.ext hE3) (by omega) (by omega) hn fun a1 hc1 => ⟨_, hc1, ?_⟩
      rw [getD_cast _ _ hil, getD_cast _ _ hiv]
      have gw : ws.getD i 0 = ws[i] := by simp [hil]
      have gv : vs.getD i 0 = vs[i] := by simp [hiv]
      refine Br.dec (fun hneg => ⟨hE3, .inr ⟨fun hv => ?_, rfl⟩⟩) (fun hneg => ⟨by rw [wu64 (by omega) (by omega)]; omega, ?_⟩)
      · have := hv.2 i hil; omega
      rw [wu64 (n := ws[i]) (by omega) (by omega)]
      have ek : min (ws[i]).toNat 64 = (ws[i]).toNat := by omega
      have hdv : Int.fdiv vs[i] (2 ^ (ws[i]).toNat) = vs[i] / 2 ^ (ws[i]).toNat := Int.fdiv_eq_ediv_of_nonneg _ (Int.pow_nonneg (by decide))
      have hpos : (0 : Int) < 2 ^ (ws[i]).toNat := Int.pow_pos (by decide)
      rw [ek, hdv]
      refine Br.dec (fun hbig => ⟨hE3, .inr ⟨fun hv => hbig ?_, rfl⟩⟩) (fun hsm => ?_)
      · have := hv.2 i hil
        rw [gv, gw] at this
        exact Int.ediv_eq_zero_of_lt this.1 this.2
      have hvlt : vs[i] < 2 ^ (ws[i]).toNat := by
        have h0 : vs[i] / 2 ^ (ws[i]).toNat = 0 := by simpa using hsm
        have h1 := Int.mul_ediv_add_emod vs[i] (2 ^ (ws[i]).toNat)
        have h2 := Int.emod_lt_of_pos vs[i] hpos
        rw [h0, Int.mul_zero, Int.zero_add] at h1
        omega
      have hp0 := psum_bound (hW.take i)
      have hsn : psum (ws.take (i + 1)) = psum (ws.take i) + ws[i] := by rw [List.take_succ_eq_append_getElem hil, psum_snoc]
      have hle := psum_take_le hW (i + 1)
      obtain ⟨B, hBe⟩ := Int.eq_ofNat_of_zero_le hp0.1
      rw [hBe]
      refine pack_inner (ws := ws) (vs := vs) (i := i) hM hb hl hB hwi.1 hwi.2 (by omega) (by omega) (by omega) hvlt (fun q hq => hz q (by omega)) (hW.take i) (by omega) hf ?_
      intro w' ds' hM' hb' hl' hB' hz' hf' hfv'
      refine ⟨⟨i + 1, ds', by omega, ?_, hM', hb', by omega, hB', ?_, ?_, ?_⟩, ?_⟩
      · rw [w64 (n := (i : Int) + 1) (by omega) (by omega), hsn, hBe]; simp
      · intro q hq; exact hz' q (by omega)
      · rw [List.take_succ_eq_append_getElem hil, fieldsV_snoc _ _ _ _ (hW.take i), hf', List.take_succ_eq_append_getElem hiv]
        have e2 : (0 + (psum (ws.take i)).toNat) = B := by omega
        rw [e2, hfv']
      · intro j hj
        rcases Nat.lt_succ_iff_lt_or_eq.1 hj with hj | rfl
        · exact hvok j hj
        · rw [gv, gw]; exact ⟨by omega, hvlt⟩
      · simp only
        rw [w64 (n := (i : Int) + 1) (by omega) (by omega)]; omega
    · have him' : i = ws.length := by omega
      subst him'
      rw [List.take_length] at hf hz
      have hvt : vs.take ws.length = vs := List.take_of_length_le (by omega)
      rw [hvt] at hf
      refine ⟨hE3, .inl ⟨⟨by omega, fun j hj => hvok j hj⟩, some ⟨g1, 0, none⟩, ds, ⟨hl, hB, hf⟩, ?_, ?_⟩⟩
      · have : (psum ws / 8).toNat = ds.length := by omega
        rw [this]
      · have := own_of_blk (n := ds.length) (base := w.heap.size) hb (by omega) (by simp) (Nat.le_refl _) (by simp only [maxLen]; omega)
        rwa [List.take_of_length_le (by simp)] at this
end Go.Proofs.YteppichfkeknbaaGreatDoor
/- Sums by ones' complement: the plain law of folding, and both programs' sums over parts. -/
namespace Go.Eng
open Go Go.RowKit
/-- The sum of the bytes, each second one by 256. -/
def rawS : Bool → List Int → Int
  | _, [] => 0
  | true, b :: r => b * 256 + rawS false r
  | false, b :: r => b + rawS true r
def flipS (h : Bool) (n : Nat) : Bool := if n % 2 = 0 then h else !h
theorem flipS_zero (h : Bool) : flipS h 0 = h := rfl
theorem flipS_succ (h : Bool) (n : Nat) : flipS h (n + 1) = !(flipS h n) := by
  unfold flipS
  rcases Nat.mod_two_eq_zero_or_one n with e | e
  · rw [if_neg (by omega), if_pos e]
  · rw [if_pos (by omega), if_neg (by omega)]; simp
theorem flipS_add (h : Bool) (n m : Nat) : flipS (flipS h n) m = flipS h (n + m) := by
  induction m with
  | zero => rfl
  | succ m ih => rw [flipS_succ, ih, ← Nat.add_assoc, flipS_succ]
theorem rawS_append : ∀ (a b : List Int) (h : Bool), rawS h (a ++ b) = rawS h a + rawS (flipS h a.length) b
  | [], b, h => by simp [rawS, flipS_zero]
  | x :: r, b, true => by
    have e : flipS true (r.length + 1) = flipS false r.length := by rw [Nat.add_comm, ← flipS_add]; rfl
    simp only [List.cons_append, rawS, rawS_append r b false, List.length_cons, e]; omega
  | x :: r, b, false => by
    have e : flipS false (r.length + 1) = flipS true r.length := by rw [Nat.add_comm, ← flipS_add]; rfl
    simp only [List.cons_append, rawS, rawS_append r b true, List.length_cons, e]; omega
theorem rawS_bound : ∀ {l : List Int} (_ : Bts l) (h : Bool), 0 ≤ rawS h l ∧ rawS h l ≤ 65280 * l.length
  | [], _, _ => by simp [rawS]
  | x :: r, hb, true => by
    have h1 := hb x (by simp)
    have h2 := rawS_bound (fun y hy => hb y (by simp [hy])) false (l := r)
    simp only [rawS, List.length_cons]; omega
  | x :: r, hb, false => by
    have h1 := hb x (by simp)
    have h2 := rawS_bound (fun y hy => hb y (by simp [hy])) true (l := r)
    simp only [rawS, List.length_cons]; omega
theorem rawS_one (h : Bool) (x : Int) : rawS h [x] = if h then x * 256 else x := by cases h <;> simp [rawS]
theorem take_snocD (l : List Int) (k : Nat) (h : k < l.length) : l.take (k + 1) = l.take k ++ [l.getD k 0] := by
  rw [List.take_succ_eq_append_getElem h]; simp [h]
theorem rawS_take {l : List Int} {k : Nat} (h : Bool) (hk : k < l.length) : rawS h (l.take (k + 1)) = rawS h (l.take k) + if flipS h k then l.getD k 0 * 256 else l.getD k 0 := by
  rw [take_snocD l k hk, rawS_append, rawS_one, List.length_take, Nat.min_eq_left (by omega)]
/-- What a number folds to. -/
def foldS (n : Int) : Int := if n = 0 then 0 else (n - 1) % 65535 + 1
theorem foldS_bound {n : Int} (_ : 0 ≤ n) : 0 ≤ foldS n ∧ foldS n ≤ 65535 := by unfold foldS; split <;> omega
def sumS (l : List Int) : Int := foldS (rawS true l)

structure PartV where
  A : Option Addr
  n : Nat
  c : Nat
  bs : List Int
def PartV.val (p : PartV) : Value := .slice p.A p.n p.c
def groundS (ps : List PartV) : List Int := (ps.map PartV.bs).flatten
structure PartsAt (w : World) (PA : Option Addr) (ps : List PartV) : Prop where
  top : Cells w PA (ps.map PartV.val)
  each : ∀ p ∈ ps, Cells w p.A (p.bs.map (.int .u8)) ∧ p.bs.length = p.n ∧ Bts p.bs ∧ p.n ≤ 70000
theorem PartsAt.ext {w w' : World} {PA : Option Addr} {ps : List PartV} (h : PartsAt w PA ps) (hE : Ext w w') : PartsAt w' PA ps :=
  ⟨h.top.ext hE, fun p hp => ⟨(h.each p hp).1.ext hE, (h.each p hp).2⟩⟩
theorem PartsAt.read {w : World} {PA : Option Addr} {ps : List PartV} (h : PartsAt w PA ps) {i m : Nat} (hi : i < ps.length) (hm : ps.length = m) {F : Addr → Prop} (hF : ∀ a, w.cell? a = some (.slice ps[i].A ps[i].n ps[i].c) → F a) : IdxVC PA m 1 (i : Int) F :=
  IdxVC.of h.top (by omega) (by omega) (by simpa using hm) fun a _ ha => hF _ (by rw [ha]; simp [PartV.val])
theorem groundS_snoc (ps : List PartV) (p : PartV) : groundS (ps ++ [p]) = groundS ps ++ p.bs := by simp [groundS]
theorem groundS_take {ps : List PartV} {i : Nat} (hi : i < ps.length) : groundS (ps.take (i + 1)) = groundS (ps.take i) ++ ps[i].bs := by rw [List.take_succ_eq_append_getElem hi, groundS_snoc]
theorem groundS_bts {ps : List PartV} (h : ∀ p ∈ ps, Bts p.bs) : Bts (groundS ps) := by
  intro x hx
  obtain ⟨l, hl, hx⟩ := List.mem_flatten.1 hx
  obtain ⟨p, hp, rfl⟩ := List.mem_map.1 hl
  exact h p hp x hx
theorem groundS_len {ps : List PartV} {b : Nat} (h : ∀ p ∈ ps, p.bs.length ≤ b) : (groundS ps).length ≤ ps.length * b := by
  induction ps with
  | nil => simp [groundS]
  | cons p r ih =>
    have h1 := h p (by simp)
    have h2 := ih fun q hq => h q (by simp [hq])
    simp only [groundS, List.map_cons, List.flatten_cons, List.length_append, List.length_cons] at h2 ⊢
    rw [Nat.add_mul]; omega
end Go.Eng
namespace Go.Proofs.YteppichfkeknbaaGreatDoor
open Go.Eng Go.RowKit

theorem folded_spec {n : Int} {w : World} (h0 : 0 ≤ n) (h1 : n < 4611686018427387904) : Calls Tryz.prog 107 #[.int .i64 n] w fun e w' => w = w' ∧ e = .returned (.int .i64 (foldS n)) := by
  refine weirref2_folded_of n w _ ?_
  unfold weirref2_folded_VC
  refine Br.dec (fun h => ⟨rfl, by subst h; rfl⟩) (fun h => ⟨rfl, ?_⟩)
  have e : Int.tmod (n - 1) 65535 = (n - 1) % 65535 := Int.tmod_eq_emod_of_nonneg (by omega)
  rw [w64 (n := n - 1) (by omega) (by omega), e, w64 (by omega) (by omega)]
  unfold foldS; rw [if_neg h]

section
variable {w : World} {PA : Option Addr} {m mc : Nat} {ps : List PartV}
set_option maxHeartbeats 1000000 in
theorem refSum_spec (h : PartsAt w PA ps) (hm : ps.length = m) (hm2 : m ≤ 10) : Calls Tryz.prog 95 #[.slice PA m mc] w fun e w' => w = w' ∧ e = .returned (.int .i64 (sumS (groundS ps))) := by
  refine weirref2_Sum_of PA m mc w _ ?_
  unfold weirref2_Sum_VC
  have hB : ∀ i, Bts (groundS (ps.take i)) := fun i => groundS_bts fun p hp => (h.each p (List.mem_of_mem_take hp)).2.2.1
  have hL : ∀ i, i ≤ m → (groundS (ps.take i)).length ≤ i * 70000 := fun i hi => by
    have := groundS_len (ps := ps.take i) (b := 70000) fun p hp => by have := h.each p (List.mem_of_mem_take hp); omega
    rw [List.length_take] at this
    have e : min i ps.length = i := by omega
    rw [e] at this; exact this
  refine LoopVC.of (fun s w' => w = w' ∧ ∃ i : Nat, s = (((groundS (ps.take i)).length : Int), rawS true (groundS (ps.take i)), (i : Int)) ∧ i ≤ m) (fun s _ => ((m : Int) - s.2.2).toNat) ⟨rfl, 0, by simp [groundS, rawS], by omega⟩ ?_
  rintro _ w1 ⟨rfl, i, rfl, hi⟩
  show weirref2_Sum_L122 _ PA m ((groundS (ps.take i)).length : Int) (rawS true (groundS (ps.take i))) (i : Int) w _
  unfold weirref2_Sum_L122
  have hg := hB i
  have hgl := hL i hi
  have hraw := rawS_bound hg true
  refine Br.dec (fun hlt => ?_) (fun hge => ?_)
  · have hil : i < ps.length := by omega
    obtain ⟨hc, hl, hb, hn⟩ := h.each _ (List.getElem_mem hil)
    generalize hG : groundS (ps.take i) = G at hg hgl hraw ⊢
    refine LoopVC.of (fun s w' => w = w' ∧ ∃ k : Nat, s = (((G.length + k : Nat) : Int), rawS true G + rawS (flipS true G.length) (ps[i].bs.take k), (k : Int)) ∧ k ≤ ps[i].n) (fun s _ => ((ps[i].n : Int) - s.2.2).toNat) ⟨rfl, 0, by simp [rawS], by omega⟩ ?_
    rintro _ w2 ⟨rfl, k, rfl, hk⟩
    show weirref2_Sum_L7826 PA m (i : Int) _ ((G.length + k : Nat) : Int) (rawS true G + rawS (flipS true G.length) (ps[i].bs.take k)) (k : Int) w _
    unfold weirref2_Sum_L7826
    have hr := rawS_bound (hb.take k) (flipS true G.length)
    have hlk : (ps[i].bs.take k).length = k := by rw [List.length_take]; omega
    rw [hlk] at hr
    rw [w64 (n := (k : Int) + 1) (by omega) (by omega), w64 (n := (i : Int) + 1) (by omega) (by omega), w64 (n := ((G.length + k : Nat) : Int) + 1) (by omega) (by omega)]
    refine h.read hil hm fun a ha => ⟨_, _, _, ha, Br.dec (fun hkl => ?_) (fun hkg => ?_)⟩
    · have hkl' : k < ps[i].bs.length := by omega
      have hx : 0 ≤ ps[i].bs.getD k 0 ∧ ps[i].bs.getD k 0 < 256 := by simp [List.getD_eq_getElem?_getD, hkl']; exact hb.at hkl'
      have hrt := rawS_take (flipS true G.length) hkl'
      rw [flipS_add] at hrt
      refine h.read hil hm fun a ha => ⟨_, _, _, ha, ?_⟩
      refine IdxVC.int hc (by omega) hkl hl fun a hca => ⟨_, hca, ?_⟩
      rw [Int.toNat_natCast, w64 (n := ps[i].bs.getD k 0) (by omega) (by omega), w64 (n := ps[i].bs.getD k 0 * 256) (by omega) (by omega)]
      have em : Int.tmod ((G.length + k : Nat) : Int) 2 = (((G.length + k) % 2 : Nat) : Int) := by rw [Int.tmod_eq_emod_of_nonneg (by omega)]; omega
      rw [em]
      refine Br.dec (fun he => ?_) (fun he => ?_)
      · have hh : flipS true (G.length + k) = true := by unfold flipS; rw [if_pos (by omega)]
        rw [hh, if_pos rfl] at hrt
        refine ⟨⟨rfl, k + 1, ?_, by omega⟩, by show ((ps[i].n : Int) - ((k : Int) + 1)).toNat < ((ps[i].n : Int) - (k : Int)).toNat; omega⟩
        rw [hrt, w64 (by omega) (by omega)]
        simp only [Prod.mk.injEq]
        omega
      · have hh : flipS true (G.length + k) = false := by unfold flipS; rw [if_neg (by omega)]; rfl
        rw [hh, if_neg (by decide)] at hrt
        refine ⟨⟨rfl, k + 1, ?_, by omega⟩, by show ((ps[i].n : Int) - ((k : Int) + 1)).toNat < ((ps[i].n : Int) - (k : Int)).toNat; omega⟩
        rw [hrt, w64 (by omega) (by omega)]
        simp only [Prod.mk.injEq]
        omega
    · have hkn : k = ps[i].n := by omega
      subst hkn
      refine ⟨⟨rfl, i + 1, ?_, by omega⟩, by show ((m : Int) - ((i : Int) + 1)).toNat < ((m : Int) - (i : Int)).toNat; omega⟩
      rw [groundS_take hil, hG, rawS_append, List.length_append, ← hl, List.take_length]
      simp
  · have : i = m := by omega
    subst this
    refine (folded_spec (by omega) (by omega)).mono ?_
    rintro _ w3 ⟨rfl, rfl⟩
    refine ⟨_, rfl, rfl, ?_⟩
    rw [← hm, List.take_length]; rfl
theorem refCheck_spec (h : PartsAt w PA ps) (hm : ps.length = m) (hm2 : m ≤ 10) : Calls Tryz.prog 83 #[.slice PA m mc] w fun e w' => w = w' ∧ e = .returned (.int .i64 (65535 - sumS (groundS ps))) := by
  refine weirref2_Check_of PA m mc w _ ?_
  refine (refSum_spec h hm hm2).mono ?_
  rintro _ w1 ⟨rfl, rfl⟩
  have := foldS_bound (rawS_bound (groundS_bts fun p hp => (h.each p hp).2.2.1) true).1
  unfold sumS
  exact ⟨_, rfl, rfl, by rw [w64 (by omega) (by omega)]⟩
end
end Go.Proofs.YteppichfkeknbaaGreatDoor
