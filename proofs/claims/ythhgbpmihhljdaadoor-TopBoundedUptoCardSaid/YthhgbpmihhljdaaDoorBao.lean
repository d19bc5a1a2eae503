/- WRITTEN BY a program of this session (vc.py): for each Go function the condition that is enough for its contract, and the theorem that it is. -/
import Derived.Test.YthhgbpmihhljdaaDoorProg
import Derived.Test.YthhgbpmihhljdaaDoorBae
import Derived.Test.YthhgbpmihhljdaaDoorBan
import Derived.Test.YthhgbpmihhljdaaDoorBag
import Derived.Test.YthhgbpmihhljdaaDoorBah
namespace Go.Proofs.YthhgbpmihhljdaaDoor
open Go.Eng
namespace N6

set_option maxRecDepth 100000 in
def ip4_out_VC (n : Int) (hi : Int) (w : World) (R : Ending → World → Prop) : Prop :=
  Br (decide (n < 0))
    (R (.returned (.bool true)) w)
    (R (.returned (.bool (decide (hi < n)))) w)
def ip4_out_H : Hints := []
set_option maxRecDepth 100000 in
theorem ip4_out_of (n : Int) (hi : Int) (w : World) (R : Ending → World → Prop) (hvc_ : ip4_out_VC n hi w R) :
    Calls Tryd.prog 23 #[.int .i64 n, .int .i64 hi] w R :=
  calls_of_wpc callOk mixedOk (H := ip4_out_H) (args := [.int .i64 n, .int .i64 hi]) (fn := Tryd.f23) (c := bodyOf Tryd.f23) Tryd.func23 rfl (Nat.le_of_ble_eq_true rfl)
    (Eq.mp (by kernel_rfl : ip4_out_VC n hi w R = wpc Tryd.prog callF Tryd.f23.ntmps ip4_out_H 1 (bodyOf Tryd.f23) (argEnv 0 [.int .i64 n, .int .i64 hi]) [] w (finish Tryd.prog callF Tryd.f23.results.toList R)) hvc_)

set_option maxRecDepth 100000 in
def ip4_four_VC (ip : IPV) (w : World) (R : Ending → World → Prop) : Prop :=
  NewVC w (.cells ip.cells.toArray 31) fun g1 w1 =>
  NewVC w1 (.cells (A16V.z : A16V).cells.toArray 29) fun g2 w2 =>
  DrawVC w2 fun _S1 w3 =>
  SliceVC (some ⟨g2, 0, none⟩) 16 16 1 none (some 4) none fun sA sn sc =>
  SliceVC (some ⟨g1, 1, none⟩) 16 16 1 none (some 4) none fun sA1 sn1 sc1 =>
  CopyVC Tryd.prog #[32, 32] 3 (.slice sA sn sc) (.slice sA1 sn1 sc1) w3 fun _m w4 =>
  ∃ x : Int, w4.cell? ⟨g1, 0, none⟩ = some (.int .i64 x) ∧
  Br (decide (x = 4))
    (A16V.ex fun h => CellsAt w4 ⟨g1, 1, none⟩ 0 h.cells ∧
    A16V.ex fun h1 => CellsAt w4 ⟨g2, 0, none⟩ 0 h1.cells ∧
    R (.returned (.bool (A16V.beq h h1))) w4)
    (R (.returned (.bool false)) w4)
def ip4_four_H : Hints := []
set_option maxRecDepth 100000 in
theorem ip4_four_of (ip : IPV) (w : World) (R : Ending → World → Prop) (hvc_ : ip4_four_VC ip w R) :
    Calls Tryd.prog 24 #[ip.val] w R :=
  calls_of_wpc callOk mixedOk (H := ip4_four_H) (args := [ip.val]) (fn := Tryd.f24) (c := bodyOf Tryd.f24) Tryd.func24 rfl (Nat.le_of_ble_eq_true rfl)
    (Eq.mp (by kernel_rfl : ip4_four_VC ip w R = wpc Tryd.prog callF Tryd.f24.ntmps ip4_four_H 1 (bodyOf Tryd.f24) (argEnv 0 [ip.val]) [] w (finish Tryd.prog callF Tryd.f24.results.toList R)) hvc_)

set_option maxRecDepth 100000 in
def ip4_fragment_VC (mf : Bool) (off : Int) (n : Int) (w : World) (R : Ending → World → Prop) : Prop :=
  Br mf
    (Br (decide (n = 0))
      (R (.returned (.int .i64 66)) w)
      (Br (decide (Int.tmod n 8 ≠ 0))
        (R (.returned (.int .i64 66)) w)
        (Br (decide ((65515 : Int) < IntKind.i64.wrap (off + n)))
    (R (.returned (.int .i64 66)) w)
    (R (.returned (.int .i64 0)) w))))
    (Br (decide ((65515 : Int) < IntKind.i64.wrap (off + n)))
    (R (.returned (.int .i64 66)) w)
    (R (.returned (.int .i64 0)) w))
def ip4_fragment_H : Hints := []
set_option maxRecDepth 100000 in
theorem ip4_fragment_of (mf : Bool) (off : Int) (n : Int) (w : World) (R : Ending → World → Prop) (hvc_ : ip4_fragment_VC mf off n w R) :
    Calls Tryd.prog 26 #[.bool mf, .int .i64 off, .int .i64 n] w R :=
  calls_of_wpc callOk mixedOk (H := ip4_fragment_H) (args := [.bool mf, .int .i64 off, .int .i64 n]) (fn := Tryd.f26) (c := bodyOf Tryd.f26) Tryd.func26 rfl (Nat.le_of_ble_eq_true rfl)
    (Eq.mp (by kernel_rfl : ip4_fragment_VC mf off n w R = wpc Tryd.prog callF Tryd.f26.ntmps ip4_fragment_H 1 (bodyOf Tryd.f26) (argEnv 0 [.bool mf, .int .i64 off, .int .i64 n]) [] w (finish Tryd.prog callF Tryd.f26.results.toList R)) hvc_)

set_option maxRecDepth 100000 in
def ip4_PutOptions_L60 (R : Ending → World → Prop)  (outA1 : Option Addr) (outn1 : Nat) (outc1 : Nat) (w7 : World) (K60 : ((Option Addr × Nat × Nat) → World → Prop)) : Prop :=
  Br (decide ((0 : Int) < Int.tmod (outn1 : Int) 4))
    (NewVC w7 (.cells #[.int .u8 0] 5) fun g3 w8 =>
  AppVC Tryd.prog #[32, 32] 32 (.slice outA1 outn1 outc1) (.slice (some ⟨g3, 0, none⟩) 1 1) w8 fun lA3 ln3 lc3 w9 =>
  K60 (lA3, ln3, lc3) w9)
    (R (.returned (.tuple #[.slice outA1 outn1 outc1, .int .i64 0])) w7)
set_option maxRecDepth 100000 in
def ip4_PutOptions_L58 (R : Ending → World → Prop) (lA : Option Addr) (ln : Nat) (outA : Option Addr) (outn : Nat) (outc : Nat) (t9_ : Int) (w1 : World) (K58 : ((Option Addr × Nat × Nat) × Int → World → Prop)) : Prop :=
  Br (decide (t9_ < (ln : Int)))
    (IdxVC lA ln 2 t9_ fun a =>
  OptV.ex fun h => CellsAt w1 a 0 h.cells ∧
  NewVC w1 (.cells (OptV.z : OptV).cells.toArray 106) fun g1 w2 =>
  Stores ⟨g1, 0, none⟩ 0 h.cells w2 fun w3 =>
  ∃ x : Int, w3.cell? ⟨g1, 0, none⟩ = some (.int .i64 x) ∧
  Br (decide (x < 2))
    (R (.returned (.tuple #[.slice none 0 0, .int .i64 65])) w3)
    (∃ x1 : Int, w3.cell? ⟨g1, 0, none⟩ = some (.int .i64 x1) ∧
    Br (decide ((255 : Int) < x1))
      (R (.returned (.tuple #[.slice none 0 0, .int .i64 65])) w3)
      (∃ (xA : Option Addr) (xn xc : Nat), w3.cell? ⟨g1, 1, none⟩ = some (.slice xA xn xc) ∧
      Br (decide ((38 : Int) < (xn : Int)))
        (R (.returned (.tuple #[.slice none 0 0, .int .i64 65])) w3)
        (∃ (xA1 : Option Addr) (xn1 xc1 : Nat), w3.cell? ⟨g1, 1, none⟩ = some (.slice xA1 xn1 xc1) ∧
        Br (decide ((40 : Int) < IntKind.i64.wrap (IntKind.i64.wrap ((outn : Int) + 2) + (xn1 : Int))))
    (R (.returned (.tuple #[.slice none 0 0, .int .i64 65])) w3)
    (∃ x2 : Int, w3.cell? ⟨g1, 0, none⟩ = some (.int .i64 x2) ∧
  ∃ (xA2 : Option Addr) (xn2 xc2 : Nat), w3.cell? ⟨g1, 1, none⟩ = some (.slice xA2 xn2 xc2) ∧
  NewVC w3 (.cells #[.int .u8 (IntKind.u8.wrap x2), .int .u8 (IntKind.u8.wrap (IntKind.i64.wrap (2 + (xn2 : Int))))] 5) fun g2 w4 =>
  AppVC Tryd.prog #[32, 32] 32 (.slice outA outn outc) (.slice (some ⟨g2, 0, none⟩) 2 2) w4 fun lA1 ln1 lc1 w5 =>
  ∃ (xA3 : Option Addr) (xn3 xc3 : Nat), w5.cell? ⟨g1, 1, none⟩ = some (.slice xA3 xn3 xc3) ∧
  AppVC Tryd.prog #[32, 32] 32 (.slice lA1 ln1 lc1) (.slice xA3 xn3 xc3) w5 fun lA2 ln2 lc2 w6 =>
  K58 ((lA2, ln2, lc2), IntKind.i64.wrap (t9_ + 1)) w6)))))
    (LoopVC (S := (Option Addr × Nat × Nat)) (fun s_ w7 K60 => ip4_PutOptions_L60 R s_.1 s_.2.1 s_.2.2 w7 K60) (outA, outn, outc) w1)
set_option maxRecDepth 100000 in
def ip4_PutOptions_VC (lA : Option Addr) (ln : Nat) (_lc : Nat) (w : World) (R : Ending → World → Prop) : Prop :=
  LoopVC (S := (Option Addr × Nat × Nat) × Int) (fun s_ w1 K58 => ip4_PutOptions_L58 R lA ln s_.1.1 s_.1.2.1 s_.1.2.2 s_.2 w1 K58) ((none, 0, 0), 0) w
def ip4_PutOptions_H : Hints := [(58, [(4, .slice), (9, .int .i64)]), (60, [(4, .slice)])]
set_option maxRecDepth 100000 in
theorem ip4_PutOptions_of (lA : Option Addr) (ln : Nat) (lc : Nat) (w : World) (R : Ending → World → Prop) (hvc_ : ip4_PutOptions_VC lA ln lc w R) :
    Calls Tryd.prog 25 #[.slice lA ln lc] w R :=
  calls_of_wpc callOk mixedOk (H := ip4_PutOptions_H) (args := [.slice lA ln lc]) (fn := Tryd.f25) (c := bodyOf Tryd.f25) Tryd.func25 rfl (Nat.le_of_ble_eq_true rfl)
    (Eq.mp (by kernel_rfl : ip4_PutOptions_VC lA ln lc w R = wpc Tryd.prog callF Tryd.f25.ntmps ip4_PutOptions_H 1 (bodyOf Tryd.f25) (argEnv 0 [.slice lA ln lc]) [] w (finish Tryd.prog callF Tryd.f25.results.toList R)) hvc_)

set_option maxRecDepth 100000 in
def ip4_Check_VC (h : Ip4V) (w : World) (R : Ending → World → Prop) : Prop :=
  NewVC w (.cells h.cells.toArray 35) fun g1 w1 =>
  ∃ x : Int, w1.cell? ⟨g1, 0, none⟩ = some (.int .i64 x) ∧
  Calls Tryd.prog 23 #[.int .i64 x, .int .i64 255] w1 (onRet (fun r_ w2 => ∃ x1 : Bool, r_ = .bool x1 ∧
  Br x1
    (R (.returned (.int .i64 68)) w2)
    (∃ x2 : Int, w2.cell? ⟨g1, 1, none⟩ = some (.int .i64 x2) ∧
    Calls Tryd.prog 23 #[.int .i64 x2, .int .i64 65535] w2 (onRet (fun r_1 w3 => ∃ x3 : Bool, r_1 = .bool x3 ∧
    Br x3
      (R (.returned (.int .i64 68)) w3)
      (∃ x4 : Int, w3.cell? ⟨g1, 4, none⟩ = some (.int .i64 x4) ∧
      Calls Tryd.prog 23 #[.int .i64 x4, .int .i64 65528] w3 (onRet (fun r_2 w4 => ∃ x5 : Bool, r_2 = .bool x5 ∧
      Br x5
        (R (.returned (.int .i64 68)) w4)
        (∃ x6 : Int, w4.cell? ⟨g1, 4, none⟩ = some (.int .i64 x6) ∧
        Br (decide (Int.tmod x6 8 ≠ 0))
          (R (.returned (.int .i64 68)) w4)
          (∃ x7 : Int, w4.cell? ⟨g1, 5, none⟩ = some (.int .i64 x7) ∧
          Calls Tryd.prog 23 #[.int .i64 x7, .int .i64 255] w4 (onRet (fun r_3 w5 => ∃ x8 : Bool, r_3 = .bool x8 ∧
          Br x8
            (R (.returned (.int .i64 68)) w5)
            (∃ x9 : Int, w5.cell? ⟨g1, 6, none⟩ = some (.int .i64 x9) ∧
            Calls Tryd.prog 23 #[.int .i64 x9, .int .i64 255] w5 (onRet (fun r_4 w6 => ∃ x10 : Bool, r_4 = .bool x10 ∧
            Br x10
              (R (.returned (.int .i64 68)) w6)
              (IPV.ex fun h1 => CellsAt w6 ⟨g1, 7, none⟩ 0 h1.cells ∧
              Calls Tryd.prog 24 #[h1.val] w6 (onRet (fun r_5 w7 => ∃ x11 : Bool, r_5 = .bool x11 ∧
              Br (!x11)
                (R (.returned (.int .i64 68)) w7)
                (IPV.ex fun h2 => CellsAt w7 ⟨g1, 24, none⟩ 0 h2.cells ∧
                Calls Tryd.prog 24 #[h2.val] w7 (onRet (fun r_6 w8 => ∃ x12 : Bool, r_6 = .bool x12 ∧
                Br (!x12)
    (R (.returned (.int .i64 68)) w8)
    (∃ (xA : Option Addr) (xn xc : Nat), w8.cell? ⟨g1, 41, none⟩ = some (.slice xA xn xc) ∧
  Calls Tryd.prog 25 #[.slice xA xn xc] w8 (onRet (fun r_7 w9 => ∃ (x0A : Option Addr) (x0n x0c : Nat), ∃ x13 : Int, r_7 = .tuple #[.slice x0A x0n x0c, .int .i64 x13] ∧
  Br (decide (x13 ≠ 0))
    (R (.returned (.int .i64 x13)) w9)
    (∃ (xA1 : Option Addr) (xn1 xc1 : Nat), w9.cell? ⟨g1, 42, none⟩ = some (.slice xA1 xn1 xc1) ∧
  Br (decide ((65535 : Int) < IntKind.i64.wrap (IntKind.i64.wrap (20 + (x0n : Int)) + (xn1 : Int))))
    (R (.returned (.int .i64 63)) w9)
    (∃ x14 : Bool, w9.cell? ⟨g1, 3, none⟩ = some (.bool x14) ∧
  ∃ x15 : Int, w9.cell? ⟨g1, 4, none⟩ = some (.int .i64 x15) ∧
  ∃ (xA2 : Option Addr) (xn2 xc2 : Nat), w9.cell? ⟨g1, 42, none⟩ = some (.slice xA2 xn2 xc2) ∧
  Calls Tryd.prog 26 #[.bool x14, .int .i64 x15, .int .i64 (xn2 : Int)] w9 (onRet (fun r_8 w10 => ∃ x16 : Int, r_8 = .int .i64 x16 ∧
  R (.returned (.int .i64 x16)) w10)
    (fun ch8 w10 => R (.panicked ch8) w10)))))
    (fun ch7 w9 => R (.panicked ch7) w9))))
                  (fun ch6 w8 => R (.panicked ch6) w8))))
                (fun ch5 w7 => R (.panicked ch5) w7))))
              (fun ch4 w6 => R (.panicked ch4) w6))))
            (fun ch3 w5 => R (.panicked ch3) w5)))))
        (fun ch2 w4 => R (.panicked ch2) w4))))
      (fun ch1 w3 => R (.panicked ch1) w3))))
    (fun ch w2 => R (.panicked ch) w2))
def ip4_Check_H : Hints := []
set_option maxRecDepth 100000 in
theorem ip4_Check_of (h : Ip4V) (w : World) (R : Ending → World → Prop) (hvc_ : ip4_Check_VC h w R) :
    Calls Tryd.prog 11 #[h.val] w R :=
  calls_of_wpc callOk mixedOk (H := ip4_Check_H) (args := [h.val]) (fn := Tryd.f11) (c := bodyOf Tryd.f11) Tryd.func11 rfl (Nat.le_of_ble_eq_true rfl)
    (Eq.mp (by kernel_rfl : ip4_Check_VC h w R = wpc Tryd.prog callF Tryd.f11.ntmps ip4_Check_H 1 (bodyOf Tryd.f11) (argEnv 0 [h.val]) [] w (finish Tryd.prog callF Tryd.f11.results.toList R)) hvc_)
end N6
end Go.Proofs.YthhgbpmihhljdaaDoor
/- WRITTEN BY a program of this session (vc.py): for each Go function the condition that is enough for its contract, and the theorem that it is. -/
namespace Go.Proofs.YthhgbpmihhljdaaDoor
open Go.Eng
namespace N6

set_option maxRecDepth 100000 in
def slices_Clone_VC (sA : Option Addr) (sn : Nat) (sc : Nat) (w : World) (R : Ending → World → Prop) : Prop :=
  Br sA.isNone
    (R (.returned (.slice none 0 0)) w)
    (NewVC w (.cells #[] 5) fun g1 w1 =>
  AppVC Tryd.prog #[32, 32] 32 (.slice (some ⟨g1, 0, none⟩) 0 0) (.slice sA sn sc) w1 fun lA ln lc w2 =>
  R (.returned (.slice lA ln lc)) w2)
def slices_Clone_H : Hints := []
set_option maxRecDepth 100000 in
theorem slices_Clone_of (sA : Option Addr) (sn : Nat) (sc : Nat) (w : World) (R : Ending → World → Prop) (hvc_ : slices_Clone_VC sA sn sc w R) :
    Calls Tryd.prog 34 #[.slice sA sn sc] w R :=
  calls_of_wpc callOk mixedOk (H := slices_Clone_H) (args := [.slice sA sn sc]) (fn := Tryd.f34) (c := bodyOf Tryd.f34) Tryd.func34 rfl (Nat.le_of_ble_eq_true rfl)
    (Eq.mp (by kernel_rfl : slices_Clone_VC sA sn sc w R = wpc Tryd.prog callF Tryd.f34.ntmps slices_Clone_H 1 (bodyOf Tryd.f34) (argEnv 0 [.slice sA sn sc]) [] w (finish Tryd.prog callF Tryd.f34.results.toList R)) hvc_)

set_option maxRecDepth 100000 in
def ip6_Check_VC (h : Ip6V) (w : World) (R : Ending → World → Prop) : Prop :=
  NewVC w (.cells h.cells.toArray 43) fun g1 w1 =>
  Ip6V.ex fun h1 => CellsAt w1 ⟨g1, 0, none⟩ 0 h1.cells ∧
  Calls Tryd.prog 36 #[h1.val] w1 (onRet (fun r_ w2 => ∃ (x0A : Option Addr) (x0n x0c : Nat), ∃ x1 : Int, r_ = .tuple #[.slice x0A x0n x0c, .int .i64 x1] ∧
  R (.returned (.int .i64 x1)) w2)
    (fun ch w2 => R (.panicked ch) w2))
def ip6_Check_H : Hints := []
set_option maxRecDepth 100000 in
theorem ip6_Check_of (h : Ip6V) (w : World) (R : Ending → World → Prop) (hvc_ : ip6_Check_VC h w R) :
    Calls Tryd.prog 19 #[h.val] w R :=
  calls_of_wpc callOk mixedOk (H := ip6_Check_H) (args := [h.val]) (fn := Tryd.f19) (c := bodyOf Tryd.f19) Tryd.func19 rfl (Nat.le_of_ble_eq_true rfl)
    (Eq.mp (by kernel_rfl : ip6_Check_VC h w R = wpc Tryd.prog callF Tryd.f19.ntmps ip6_Check_H 1 (bodyOf Tryd.f19) (argEnv 0 [h.val]) [] w (finish Tryd.prog callF Tryd.f19.results.toList R)) hvc_)
end N6
end Go.Proofs.YthhgbpmihhljdaaDoor
/- append(s, make([]byte, n)...): zeros are laid behind a row of the call's own. It speaks of any program. -/
namespace Go.Eng
open Go Go.RowKit
theorem zeroCells_u8 (m : Nat) : Builtin.zeroCells #[Value.int .u8 0] m = (List.replicate m (Value.int .u8 0)).toArray := by
  apply Array.ext'
  simp only [Builtin.zeroCells, List.size_toArray, List.length_cons, List.length_nil, Nat.zero_add, Nat.mul_one, Array.toList_map, Array.toList_range]
  apply List.ext_getElem
  · simp
  · intro i h1 h2
    simp [Nat.mod_one]
section
variable {P : Program} {w : World} {base e n : Nat} {xs : List Value}
theorem AppVC.zeros {t u ty : TypeId} (ht : P.underlying t = some (.slice e)) (hu : P.underlying u = some (.int .i64)) (hT : TypeIs P e (.int .u8 0) 1 1) {A : Option Addr} {c m : Nat} {k : Int} (hk : k = m) {F : Option Addr → Nat → Nat → World → Prop}
    (hown : w.ownsRow base e 1 (.slice A n c) n xs) (hb : n + m ≤ 140737488355328) (hbase : base ≤ w.heap.size)
    (h : ∀ A2 c2 w', w'.ownsRow base e 1 (.slice A2 (n + m) c2) (n + m) (xs ++ List.replicate m (Value.int .u8 0)) → Mod (fun k => some k = (Value.slice A n c).ownBlock) w w' → n + m ≤ c2 →
      (∀ k, some k = (Value.slice A2 (n + m) c2).ownBlock → some k = (Value.slice A n c).ownBlock ∨ w.heap.size ≤ k) → F A2 (n + m) c2 w') :
    AppVC P #[t, u] ty (.slice A n c) (.int .i64 k) w F := by
  subst hk
  obtain ⟨i, hi, hz, hs, hy⟩ := hT
  have hsmall : n + m ≤ maxLen := by simp only [maxLen]; omega
  have hlen : (xs ++ List.replicate m (Value.int .u8 0)).length = (n + m) * 1 := by
    rw [List.length_append, hown.1, List.length_replicate]; omega
  have hzc : Builtin.zeroCells (Value.int IntKind.u8 0).cells m = (List.replicate m (Value.int .u8 0)).toArray := zeroCells_u8 m
  have hz0 : ∀ q, (Builtin.zeroCells (Value.int IntKind.u8 0).cells q).size = q := fun q => by
    rw [show (Value.int IntKind.u8 0).cells = #[Value.int .u8 0] from rfl, zeroCells_u8]; simp
  have hw : IntKind.i64.wrap (m : Int) = m := w64 (by omega) (by omega)
  have l0 : ¬ ((m : Int) < 0) := by omega
  have l1 : ¬ ((281474976710656 : Int) < (m : Int)) := by omega
  have l2 : ¬ ((9223372036854775807 : Int) < (n : Int) + (m : Int)) := by omega
  have grown : ∀ (old : Nat), old < n + m → ∀ cs : Array Value, cs.toList = xs →
      (w.drew.alloc (.cells (cs ++ (List.replicate m (Value.int .u8 0)).toArray ++ Builtin.zeroCells (Value.int IntKind.u8 0).cells (grownCap w (n + m) old e - (n + m))) e)).ownsRow base e 1
        (.slice (some ⟨w.heap.size, 0, none⟩) (n + m) (grownCap w (n + m) old e)) (n + m) (xs ++ List.replicate m (Value.int .u8 0)) := by
    intro old ho cs hcs
    have hge := grownCap_ge w (n + m) old e
    have hcm : grownCap w (n + m) old e ≤ maxLen := grownCap_le_maxLen w (n + m) old e hsmall
    have hsz : cs.size = n := by rw [← Array.length_toList, hcs, hown.1]; omega
    refine ⟨hlen, .inr ⟨w.heap.size, _, _, rfl, hbase, heap_alloc_new w.drew _, hge, hcm, ?_, ?_⟩⟩
    · simp only [Array.size_append, List.size_toArray, List.length_replicate, hz0, hsz]
      omega
    · simp only [Array.toList_append, hcs, List.append_assoc]
      rw [← List.append_assoc, ← hlen]
      exact List.take_left
  have fin : ∀ (old : Nat), old < n + m → ∀ cs : Array Value, cs.toList = xs →
      F (some ⟨w.heap.size, 0, none⟩) (n + m) (grownCap w (n + m) old e) (w.drew.alloc (.cells (cs ++ (List.replicate m (Value.int .u8 0)).toArray ++ Builtin.zeroCells (Value.int IntKind.u8 0).cells (grownCap w (n + m) old e - (n + m))) e)) := fun old ho cs hcs =>
    h _ _ _ (grown old ho cs hcs) ⟨rfl, rfl, rfl, by simp, fun k hk _ => Below.heap_alloc w.drew _ k hk⟩ (grownCap_ge w (n + m) old e) fun k hk => .inr (by
      simp [Value.ownBlock] at hk; omega)
  have hbb : (Builtin.nextslicecap (n + m) c) * 1 ≤ 281474976710656 ∨ n + m ≤ c := by
    by_cases hc : n + m ≤ c
    · exact .inr hc
    · exact .inl (growslice_fits (by omega) (by omega))
  rcases hown.2 with ⟨hv, hn0⟩ | ⟨g, cap, cur, hv, hbg, hg, hnc, hcm, hcs, htake⟩
  · injection hv with hA _ hc
    subst hA; subst hc; subst hn0
    have hx : xs = [] := List.eq_nil_of_length_eq_zero (by simpa using hown.1)
    by_cases hm : m = 0
    · subst hm
      refine ⟨none, 0, 0, w, ?_, ?_⟩
      · simp [Builtin.append_, run_underlying ht, run_underlying hu, sizeOf, typeInfo, hi, asInt, asIntOf, show IntKind.i64.wrap 0 = 0 from rfl]
      · have := h none 0 w (by simpa [hx] using World.ownsRow_nil w base e 1) (Mod.refl _ _) (by omega) fun k hk => .inl (by simpa using hk)
        simpa using this
    · have h48 : ¬ ((281474976710656 : Nat) < Builtin.nextslicecap m 0 * 1) := by
        rcases hbb with e1 | e1
        · simp only [Nat.zero_add] at e1; omega
        · omega
      refine ⟨_, _, _, _, ?_, by simpa [hx] using fin 0 (by omega) #[] (by simp [hx])⟩
      have hm1 : ¬ (m * 1 = 0) := by omega
      simp [Builtin.append_, run_underlying ht, run_underlying hu, sizeOf, typeInfo, zeroValue, hi, hz, asInt, asIntOf, hw, l0, l1, hm, Question.forced, newRow, grownCap, hs, hy, hzc, Builtin.firstCells]
      rw [Nat.mul_one] at h48
      have l2' : ¬ ((9223372036854775807 : Int) < (m : Int)) := by omega
      simp [l2', h48]
  · injection hv with hA _ hcap
    subst hA; subst hcap
    by_cases hroom : n + m ≤ c
    · have hB : Blk w g e cur.toList := by unfold Blk; simpa using hg
      have hst : Stores ⟨g, n, none⟩ 0 (List.replicate m (Value.int .u8 0)) w fun w' => (Builtin.append_ #[t, u] ty #[.slice (some ⟨g, 0, none⟩) n c, .int .i64 m]).run P w = (do storeCells (⟨g, n, none⟩ : Addr) (List.replicate m (Value.int .u8 0)) 0; pure (Value.slice (some ⟨g, 0, none⟩) (n + m) c) : Sem Value).run P w ∧ F (some ⟨g, 0, none⟩) (n + m) c w' := by
        refine Stores.blk hB (fun v hv => by rw [(List.mem_replicate.1 hv).2]; rfl) (by simp; omega) fun w' hz' hm' hb' => ⟨?_, ?_⟩
        · have hn : ¬ (m * 1 = 0) ∨ m = 0 := by omega
          rcases hn with hn | hn
          · have hn' : ¬ (m = 0) := by omega
            simp [Builtin.append_, run_underlying ht, run_underlying hu, sizeOf, typeInfo, zeroValue, hi, hz, asInt, asIntOf, hw, l0, l1, hroom, hs, hy, hn', hzc, addr_add]
          · subst hn
            simp [Builtin.append_, run_underlying ht, run_underlying hu, sizeOf, typeInfo, zeroValue, hi, hz, asInt, asIntOf, show IntKind.i64.wrap 0 = 0 from rfl, hy, addr_add, hnc, storeCells]
        · refine h _ _ w' ⟨hlen, .inr ⟨g, c, (splice cur.toList n (List.replicate m (Value.int .u8 0))).toArray, rfl, hbg, by unfold Blk at hb'; simpa using hb', hroom, hcm, ?_, ?_⟩⟩ (hm'.mono fun k _ e => by simp [Value.ownBlock]; exact e) hroom fun k hk => .inl hk
          · unfold splice
            simp
            omega
          · unfold splice
            simp only [Nat.mul_one] at htake ⊢
            rw [htake, ← List.append_assoc]
            exact List.take_left' (by rw [hlen]; omega)
      obtain ⟨w', hr, he, hF⟩ := stores_sound (P := P) hst
      refine ⟨_, _, _, w', ?_, hF⟩
      rw [he]
      simp [hr]
    · have h48 : ¬ ((281474976710656 : Nat) < Builtin.nextslicecap (n + m) c * 1) := by
        rcases hbb with e1 | e1 <;> omega
      have holds : ∀ j u, xs[j]? = some u → w.drew.cell? ((⟨g, 0, none⟩ : Addr).add j) = some u := fun j u hu => by
        have := hown.cells (g := g) rfl j u hu
        simpa using this
      have hfo := run_firstCells_some (P := P) w.drew i.size n ⟨g, 0, none⟩ n c xs (by rw [hs]; exact hown.1) holds
      refine ⟨_, _, _, _, ?_, fin c (by omega) xs.toArray (by simp)⟩
      have hm' : ¬ (m = 0) := by omega
      simp [Builtin.append_, run_underlying ht, run_underlying hu, sizeOf, typeInfo, zeroValue, hi, hz, asInt, asIntOf, hw, l0, l1, hm', Question.forced, newRow, grownCap, hs, hy, hzc, hroom]
      rw [Nat.mul_one] at h48
      rw [hs] at hfo
      simp [l2, h48, hfo]
end
end Go.Eng
/- Rows with room behind their capacity; copies into a part of a block; new bytes of the library's own. It speaks of any program. -/
namespace Go.Eng
open Go Go.RowKit
/-- v reads xs, and its memory is its own: a row's head, or nil. -/
def Win (w : World) (b e : Nat) (v : Value) (n : Nat) (xs : List Value) : Prop :=
  xs.length = n ∧ ((v = .slice none 0 0 ∧ n = 0) ∨ ∃ g c cs, v = .slice (some ⟨g, 0, none⟩) n c ∧ b ≤ g ∧ n ≤ c ∧ c ≤ cs.length ∧ c ≤ maxLen ∧ Blk w g e cs ∧ cs.take n = xs)
section
variable {P : Program} {w w' : World} {b e n c : Nat} {v : Value} {A : Option Addr} {xs : List Value} {M : Nat → Prop}
theorem Win.mod (h : Win w b e v n xs) (hm : Mod M w w') (hn : ∀ k, v.ownBlock = some k → ¬ M k) : Win w' b e v n xs := by
  refine ⟨h.1, ?_⟩
  rcases h.2 with h2 | ⟨g, c, cs, rfl, h1, h2, h3, h4, h5, h6⟩
  · exact .inl h2
  · exact .inr ⟨g, c, cs, rfl, h1, h2, h3, h4, h5.mod hm (hn g rfl), h6⟩
theorem Win.of_own (h : w.ownsRow b e 1 v n xs) : Win w b e v n xs := by
  refine ⟨by have := h.1; omega, ?_⟩
  rcases h.2 with ⟨rfl, rfl⟩ | ⟨g, cap, cur, rfl, hb, hg, hc, hm, hs, ht⟩
  · exact .inl ⟨rfl, rfl⟩
  · exact .inr ⟨g, cap, cur.toList, rfl, hb, hc, by simp [hs], hm, by unfold Blk; simpa using hg, by simpa using ht⟩
theorem Win.cells (h : Win w b e (.slice A n c) n xs) : Cells w A xs := by
  rcases h.2 with ⟨h1, rfl⟩ | ⟨g, c', cs, h1, _, _, _, _, h5, h6⟩
  · have := h.1
    have : xs = [] := List.eq_nil_of_length_eq_zero this
    subst this
    exact Cells.nil _ _
  · injection h1 with hA _ _
    subst hA
    rw [← h6]
    exact (by simpa using Cells.of_blk h5 0 : Cells w (some ⟨g, 0, none⟩) cs).take n
theorem Win.lt (h : Win w b e v n xs) {k : Nat} (hk : v.ownBlock = some k) : b ≤ k ∧ k < w.heap.size := by
  rcases h.2 with ⟨rfl, rfl⟩ | ⟨g, c', cs, rfl, h1, _, _, _, h5, _⟩
  · simp [Value.ownBlock] at hk
  · simp [Value.ownBlock] at hk
    subst hk
    exact ⟨h1, h5.lt⟩
def Fct.win (b e : Nat) (v : Value) (n : Nat) (xs : List Value) : Fct := ⟨fun k => v.ownBlock = some k, fun w => Win w b e v n xs, fun _ _ _ h _ hm hn => h.mod hm fun k hk => hn k hk⟩
variable {Γ : List Fct}
theorem Sep.win (H : Sep Γ w) (i : Nat) (hi : Γ[i]? = some (Fct.win b e v n xs)) : Win w b e v n xs := H.yes i _ hi
theorem Sep.ownWin {i : Nat} (H : Sep Γ w) (hi : Γ[i]? = some (Fct.own b e 1 v n xs)) : Sep (Γ.set i (Fct.win b e v n xs)) w :=
  H.weaken i hi (Win.of_own (H.own i hi)) fun _ h => h
theorem CopyVC.part {dT sT ty g o dn dc c' m e' : Nat} {cs xs : List Value} {F : Int → World → Prop} (hu : P.underlying dT = some (.slice e)) (hs : (P.info? e).map (·.size) = some 1)
    (hb : Blk w g e' cs) (hc : Cells w A xs) (hl : xs.length = m) (hm : m ≤ dn) (hfit : o + dn ≤ cs.length) (h1 : ∀ v ∈ xs, v.oneCell' = true)
    (h : ∀ w', w'.heap.size = w.heap.size → Mod (fun k => k = g) w w' → Blk w' g e' (splice cs o xs) → F m w') : CopyVC P #[dT, sT] ty (.slice (some ⟨g, o, none⟩) dn dc) (.slice A m c') w F := by
  by_cases h0 : m = 0
  · subst h0
    have hx : xs = [] := List.eq_nil_of_length_eq_zero hl
    subst hx
    refine ⟨0, w, run_copy_none w dT sT ty e _ _ _ _ _ _ hu hs (by simp), h w rfl (Mod.refl _ _) ?_⟩
    unfold splice; simpa using hb
  · obtain ⟨a, ha, _⟩ := hc.at (i := 0) (by omega)
    subst ha
    have hr := run_copy_row (P := P) w dT sT ty e g o dn dc a m c' cs.toArray e' xs hu hs hb (by rw [hl]; exact (Nat.min_eq_left hm).symm) (fun j v hv => by obtain ⟨a', ha', hcv⟩ := hc j v hv; cases ha'; exact hcv) (by simp; omega) h1
    rw [hl] at hr
    refine ⟨_, _, hr, h _ ?_ ?_ ?_⟩
    · simp [World.setRow]
    · refine ⟨rfl, rfl, rfl, by simp [World.setRow], fun k hk hn => ?_⟩
      simp only [World.setRow, Array.getElem?_modify]
      rw [if_neg (fun e => hn e.symm)]
    · unfold Blk
      have := setRow_heap w g cs.toArray ((cs.take o ++ xs ++ cs.drop (o + xs.length)).toArray) e' (0, 0) hb
      rw [hl] at this
      unfold splice
      rw [hl]
      simpa using this
theorem CopyVC.sep (H : Sep Γ w) (i : Nat) {dT sT ty g o dn dc c' m e' : Nat} {cs xs : List Value} {F : Int → World → Prop} (hu : P.underlying dT = some (.slice e)) (hs : (P.info? e).map (·.size) = some 1)
    (hi : Γ[i]? = some (Fct.blk g e' cs)) (hc : Cells w A xs) (hl : xs.length = m) (hm : m ≤ dn) (hfit : o + dn ≤ cs.length) (h1 : ∀ v ∈ xs, v.oneCell' = true)
    (h : ∀ w', Sep (Γ.set i (Fct.blk g e' (splice cs o xs))) w' → F m w') : CopyVC P #[dT, sT] ty (.slice (some ⟨g, o, none⟩) dn dc) (.slice A m c') w F :=
  CopyVC.part hu hs (H.blk i hi) hc hl hm hfit h1 fun w' _hz hm' hb => h w' (H.mod i hi hm' (fun _ _ e => e) _ hb fun _ e => .inl e)
theorem NoZeroVC.sep (H : Sep Γ w) {k : Int} {F : Nat → Nat → World → Prop} (h0 : 0 ≤ k) (h1 : k ≤ 140737488355328) (h : ∀ g cs w', Sep (Γ ++ [Fct.blk g e cs]) w' → k ≤ cs.length → cs.length ≤ maxLen → F g cs.length w') : NoZeroVC w e k F := by
  refine ⟨h0, h1, fun g cs w' hg hk hm hw => ?_⟩
  have hE : Ext w w.drew.drew := (Ext.drew w).ext (Ext.drew _)
  have hE2 : Ext w w' := by rw [hw]; exact hE.ext (Ext.alloc _ _)
  have hb : Blk w' g e cs.toList := by
    subst hg; rw [hw]; exact Blk.new w.drew.drew e cs
  have := h g cs.toList w' (H.pushBlk hE2 hb (by omega)) (by simpa using hk) (by simpa using hm)
  simpa using this
theorem splice_len {cs xs : List Value} {o : Nat} (h : o + xs.length ≤ cs.length) : (splice cs o xs).length = cs.length := by
  unfold splice; simp; omega
theorem splice_take {cs xs : List Value} {o : Nat} (h : o + xs.length ≤ cs.length) : (splice cs o xs).take (o + xs.length) = cs.take o ++ xs := by
  unfold splice
  rw [← List.append_assoc]
  exact List.take_left' (by simp; omega)
/-- Where a part of a slice begins. -/
theorem at_off {g o k c : Nat} : ∃ o', (if c = k then (some ⟨g, o, none⟩ : Option Addr) else (some (⟨g, o, none⟩ : Addr)).map (·.add (k * 1))) = some ⟨g, o', none⟩ ∧ (c ≠ k → o' = o + k) ∧ (c = k → o' = o) := by
  by_cases h : c = k
  · exact ⟨o, by rw [if_pos h], fun x => absurd h x, fun _ => rfl⟩
  · exact ⟨o + k, by rw [if_neg h, Nat.mul_one]; simp [addr_add], fun _ => rfl, fun x => absurd x h⟩
end
end Go.Eng
/- Several parts of memory at once: what a call makes of many rows. It speaks of any program. -/
namespace Go.Eng
open Go Go.RowKit
def Fct.apart (f g : Fct) : Prop := ∀ k, f.R k → g.R k → False
section
variable {w0 w w' : World} {Γ Γ' Δ : List Fct} {f g : Fct}
theorem Sep.iff : Sep Γ w ↔ (∀ f ∈ Γ, f.φ w ∧ ∀ k, f.R k → k < w.heap.size) ∧ Γ.Pairwise Fct.apart := by
  constructor
  · intro H
    refine ⟨fun f hf => ?_, List.pairwise_iff_getElem.2 fun i j hi hj hij k h1 h2 => ?_⟩
    · obtain ⟨i, hi, rfl⟩ := List.getElem_of_mem hf
      exact ⟨H.yes i _ (List.getElem?_eq_getElem hi), H.lt i _ (List.getElem?_eq_getElem hi)⟩
    · exact H.apart i j _ _ (by omega) (List.getElem?_eq_getElem hi) (List.getElem?_eq_getElem hj) k h1 h2
  · rintro ⟨h1, h2⟩
    refine ⟨fun i f hf => (h1 f (List.mem_of_getElem? hf)).1, fun i f hf => (h1 f (List.mem_of_getElem? hf)).2, fun i j f g hij hf hg k hkf hkg => ?_⟩
    obtain ⟨hi, rfl⟩ := List.getElem?_eq_some_iff.1 hf
    obtain ⟨hj, rfl⟩ := List.getElem?_eq_some_iff.1 hg
    rw [List.pairwise_iff_getElem] at h2
    rcases Nat.lt_or_ge i j with h | h
    · exact h2 i j hi hj h k hkf hkg
    · exact h2 j i hj hi (by omega) k hkg hkf
theorem Sep.sub (H : Sep Γ w) (h : Γ'.Sublist Γ) : Sep Γ' w :=
  Sep.iff.2 ⟨fun f hf => (Sep.iff.1 H).1 f (h.subset hf), (Sep.iff.1 H).2.sublist h⟩
theorem Sep.perm (H : Sep Γ w) (h : Γ'.Perm Γ) : Sep Γ' w :=
  Sep.iff.2 ⟨fun f hf => (Sep.iff.1 H).1 f (h.subset hf), (h.pairwise_iff (fun {_a _b} hab k h1 h2 => hab k h2 h1)).2 (Sep.iff.1 H).2⟩
/-- A call that makes many parts. -/
theorem Sep.mades (H : Sep Γ w) (h : Sep (Fct.rest w None :: Δ) w') : Sep (Γ ++ Δ) w' := by
  have H' := Sep.iff.1 (H.ext (h.restOf 0 rfl))
  have h' := Sep.iff.1 h
  have hc := List.pairwise_cons.1 h'.2
  refine Sep.iff.2 ⟨fun f hf => ?_, List.pairwise_append.2 ⟨H'.2, hc.2, fun f hf g hg k h1 h2 => ?_⟩⟩
  · rcases List.mem_append.1 hf with hf | hf
    · exact H'.1 f hf
    · exact h'.1 f (by simp [hf])
  · exact hc.1 g hg k ⟨((Sep.iff.1 H).1 f hf).2 k h1, id⟩ h2
theorem Sep.start1 (H : Sep (Fct.rest w0 None :: Δ) w) : Ext w0 w := H.restOf 0 rfl
/-- A part that is looked at where it stands. -/
theorem Sep.mem (H : Sep Γ w) (hf : f ∈ Γ) : f.φ w := ((Sep.iff.1 H).1 f hf).1
end
section
variable {w : World} {Γ : List Fct} {f : Fct}
theorem Sep.front (H : Sep (Γ ++ [f]) w) : Sep (f :: Γ) w := H.perm (List.perm_append_singleton f Γ).symm
theorem Sep.rot (H : Sep (f :: Γ) w) : Sep (Γ ++ [f]) w := H.perm (List.perm_append_singleton f Γ)
theorem Cells.blk0 {g t : Nat} {cs : List Value} (h : Blk w g t cs) : Cells w (some ⟨g, 0, none⟩) cs := by simpa using Cells.of_blk h 0
theorem Sep.tail (H : Sep (f :: Γ) w) : Sep Γ w := H.sub (List.sublist_cons_self f Γ)
end
/-- The like parts, of which less is said. -/
inductive AllLe : List Fct → List Fct → Prop
  | nil : AllLe [] []
  | cons {f g : Fct} {Γ Δ : List Fct} (h1 : ∀ w, f.φ w → g.φ w) (h2 : ∀ k, g.R k → f.R k) (h : AllLe Γ Δ) : AllLe (f :: Γ) (g :: Δ)
theorem AllLe.refl : ∀ Γ : List Fct, AllLe Γ Γ
  | [] => .nil
  | _ :: Γ => .cons (fun _ h => h) (fun _ h => h) (AllLe.refl Γ)
theorem AllLe.append {Γ Δ Γ' Δ' : List Fct} (h : AllLe Γ Δ) (h' : AllLe Γ' Δ') : AllLe (Γ ++ Γ') (Δ ++ Δ') := by
  induction h with
  | nil => exact h'
  | cons h1 h2 _ ih => exact .cons h1 h2 ih
theorem AllLe.map {α : Type} {f g : α → Fct} : ∀ (l : List α), (∀ x ∈ l, (∀ w, (f x).φ w → (g x).φ w) ∧ ∀ k, (g x).R k → (f x).R k) → AllLe (l.map f) (l.map g)
  | [], _ => .nil
  | x :: l, h => .cons (h x (by simp)).1 (h x (by simp)).2 (AllLe.map l fun y hy => h y (by simp [hy]))
theorem AllLe.flatMap {α : Type} {f g : α → List Fct} : ∀ (l : List α), (∀ x ∈ l, AllLe (f x) (g x)) → AllLe (l.flatMap f) (l.flatMap g)
  | [], _ => .nil
  | x :: l, h => by
    rw [List.flatMap_cons, List.flatMap_cons]
    exact (h x (by simp)).append (AllLe.flatMap l fun y hy => h y (by simp [hy]))
theorem AllLe.sep {w : World} {Γ Δ : List Fct} (h : AllLe Γ Δ) (H : Sep Γ w) : Sep Δ w := by
  rw [Sep.iff] at H ⊢
  have key : ∀ {Γ Δ : List Fct}, AllLe Γ Δ → (∀ f ∈ Γ, f.φ w ∧ ∀ k, f.R k → k < w.heap.size) → Γ.Pairwise Fct.apart → (∀ f ∈ Δ, f.φ w ∧ ∀ k, f.R k → k < w.heap.size) ∧ Δ.Pairwise Fct.apart ∧ ∀ g ∈ Δ, ∃ f ∈ Γ, ∀ k, g.R k → f.R k := by
    intro Γ Δ h
    induction h with
    | nil => exact fun _ _ => ⟨(fun _ h => by cases h), .nil, fun _ h => by cases h⟩
    | @cons f g Γ Δ h1 h2 h ih =>
      intro ha hp
      have hp := List.pairwise_cons.1 hp
      obtain ⟨i1, i2, i3⟩ := ih (fun x hx => ha x (by simp [hx])) hp.2
      refine ⟨fun x hx => ?_, List.pairwise_cons.2 ⟨fun x hx k hk hxk => ?_, i2⟩, fun x hx => ?_⟩
      · rcases List.mem_cons.1 hx with rfl | hx
        · have := ha f (by simp)
          exact ⟨h1 _ this.1, fun k hk => this.2 k (h2 k hk)⟩
        · exact i1 x hx
      · obtain ⟨y, hy, hyk⟩ := i3 x hx
        exact hp.1 y hy k (h2 k hk) (hyk k hxk)
      · rcases List.mem_cons.1 hx with rfl | hx
        · exact ⟨f, by simp, h2⟩
        · obtain ⟨y, hy, hyk⟩ := i3 x hx
          exact ⟨y, by simp [hy], hyk⟩
  obtain ⟨i1, i2, _⟩ := key h H.1 H.2
  exact ⟨i1, i2⟩
theorem own_less {b b' e size n : Nat} {v : Value} {xs : List Value} (h : b' ≤ b) : (∀ w, (Fct.own b e size v n xs).φ w → (Fct.own b' e size v n xs).φ w) ∧ ∀ k, (Fct.own b' e size v n xs).R k → (Fct.own b e size v n xs).R k :=
  ⟨fun _ ho => own_base ho h, fun _ h => h⟩
/-- Records, laid one behind the other. -/
theorem Recs.of_cells {w : World} {A : Option Addr} {size : Nat} (h0 : 0 < size) {rs : List (List Value)} (hs : ∀ r ∈ rs, r.length = size) (h : Cells w A rs.flatten) : Recs w A size rs := by
  intro i cs hi
  have hcs : cs.length = size := hs cs (List.mem_of_getElem? hi)
  have key : ∀ (rs : List (List Value)) (i : Nat) (cs : List Value), (∀ r ∈ rs, r.length = size) → rs[i]? = some cs → ∀ j v, cs[j]? = some v → rs.flatten[i * size + j]? = some v := by
    intro rs
    induction rs with
    | nil => intro i cs _ h; simp at h
    | cons r l ih =>
      intro i cs hs h j v hv
      have hr : r.length = size := hs r (by simp)
      cases i with
      | zero =>
        simp at h; subst h
        have hj := (List.getElem?_eq_some_iff.1 hv).1
        rw [List.flatten_cons, List.getElem?_append_left (by omega)]
        simpa using hv
      | succ i =>
        rw [List.flatten_cons, List.getElem?_append_right (by rw [hr, Nat.succ_mul]; omega)]
        have := ih i cs (fun r hr => hs r (by simp [hr])) (by simpa using h) j v hv
        rw [← this]; congr 1; rw [hr, Nat.succ_mul]; omega
  obtain ⟨v, hv⟩ : ∃ v, cs[0]? = some v := by
    cases cs with
    | nil => simp at hcs; omega
    | cons v r => exact ⟨v, rfl⟩
  obtain ⟨a, ha, _⟩ := h _ v (key rs i cs hs hi 0 v hv)
  refine ⟨a, ha, CellsAt.of _ 0 fun j u hu => ?_⟩
  obtain ⟨a', ha', hc⟩ := h _ u (key rs i cs hs hi j u hu)
  rw [ha] at ha'; cases ha'
  rw [add_add]; simpa using hc
end Go.Eng
