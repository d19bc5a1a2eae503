/- WRITTEN BY a program of this session (vc.py): for each Go function the condition that is enough for its contract, and the theorem that it is. -/
import Derived.Test.YtkiogaglmjeplaaDoorProg
import Derived.Test.YtkiogaglmjeplaaDoorBq
import Derived.Test.YtkiogaglmjeplaaDoorBt
import Derived.Test.YtkiogaglmjeplaaDoorBe
import Derived.Test.YtkiogaglmjeplaaDoorBh
import Derived.Test.YtkiogaglmjeplaaDoorBs
import Derived.Test.YtkiogaglmjeplaaDoorBv
import Derived.Test.YtkiogaglmjeplaaDoorBx
import Derived.Test.YtkiogaglmjeplaaDoorBu
namespace Go.Proofs.YtkiogaglmjeplaaDoor
open Go.Eng
namespace N6

set_option maxRecDepth 100000 in
def weirlaw7_window_L58 (R : Ending → World → Prop) (lA : Option Addr) (ln : Nat) (lc : Nat) (wA : Option Addr) (wn : Nat) (wc : Nat) (p : Int) (i : Int) (w1 : World) (K58 : (Int → World → Prop)) : Prop :=
  Br (decide (i < (ln : Int)))
    (IdxVC wA wn 1 (IntKind.i64.wrap (p + i)) fun a =>
  ∃ x : Int, w1.cell? a = some (.int .u8 x) ∧
  IdxVC lA ln 1 i fun a1 =>
  SetVC w1 a1 (.int .u8 (IntKind.u8.wrap (x + 1))) fun w2 =>
  IdxVC wA wn 1 (IntKind.i64.wrap (p + i)) fun a2 =>
  ∃ x1 : Int, w2.cell? a2 = some (.int .u8 x1) ∧
  Br (decide (x1 ≠ IntKind.u8.wrap (x + 1)))
    (R (.returned (.bool false)) w2)
    (IdxVC wA wn 1 (IntKind.i64.wrap (p + i)) fun a3 =>
  SetVC w2 a3 (.int .u8 x) fun w3 =>
  IdxVC lA ln 1 i fun a4 =>
  ∃ x2 : Int, w3.cell? a4 = some (.int .u8 x2) ∧
  Br (decide (x2 ≠ x))
    (R (.returned (.bool false)) w3)
    (K58 (IntKind.i64.wrap (i + 1)) w3)))
    (Br (decide ((ln : Int) = 0))
    (R (.returned (.bool true)) w1)
    (NewVC w1 (.cells #[] 5) fun g1 w4 =>
  AppVC Tryd.prog #[22, 22] 22 (.slice (some ⟨g1, 0, none⟩) 0 0) (.slice wA wn wc) w4 fun lA1 ln1 lc1 w5 =>
  NewVC w5 (.cells #[.int .u8 251] 5) fun g2 w6 =>
  AppVC Tryd.prog #[22, 22] 22 (.slice lA ln lc) (.slice (some ⟨g2, 0, none⟩) 1 1) w6 fun _lA2 ln2 _lc2 w7 =>
  Br (decide ((ln2 : Int) = IntKind.i64.wrap ((ln : Int) + 1)))
    (StrVC Tryd.prog (.slice lA1 ln1 lc1) w7 fun str =>
    StrVC Tryd.prog (.slice wA wn wc) w7 fun str1 =>
    R (.returned (.bool (str.toList == str1.toList))) w7)
    (R (.returned (.bool false)) w7)))
set_option maxRecDepth 100000 in
def weirlaw7_window_VC (lA : Option Addr) (ln : Nat) (lc : Nat) (wA : Option Addr) (wn : Nat) (wc : Nat) (p : Int) (w : World) (R : Ending → World → Prop) : Prop :=
  Br (decide ((wn : Int) < IntKind.i64.wrap (p + (ln : Int))))
    (R (.returned (.bool false)) w)
    (LoopVC (S := Int) (fun s_ w1 K58 => weirlaw7_window_L58 R lA ln lc wA wn wc p s_ w1 K58) 0 w)
def weirlaw7_window_H : Hints := [(58, [(7, .int .i64)])]
set_option maxRecDepth 100000 in
theorem weirlaw7_window_of (lA : Option Addr) (ln : Nat) (lc : Nat) (wA : Option Addr) (wn : Nat) (wc : Nat) (p : Int) (w : World) (R : Ending → World → Prop) (hvc_ : weirlaw7_window_VC lA ln lc wA wn wc p w R) :
    Calls Tryd.prog 23 #[.slice lA ln lc, .slice wA wn wc, .int .i64 p] w R :=
  calls_of_wpc callOk mixedOk (H := weirlaw7_window_H) (args := [.slice lA ln lc, .slice wA wn wc, .int .i64 p]) (fn := Tryd.f23) (c := bodyOf Tryd.f23) Tryd.func23 rfl (Nat.le_of_ble_eq_true rfl)
    (Eq.mp (by kernel_rfl : weirlaw7_window_VC lA ln lc wA wn wc p w R = wpc Tryd.prog callF Tryd.f23.ntmps weirlaw7_window_H 1 (bodyOf Tryd.f23) (argEnv 0 [.slice lA ln lc, .slice wA wn wc, .int .i64 p]) [] w (finish Tryd.prog callF Tryd.f23.results.toList R)) hvc_)

set_option maxRecDepth 100000 in
def weirlaw7_windowed_L53882 (R : Ending → World → Prop) (lA : Option Addr) (ln : Nat) (wA : Option Addr) (wn : Nat) (wc : Nat) (p1 : Int) (i : Int) (K26 : (Int × Int → World → Prop)) (x : Int) (q : Int) (k : Int) (w4 : World) (K53882 : (Int × Int → World → Prop)) : Prop :=
  IdxVC lA ln 3 i fun a3 =>
  ∃ (xA1 : Option Addr) (xn1 xc1 : Nat), w4.cell? (a3.add 1) = some (.slice xA1 xn1 xc1) ∧
  Br (decide (k < (xn1 : Int)))
    (IdxVC lA ln 3 i fun a4 =>
  ∃ (xA2 : Option Addr) (xn2 xc2 : Nat), w4.cell? (a4.add 1) = some (.slice xA2 xn2 xc2) ∧
  IdxVC xA2 xn2 2 k fun a5 =>
  ∃ (xA3 : Option Addr) (xn3 xc3 : Nat), w4.cell? (a5.add 1) = some (.slice xA3 xn3 xc3) ∧
  IdxVC lA ln 3 i fun a6 =>
  ∃ (xA4 : Option Addr) (xn4 xc4 : Nat), w4.cell? (a6.add 1) = some (.slice xA4 xn4 xc4) ∧
  IdxVC xA4 xn4 2 k fun a7 =>
  ∃ x3 : Int, w4.cell? a7 = some (.int .i64 x3) ∧
  Br (decide (x3 = 0))
    (K53882 (IntKind.i64.wrap (q + (xn3 : Int)), IntKind.i64.wrap (k + 1)) w4)
    (IdxVC lA ln 3 i fun a8 =>
  ∃ (xA5 : Option Addr) (xn5 xc5 : Nat), w4.cell? (a8.add 1) = some (.slice xA5 xn5 xc5) ∧
  IdxVC xA5 xn5 2 k fun a9 =>
  ∃ (xA6 : Option Addr) (xn6 xc6 : Nat), w4.cell? (a9.add 1) = some (.slice xA6 xn6 xc6) ∧
  Calls Tryd.prog 23 #[.slice xA6 xn6 xc6, .slice wA wn wc, .int .i64 (IntKind.i64.wrap (q + 2))] w4 (onRet (fun r_1 w5 => ∃ x4 : Bool, r_1 = .bool x4 ∧
  Br (!x4)
    (R (.returned (.tuple #[.bool false, .int .i64 0])) w5)
    (K53882 (IntKind.i64.wrap (IntKind.i64.wrap (q + 2) + (xn3 : Int)), IntKind.i64.wrap (k + 1)) w5))
    (fun ch1 w5 => R (.panicked ch1) w5))))
    (K26 (IntKind.i64.wrap (IntKind.i64.wrap (p1 + IntKind.i64.wrap (8 * IntKind.i64.wrap x)) + 8), IntKind.i64.wrap (i + 1)) w4)
set_option maxRecDepth 100000 in
def weirlaw7_windowed_J1683 (R : Ending → World → Prop) (lA : Option Addr) (ln : Nat) (wA : Option Addr) (wn : Nat) (wc : Nat) (p1 : Int) (i : Int) (K26 : (Int × Int → World → Prop)) (x : Int)  (w3 : World) : Prop :=
  LoopVC (S := Int × Int) (fun s_ w4 K53882 => weirlaw7_windowed_L53882 R lA ln wA wn wc p1 i K26 x s_.1 s_.2 w4 K53882) (IntKind.i64.wrap (p1 + 2), 0) w3
set_option maxRecDepth 100000 in
def weirlaw7_windowed_L26 (R : Ending → World → Prop) (lA : Option Addr) (ln : Nat) (wA : Option Addr) (wn : Nat) (wc : Nat) (p1 : Int) (i : Int) (w1 : World) (K26 : (Int × Int → World → Prop)) : Prop :=
  Br (decide (i < (ln : Int)))
    (Br (decide ((wn : Int) < IntKind.i64.wrap (p1 + 8)))
    (R (.returned (.tuple #[.bool false, .int .i64 0])) w1)
    (IdxVC wA wn 1 (IntKind.i64.wrap (p1 + 1)) fun a =>
  ∃ x : Int, w1.cell? a = some (.int .u8 x) ∧
  JoinVC (S := Unit) (fun J1683 =>
      IdxVC lA ln 3 i fun a1 =>
      ∃ x1 : Int, w1.cell? a1 = some (.int .i64 x1) ∧
      Br (decide (x1 = 43))
        (IdxVC lA ln 3 i fun a2 =>
        ∃ (xA : Option Addr) (xn xc : Nat), w1.cell? (a2.add 2) = some (.slice xA xn xc) ∧
        Calls Tryd.prog 23 #[.slice xA xn xc, .slice wA wn wc, .int .i64 (IntKind.i64.wrap (p1 + 2))] w1 (onRet (fun r_ w2 => ∃ x2 : Bool, r_ = .bool x2 ∧
        Br (!x2)
        (R (.returned (.tuple #[.bool false, .int .i64 0])) w2)
        (J1683 () w2))
          (fun ch w2 => R (.panicked ch) w2)))
        (J1683 () w1))
    (fun _ w3 => weirlaw7_windowed_J1683 R lA ln wA wn wc p1 i K26 x w3)))
    (R (.returned (.tuple #[.bool true, .int .i64 p1])) w1)
set_option maxRecDepth 100000 in
def weirlaw7_windowed_VC (lA : Option Addr) (ln : Nat) (_lc : Nat) (wA : Option Addr) (wn : Nat) (wc : Nat) (p : Int) (w : World) (R : Ending → World → Prop) : Prop :=
  LoopVC (S := Int × Int) (fun s_ w1 K26 => weirlaw7_windowed_L26 R lA ln wA wn wc s_.1 s_.2 w1 K26) (p, 0) w
def weirlaw7_windowed_H : Hints := [(26, [(2, .int .i64), (8, .int .i64)]), (1683, []), (53882, [(10, .int .i64), (11, .int .i64)])]
set_option maxRecDepth 100000 in
theorem weirlaw7_windowed_of (lA : Option Addr) (ln : Nat) (lc : Nat) (wA : Option Addr) (wn : Nat) (wc : Nat) (p : Int) (w : World) (R : Ending → World → Prop) (hvc_ : weirlaw7_windowed_VC lA ln lc wA wn wc p w R) :
    Calls Tryd.prog 22 #[.slice lA ln lc, .slice wA wn wc, .int .i64 p] w R :=
  calls_of_wpc callOk mixedOk (H := weirlaw7_windowed_H) (args := [.slice lA ln lc, .slice wA wn wc, .int .i64 p]) (fn := Tryd.f22) (c := bodyOf Tryd.f22) Tryd.func22 rfl (Nat.le_of_ble_eq_true rfl)
    (Eq.mp (by kernel_rfl : weirlaw7_windowed_VC lA ln lc wA wn wc p w R = wpc Tryd.prog callF Tryd.f22.ntmps weirlaw7_windowed_H 1 (bodyOf Tryd.f22) (argEnv 0 [.slice lA ln lc, .slice wA wn wc, .int .i64 p]) [] w (finish Tryd.prog callF Tryd.f22.results.toList R)) hvc_)

set_option maxRecDepth 100000 in
def weirlaw7_Ip6Windows_J501 (R : Ending → World → Prop) (xA : Option Addr) (xn : Nat) (xc : Nat) (g1 : Nat) (J31 : (Unit → World → Prop)) (x0 : Bool) (p : Int) (w7 : World) : Prop :=
  Br (!x0)
    (R (.returned (.bool false)) w7)
    (∃ (xA2 : Option Addr) (xn2 xc2 : Nat), w7.cell? ⟨g1, 43, none⟩ = some (.slice xA2 xn2 xc2) ∧
    Calls Tryd.prog 23 #[.slice xA2 xn2 xc2, .slice xA xn xc, .int .i64 p] w7 (onRet (fun r_4 w8 => ∃ x3 : Bool, r_4 = .bool x3 ∧
    Br (!x3)
    (R (.returned (.bool false)) w8)
    (J31 () w8))
      (fun ch4 w8 => R (.panicked ch4) w8)))
set_option maxRecDepth 100000 in
def weirlaw7_Ip6Windows_J127 (R : Ending → World → Prop) (bA : Option Addr) (bn : Nat) (bc : Nat) (xA : Option Addr) (xn : Nat) (xc : Nat)  (w14 : World) : Prop :=
  Calls Tryd.prog 16 #[] w14 (onRet (fun r_9 w15 => ∃ x6 : Bool, r_9 = .bool x6 ∧
  Br x6
    (Calls Tryd.prog 21 #[.slice bA bn bc] w15 (onRet (fun r_10 w16 => ∃ (xA3 : Option Addr) (xn3 xc3 : Nat), r_10 = .slice xA3 xn3 xc3 ∧
    Calls Tryd.prog 20 #[.slice xA xn xc, .slice xA3 xn3 xc3] w16 (onRet (fun r_11 w17 => ∃ x7 : Bool, r_11 = .bool x7 ∧
    R (.returned (.bool x7)) w17)
      (fun ch11 w17 => R (.panicked ch11) w17)))
      (fun ch10 w16 => R (.panicked ch10) w16)))
    (R (.returned (.bool false)) w15))
    (fun ch9 w15 => R (.panicked ch9) w15))
set_option maxRecDepth 100000 in
def weirlaw7_Ip6Windows_J31 (R : Ending → World → Prop) (bA : Option Addr) (bn : Nat) (bc : Nat) (next : Int) (xA : Option Addr) (xn : Nat) (xc : Nat) (sA : Option Addr) (sn : Nat) (sc : Nat)  (w9 : World) : Prop :=
  Calls Tryd.prog 24 #[.int .i64 next, .slice sA sn sc] w9 (onRet (fun r_5 w10 => ∃ (x0A : Option Addr) (x0n x0c : Nat), ∃ x12 : Int, ∃ (x2A : Option Addr) (x2n x2c : Nat), ∃ x31 : Int, r_5 = .tuple #[.slice x0A x0n x0c, .int .i64 x12, .slice x2A x2n x2c, .int .i64 x31] ∧
  JoinVC (S := Unit) (fun J127 =>
      Calls Tryd.prog 17 #[.int .i64 x31] w10 (onRet (fun r_6 w11 => ∃ x4 : Int, r_6 = .int .i64 x4 ∧
      Br (decide (x4 = 0))
        (Calls Tryd.prog 22 #[.slice x0A x0n x0c, .slice xA xn xc, .int .i64 0] w11 (onRet (fun r_7 w12 => ∃ x01 : Bool, ∃ x13 : Int, r_7 = .tuple #[.bool x01, .int .i64 x13] ∧
        Br (!x01)
          (R (.returned (.bool false)) w12)
          (Br (decide (IntKind.i64.wrap (x13 + (x2n : Int)) ≠ (bn : Int)))
            (R (.returned (.bool false)) w12)
            (Calls Tryd.prog 23 #[.slice x2A x2n x2c, .slice xA xn xc, .int .i64 x13] w12 (onRet (fun r_8 w13 => ∃ x5 : Bool, r_8 = .bool x5 ∧
            Br (!x5)
          (R (.returned (.bool false)) w13)
          (J127 () w13))
              (fun ch8 w13 => R (.panicked ch8) w13)))))
          (fun ch7 w12 => R (.panicked ch7) w12)))
        (J127 () w11))
        (fun ch6 w11 => R (.panicked ch6) w11)))
    (fun _ w14 => weirlaw7_Ip6Windows_J127 R bA bn bc xA xn xc w14))
    (fun ch5 w10 => R (.panicked ch5) w10))
set_option maxRecDepth 100000 in
def weirlaw7_Ip6Windows_VC (bA : Option Addr) (bn : Nat) (bc : Nat) (next : Int) (w : World) (R : Ending → World → Prop) : Prop :=
  Calls Tryd.prog 21 #[.slice bA bn bc] w (onRet (fun r_ w1 => ∃ (xA : Option Addr) (xn xc : Nat), r_ = .slice xA xn xc ∧
  SliceVC xA xn xc 1 none (some (bn : Int)) none fun sA sn sc =>
  Calls Tryd.prog 13 #[.slice sA sn sc] w1 (onRet (fun r_1 w2 => Ip6V.ex fun h => ∃ x1 : Int, r_1 = .tuple #[h.val, .int .i64 x1] ∧
  NewVC w2 (.cells (Ip6V.z : Ip6V).cells.toArray 30) fun g1 w3 =>
  Stores ⟨g1, 0, none⟩ 0 h.cells w3 fun w4 =>
  JoinVC (S := Unit) (fun J31 =>
      Calls Tryd.prog 17 #[.int .i64 x1] w4 (onRet (fun r_2 w5 => ∃ x : Int, r_2 = .int .i64 x ∧
      Br (decide (x = 0))
        (∃ (xA1 : Option Addr) (xn1 xc1 : Nat), w5.cell? ⟨g1, 37, none⟩ = some (.slice xA1 xn1 xc1) ∧
        Calls Tryd.prog 22 #[.slice xA1 xn1 xc1, .slice xA xn xc, .int .i64 40] w5 (onRet (fun r_3 w6 => ∃ x0 : Bool, ∃ x11 : Int, r_3 = .tuple #[.bool x0, .int .i64 x11] ∧
        JoinVC (S := Int) (fun J501 =>
            ∃ x2 : Bool, w6.cell? ⟨g1, 38, none⟩ = some (.bool x2) ∧
            Br x2
              (J501 (IntKind.i64.wrap (x11 + 8)) w6)
              (J501 x11 w6))
          (fun s_ w7 => weirlaw7_Ip6Windows_J501 R xA xn xc g1 J31 x0 s_ w7))
          (fun ch3 w6 => R (.panicked ch3) w6)))
        (J31 () w5))
        (fun ch2 w5 => R (.panicked ch2) w5)))
    (fun _ w9 => weirlaw7_Ip6Windows_J31 R bA bn bc next xA xn xc sA sn sc w9))
    (fun ch1 w2 => R (.panicked ch1) w2)))
    (fun ch w1 => R (.panicked ch) w1))
def weirlaw7_Ip6Windows_H : Hints := [(501, [(10, .int .i64)]), (31, []), (127, [])]
set_option maxRecDepth 100000 in
theorem weirlaw7_Ip6Windows_of (bA : Option Addr) (bn : Nat) (bc : Nat) (next : Int) (w : World) (R : Ending → World → Prop) (hvc_ : weirlaw7_Ip6Windows_VC bA bn bc next w R) :
    Calls Tryd.prog 5 #[.slice bA bn bc, .int .i64 next] w R :=
  calls_of_wpc callOk mixedOk (H := weirlaw7_Ip6Windows_H) (args := [.slice bA bn bc, .int .i64 next]) (fn := Tryd.f5) (c := bodyOf Tryd.f5) Tryd.func5 rfl (Nat.le_of_ble_eq_true rfl)
    (Eq.mp (by kernel_rfl : weirlaw7_Ip6Windows_VC bA bn bc next w R = wpc Tryd.prog callF Tryd.f5.ntmps weirlaw7_Ip6Windows_H 1 (bodyOf Tryd.f5) (argEnv 0 [.slice bA bn bc, .int .i64 next]) [] w (finish Tryd.prog callF Tryd.f5.results.toList R)) hvc_)
end N6
end Go.Proofs.YtkiogaglmjeplaaDoor
/- Where what is read stands, one thing behind the other; a window of a row is written. -/
namespace Go.Eng
open Go Go.RowKit
/-- Where options stand. -/
def OPos (N : Nat) : Nat → List OP → Prop
  | q, [] => q ≤ N
  | q, o :: l => if o.kind = 0 then OPos N (q + o.n) l else o.p = q + 2 ∧ OPos N (q + 2 + o.n) l
theorem OPos.le {N : Nat} : ∀ {l : List OP} {q : Nat}, OPos N q l → q ≤ N
  | [], _, h => h
  | o :: l, q, h => by
    unfold OPos at h
    split at h
    · have := OPos.le h; omega
    · have := OPos.le h.2; omega
theorem flushS_pos {N p run : Nat} (hr : run ≤ p) {l : List OP} (h : OPos N p l) : OPos N (p - run) (flushS run ++ l) := by
  unfold flushS
  split
  · rename_i h0; subst h0; simpa using h
  · show OPos N (p - run) (⟨0, 0, run⟩ :: l)
    unfold OPos
    rw [if_pos rfl, Nat.sub_add_cancel hr]
    exact h
theorem optsS_pos {b : List Int} : ∀ (k p run : Nat) (l : List OP), b.length - p ≤ k → run ≤ p → p ≤ b.length → optsS b p run = some l → OPos b.length (p - run) l := by
  have fin : ∀ {p run : Nat} {l : List OP}, run ≤ p → p ≤ b.length → b.length ≤ p → optsS b p run = some l → OPos b.length (p - run) l := fun hr hp hge h => by
    rw [optsS_end hge] at h
    injection h with h; subst h
    have := flushS_pos (l := []) hr (show OPos b.length _ [] from hp)
    rwa [List.append_nil] at this
  intro k
  induction k with
  | zero => intro p run l hk hr hp h; exact fin hr hp (by omega) h
  | succ k ih =>
    intro p run l hk hr hp h
    rcases Nat.lt_or_ge p b.length with hlt | hge
    · by_cases h0 : b.getD p 0 = 0
      · rw [optsS_zero hlt h0] at h
        have := ih _ _ _ (by omega) (by omega) (by omega) h
        rwa [show p + 1 - (run + 1) = p - run by omega] at this
      · rcases Nat.lt_or_ge b.length (p + 2 + (b.getD (p + 1) 0).toNat) with h2 | h2
        · rw [optsS_none hlt h0 h2] at h; cases h
        · by_cases h1 : b.getD p 0 = 1
          · rw [optsS_pad h1 h2] at h
            have := ih _ _ _ (by omega) (by omega) (by omega) h
            rwa [show p + 2 + (b.getD (p + 1) 0).toNat - (run + 2 + (b.getD (p + 1) 0).toNat) = p - run by omega] at this
          · rw [optsS_opt h0 h1 h2] at h
            cases hr2 : optsS b (p + 2 + (b.getD (p + 1) 0).toNat) 0 with
            | none => rw [hr2] at h; cases h
            | some m =>
              rw [hr2] at h
              injection h with h; subst h
              have := ih _ _ _ (by omega) (by omega) h2 hr2
              refine flushS_pos hr ?_
              unfold OPos
              rw [if_neg h0]
              exact ⟨rfl, this⟩
    · exact fin hr hp hge h
/-- Where headers stand. -/
def HPos (b : List Int) : Nat → List EP → Nat → Prop
  | p, [], pe => pe = p
  | p, x :: l, pe => x.p = p + 2 ∧ x.n = lenH b p ∧ p + 2 + x.n ≤ b.length ∧ OPos x.n 0 x.opts ∧ HPos b (p + 2 + x.n) l pe
theorem hdrsS_pos {b : List Int} {top : Bool} : ∀ (m i : Nat) (k : Int) (p : Nat) (l : List EP) (k' : Int) (p' : Nat), 8 - i ≤ m → hdrsS b top k p i = .ok (l, k', p') → HPos b p l p' := by
  intro m
  induction m with
  | zero =>
    intro i k p l k' p' hm h
    by_cases hk : isH k
    · by_cases h1 : k = 0 ∧ (top = false ∨ 0 < i)
      · rw [hdrsS_first hk h1] at h; cases h
      · rw [hdrsS_many hk h1 (by omega)] at h; cases h
    · rw [hdrsS_end hk] at h
      cases h
      rfl
  | succ m ih =>
    intro i k p l k' p' hm h
    by_cases hk : isH k
    · by_cases h1 : k = 0 ∧ (top = false ∨ 0 < i)
      · rw [hdrsS_first hk h1] at h; cases h
      · rcases Nat.lt_or_ge i 8 with h2 | h2
        · by_cases h3 : b.length < p + 8 ∨ b.length < p + 2 + lenH b p
          · rw [hdrsS_short hk h1 h2 h3] at h; cases h
          · cases h4 : inS k b (p + 2) (lenH b p) with
            | none => rw [hdrsS_opts hk h1 h2 (by omega) h4] at h; cases h
            | some os =>
              rw [hdrsS_step hk h1 h2 (by omega) h4] at h
              cases hr : hdrsS b top (b.getD p 0) (p + 2 + lenH b p) (i + 1) with
              | error e => rw [hr] at h; cases h
              | ok r =>
                obtain ⟨l2, k2, p2⟩ := r
                rw [hr] at h
                cases h
                refine ⟨rfl, rfl, by show p + 2 + lenH b p ≤ b.length; omega, ?_, ih (i + 1) _ _ l2 k' p' (by omega) hr⟩
                show OPos (lenH b p) 0 os
                unfold inS at h4
                split at h4
                · injection h4 with h4; subst h4; exact Nat.zero_le _
                · have hl : (bpart b (p + 2) (lenH b p)).length = lenH b p := bpart_len (by omega)
                  have := optsS_pos _ 0 0 os (Nat.le_refl _) (Nat.le_refl _) (Nat.zero_le _) h4
                  rwa [hl] at this
        · rw [hdrsS_many hk h1 h2] at h; cases h
    · rw [hdrsS_end hk] at h
      cases h
      rfl
theorem walkS_pos {b : List Int} {k : Int} {inner : Bool} {t : Tail6} (h : walkS b k inner = .ok t) : ∃ pe, HPos b 0 t.exts pe ∧ ((t.frag.has = false ∧ t.p = pe) ∨ (inner = false ∧ t.frag.has = true ∧ t.p = pe + 8)) := by
  unfold walkS at h
  cases hh : hdrsS b (!inner) k 0 0 with
  | error e => rw [hh] at h; cases h
  | ok r =>
    obtain ⟨l, k', p⟩ := r
    have hP := hdrsS_pos 8 0 k 0 l k' p (by omega) hh
    rw [hh] at h
    simp only at h
    split at h
    · split at h
      · cases h
      · rename_i hi
        split at h
        · cases h
        · split at h
          · cases h
          · cases h
            exact ⟨p, hP, .inr ⟨by simpa using hi, rfl, rfl⟩⟩
    · cases h
      exact ⟨p, hP, .inl ⟨rfl, rfl⟩⟩
theorem HPos.le {b : List Int} : ∀ {l : List EP} {p pe : Nat}, HPos b p l pe → p ≤ b.length → pe ≤ b.length
  | [], p, pe, h, hp => by
    have h : pe = p := h
    omega
  | x :: l, p, pe, h, _ => HPos.le h.2.2.2.2 h.2.2.1
theorem All2.get {α β : Type} {R : α → β → Prop} {l : List α} {m : List β} (h : All2 R l m) : ∀ {i : Nat} {a : α} {b : β}, l[i]? = some a → m[i]? = some b → R a b := by
  induction h with
  | nil => intro i a b ha; simp at ha
  | cons h _ ih =>
    intro i a b ha hb
    cases i with
    | zero =>
      simp at ha hb
      subst ha; subst hb
      exact h
    | succ i => exact ih (by simpa using ha) (by simpa using hb)
section
variable {w : World} {Γ : List Fct} {e : TypeId} {xs : List Value}
theorem set_back {j : Nat} {f g : Fct} (hj : Γ[j]? = some f) : (Γ.set j g).set j f = Γ := by
  obtain ⟨hlt, rfl⟩ := List.getElem?_eq_some_iff.1 hj
  rw [List.set_set]
  exact List.set_getElem_self hlt
theorem set_same {j : Nat} {f : Fct} (hj : Γ[j]? = some f) : Γ.set j f = Γ := by
  obtain ⟨hlt, rfl⟩ := List.getElem?_eq_some_iff.1 hj
  exact List.set_getElem_self hlt
theorem set_at {j : Nat} {f g : Fct} (hj : Γ[j]? = some f) : (Γ.set j g)[j]? = some g := by
  obtain ⟨hlt, rfl⟩ := List.getElem?_eq_some_iff.1 hj
  exact List.getElem?_set_self hlt
/-- Into a window of a row of the call's own: read, and written. -/
theorem IdxVC.sepAt (H : Sep Γ w) (j : Nat) {b n c m off : Nat} {A : Option Addr} {i : Int} {F : Addr → Prop} (hi : Γ[j]? = some (Fct.own b e 1 (.slice A n c) n xs)) (h0 : 0 ≤ i) (h1 : off + i.toNat < n) (h2 : i < m)
    (hF : ∀ a, w.cell? a = xs[off + i.toNat]? → (∀ v K, v.oneCell' = true → (∀ w', Sep (Γ.set j (Fct.own b e 1 (.slice A n c) n (xs.set (off + i.toNat) v))) w' → K w') → SetVC w a v K) → F a) : IdxVC (A.map (·.add off)) m 1 i F := by
  have hidx : IdxVC A n 1 ((off + i.toNat : Nat) : Int) F := IdxVC.sep H j hi (by omega) (by omega) (by omega) fun a ha hset => by
    rw [Int.toNat_natCast] at ha hset
    exact hF a ha hset
  obtain ⟨a, ha, _, _, hf⟩ := hidx
  subst ha
  refine ⟨a.add off, rfl, h0, h2, ?_⟩
  rw [add_add]
  rwa [Int.toNat_natCast, Nat.mul_one, ← Nat.mul_one i.toNat] at hf
end
theorem map_map_add (A : Option Addr) (p q : Nat) : (A.map (·.add p)).map (·.add q) = A.map (·.add (p + q)) := by
  cases A with
  | none => rfl
  | some a => simp only [Option.map_some]; rw [add_add]
theorem map_add0 (A : Option Addr) : A.map (·.add 0) = A := by
  cases A with
  | none => rfl
  | some a => simp only [Option.map_some]; rfl
theorem winSl_A {s : Sl} {p n : Nat} (h : 0 < n) : (winSl s p n).A = s.A.map (·.add p) := by
  unfold winSl; rw [if_neg (by omega)]
end Go.Eng
/- Ip6Windows: a row with wide room behind it; a window of it. -/
namespace Go.Eng
open Go Go.RowKit
def marksB (n : Nat) : List Int := (List.range n).map fun i => ((201 + i % 5 : Nat) : Int)
theorem marksB_succ (n : Nat) : marksB (n + 1) = marksB n ++ [((201 + n % 5 : Nat) : Int)] := by unfold marksB; rw [List.range_succ, List.map_append]; rfl
theorem marksB_len (n : Nat) : (marksB n).length = n := by simp [marksB]
theorem marksB_bts (n : Nat) : Bts (marksB n) := fun x hx => by
  obtain ⟨k, _, rfl⟩ := List.mem_map.1 hx
  omega
def roomyL (l : List Int) : List Int := l ++ marksB 75
end Go.Eng
namespace Go.Proofs.YtkiogaglmjeplaaDoor
namespace N6
open Go.Eng Go.RowKit
section
variable {w : World} {Γ : List Fct} {s : Sl}
theorem roomy_spec {l : List Int} (h : BytesAt w s l) (hl : l.length ≤ 3900000) : Calls Tryd.prog 21 #[s.val] w fun e w' => ∃ s' : Sl, e = .returned s'.val ∧ s'.n = l.length + 75 ∧ BFine s' (roomyL l) ∧ Sep [Fct.rest w None, rowB w.heap.size s' (roomyL l)] w' := by
  refine weirlaw7_roomy_of s.A s.n s.k w _ ?_
  unfold weirlaw7_roomy_VC
  have hs := h.small
  have hsl := h.len
  refine appB (m := s.n) (xs := []) (ys := l) ((Sep.start0 w).nil _ _ _) 1 rfl h.cells h.len (by omega) (Nat.le_refl _) fun A2 c2 w1 H hc2 => ?_
  rw [Nat.zero_add] at H ⊢
  refine LoopVC.of (fun st w' => ∃ i : Nat, st.2 = i ∧ i ≤ 75 ∧ st.1.2.1 = l.length + i ∧ Sep [Fct.rest w None, ownB w.heap.size (.slice st.1.1 st.1.2.1 st.1.2.2) st.1.2.1 (l ++ marksB i)] w') (fun st _ => ((75 : Int) - st.2).toNat)
    ⟨0, rfl, Nat.zero_le _, hsl.symm, by show Sep [_, ownB _ _ _ (l ++ [])] _; rw [List.append_nil]; exact H⟩ ?_
  rintro ⟨⟨A1, n1, q1⟩, _⟩ w2 ⟨i, rfl, hi, hn1, H⟩
  simp only at hn1
  show weirlaw7_roomy_L122 _ A1 n1 q1 (i : Int) w2 _
  unfold weirlaw7_roomy_L122
  refine Br.dec (fun hlt => ?_) fun hge => ?_
  · have e1 : IntKind.u8.wrap (IntKind.i64.wrap (201 + Int.tmod (i : Int) 5)) = ((201 + i % 5 : Nat) : Int) := by
      have : Int.tmod (i : Int) 5 = ((i % 5 : Nat) : Int) := tmod_nat i 5
      rw [this, w64 (by omega) (by omega), wu8 (by omega) (by omega)]; omega
    have e2 : IntKind.i64.wrap ((i : Int) + 1) = ((i + 1 : Nat) : Int) := by rw [w64 (by omega) (by omega)]; omega
    rw [e1, e2]
    have hz := (H.restOf 0 rfl).size
    refine NewVC.sep H fun g1 w3 H => ?_
    have hz3 := (H.restOf 0 rfl).size
    refine appB (m := 1) (ys := [((201 + i % 5 : Nat) : Int)]) H 1 rfl (Cells.blk0 (H.blk 2 rfl)) rfl (show n1 + 1 ≤ 140737488355328 by omega) (by omega) fun A3 c3 w4 H hc3 => ⟨⟨i + 1, rfl, by omega, by show n1 + 1 = _; omega, ?_⟩, by simp only; omega⟩
    rw [marksB_succ, ← List.append_assoc]
    exact H.take 2
  · have : i = 75 := by omega
    subst this
    refine ⟨⟨A1, n1, q1⟩, rfl, hn1, ⟨by show n1 ≤ 4000000; omega, h.bts.append (marksB_bts 75)⟩, H⟩
theorem cut_front {R : Sl} {l L : List Int} (h : BytesAt w R (l ++ L)) : BytesAt w ⟨R.A, l.length, R.k⟩ l := by
  have hl := h.len
  have hc := h.cap
  have hs := h.small
  rw [List.length_append] at hl
  refine ⟨rfl, by show l.length ≤ R.k; omega, by show l.length ≤ 4000000; omega, fun x hx => h.bts x (List.mem_append_left _ hx), ?_⟩
  have := h.cells.take l.length
  rw [← List.map_take, List.take_left'] at this
  · exact this
  · rfl
end
section
variable {w : World} {Γ : List Fct}
set_option maxHeartbeats 2000000 in
theorem window_spec {R l : Sl} {L : List Int} {b p m j : Nat} (H : Sep Γ w) (hj : Γ[j]? = some (rowB b R L)) (hf : BFine R L) (hp : p + m ≤ R.n) (h1 : l.n = m) (h2 : l.k = m) (h3 : 0 < m → l.A = R.A.map (·.add p)) :
    Calls Tryd.prog 23 #[l.val, R.val, .int .i64 (p : Int)] w fun e w' => e = .returned (.bool true) ∧ Sep Γ w' := by
  refine weirlaw7_window_of l.A l.n l.k R.A R.n R.k p w _ ?_
  unfold weirlaw7_window_VC
  have hRs := hf.1
  have hLl : L.length = R.n := by have := (H.own j hj).1; simpa using this
  rw [w64 (n := (p : Int) + (l.n : Int)) (by omega) (by omega)]
  refine Br.no (by omega) ?_
  refine LoopVC.of (fun st w' => ∃ i : Nat, st = (i : Int) ∧ i ≤ m ∧ Sep Γ w') (fun st _ => ((m : Int) - st).toNat) ⟨0, rfl, Nat.zero_le _, H⟩ ?_
  rintro _ w1 ⟨i, rfl, hi, H⟩
  unfold weirlaw7_window_L58
  refine Br.dec (fun hlt => ?_) fun hge => ?_
  · have e := h3 (by omega)
    have ew : IntKind.i64.wrap ((p : Int) + (i : Int)) = ((p + i : Nat) : Int) := by rw [w64 (by omega) (by omega)]; omega
    have ei : (((p + i : Nat) : Int)).toNat = p + i := Int.toNat_natCast _
    rw [ew, e]
    refine IdxVC.int (k := .u8) (xs := L) (H.cells j hj) (by omega) (by omega) hLl fun a ha => ⟨_, ha, ?_⟩
    rw [ei]
    have hx := getD_byte hf.2 (p + i)
    obtain ⟨y, hy⟩ : ∃ y, y = IntKind.u8.wrap (L.getD (p + i) 0 + 1) := ⟨_, rfl⟩
    rw [← hy]
    refine IdxVC.sepAt H j hj (off := p) (i := (i : Int)) (by omega) (by omega) (by omega) fun a1 _ hset => hset _ _ rfl fun w2 H2 => ?_
    rw [Int.toNat_natCast, map_set] at H2
    have hj2 := set_at (g := ownB b (.slice R.A R.n R.k) R.n (L.set (p + i) y)) hj
    have hL2 : (L.set (p + i) y).length = R.n := by rw [List.length_set]; exact hLl
    refine IdxVC.int (k := .u8) (xs := L.set (p + i) y) (H2.cells j hj2) (by omega) (by omega) hL2 fun a2 ha2 => ⟨_, ha2, ?_⟩
    have ey : (L.set (p + i) y).getD (p + i) 0 = y := by
      rw [List.getD_eq_getElem?_getD, List.getElem?_set_self (by omega)]; rfl
    rw [ei, ey]
    refine Br.no (fun h => h rfl) ?_
    refine IdxVC.sep H2 j hj2 (by omega) (by omega) (by omega) fun a3 _ hset => hset _ _ rfl fun w3 H3 => ?_
    rw [ei, map_set] at H3
    have eb : (L.set (p + i) y).set (p + i) (L.getD (p + i) 0) = L := by
      rw [List.set_set, List.getD_eq_getElem?_getD, List.getElem?_eq_getElem (by omega)]
      exact List.set_getElem_self (by omega)
    rw [eb, List.set_set] at H3
    have H3 : Sep Γ w3 := by rw [← set_same hj]; exact H3
    refine IdxVC.sepAt H3 j hj (off := p) (i := (i : Int)) (by omega) (by omega) (by omega) fun a4 ha4 _ => ⟨L.getD (p + i) 0, ?_, Br.no (fun h => h rfl) ?_⟩
    · rw [ha4, Int.toNat_natCast, List.getElem?_map, List.getElem?_eq_getElem (by omega), List.getD_eq_getElem?_getD, List.getElem?_eq_getElem (by omega)]; rfl
    · rw [w64 (by omega) (by omega)]
      exact ⟨⟨i + 1, by omega, by omega, H3⟩, by omega⟩
  · refine Br.dec (fun _ => ⟨rfl, H⟩) fun h0 => ?_
    have hRB : BytesAt w1 R L := bytesAt_of (b := b) (H.own j hj) hf
    have hwin := hRB.win (p := p) (n := m) (by omega)
    have e := h3 (by omega)
    refine NewVC.sep (Sep.start0 w1) fun g1 w4 K => ?_
    have K := K.front
    have hg := K.fresh 1 0 (by decide) rfl rfl
    have K := K.blkOwn 0 rfl (b := w1.heap.size) (n := 0) (c := 0) hg rfl (Nat.le_refl _) (by decide)
    refine appB (m := R.n) (xs := []) (ys := L) K 0 rfl ((hRB.ext (K.restOf 1 rfl)).cells) hLl (by omega) (K.restOf 1 rfl).size fun A2 c2 w5 K _ => ?_
    rw [Nat.zero_add] at K ⊢
    refine NewVC.sep K fun g2 w6 K => ?_
    have hw6 := hwin.ext (K.restOf 1 rfl)
    have hsrc : Cells w6 (some ⟨g2, 0, none⟩) ([251].map (.int .u8)) := Cells.blk0 (K.blk 2 rfl)
    have hcw : Cells w6 l.A ((bpart L p m).map (.int .u8)) := by
      have := hw6.cells
      rwa [winSl_A (by omega), ← e] at this
    have hbl : (bpart L p m).length = m := bpart_len (by omega)
    rw [h1, h2]
    refine AppVC.full' Tryd.underlying22 tB rfl hcw (by simpa using hbl) hsrc rfl (by decide) (by simp [Value.oneCell']) (by omega) (by decide) fun A3 c3 w7 _ hE7 => ?_
    have K := K.ext hE7
    rw [w64 (n := (m : Int) + 1) (by omega) (by omega)]
    refine Br.yes (by omega) ?_
    have hx := K.cells 0 rfl
    have hy := (hRB.ext (K.restOf 1 rfl)).cells
    rw [← hLl]
    refine StrVC.of hx (StrVC.of hy ⟨?_, H.ext (K.restOf 1 rfl)⟩)
    rw [str_eq L L hf.2 hf.2, decide_eq_true rfl]
end
end N6
end Go.Proofs.YtkiogaglmjeplaaDoor
/- Ip6Windows: the data of headers and of options, as windows. -/
namespace Go.Proofs.YtkiogaglmjeplaaDoor
namespace N6
open Go.Eng Go.RowKit
section
variable {w : World} {Γ : List Fct}
set_option maxHeartbeats 4000000 in
theorem windowed_opts {R se S : Sl} {L l : List Int} {b j off q i : Nat} {x : EP} {r : ExtR} {rs : List ExtR} {R0 : Ending → World → Prop} {K : Int × Int → World → Prop} (hj : Γ[j]? = some (rowB b R L)) (hf : BFine R L) (H : Sep Γ w) (hX : ∀ w', Sep Γ w' → ExtsAt w' se rs)
    (hr : rs[i]? = some r) (hx : ExtIs S l x r) (hxp : x.p = q + 2) (hxn : x.n = lenH l q) (hle : q + 2 + x.n ≤ l.length) (hO : OPos x.n 0 x.opts) (hin : off + l.length ≤ R.n) (hS : S.A = R.A.map (·.add off)) (hB : Bts l)
    (hK : ∀ w', Sep Γ w' → K (((off + (q + 2 + x.n) : Nat) : Int), IntKind.i64.wrap ((i : Int) + 1)) w') :
    weirlaw7_windowed_J1683 R0 se.A se.n R.A R.n R.k ((off + q : Nat) : Int) (i : Int) K (l.getD (q + 1) 0) w := by
  unfold weirlaw7_windowed_J1683
  have hRs := hf.1
  have hb := getD_byte hB (q + 1)
  have hol := hx.opts.len
  have hon := hx.on
  have hos := ((hX w H).opts r (List.mem_of_getElem? hr)).small
  have e0 : IntKind.i64.wrap (((off + q : Nat) : Int) + 2) = ((off + x.p + 0 : Nat) : Int) := by rw [w64 (by omega) (by omega)]; omega
  rw [e0]
  refine LoopVC.of (fun st w' => ∃ k t : Nat, st.2 = (k : Int) ∧ k ≤ r.opts.length ∧ st.1 = ((off + x.p + t : Nat) : Int) ∧ OPos x.n t (x.opts.drop k) ∧ Sep Γ w') (fun st _ => ((r.opts.length : Int) - st.2).toNat) ⟨0, 0, rfl, Nat.zero_le _, rfl, hO, H⟩ ?_
  rintro ⟨_, _⟩ w4 ⟨k, t, rfl, hk, rfl, hP, H⟩
  show weirlaw7_windowed_L53882 R0 se.A se.n R.A R.n R.k ((off + q : Nat) : Int) (i : Int) K (l.getD (q + 1) 0) ((off + x.p + t : Nat) : Int) (k : Int) w4 _
  unfold weirlaw7_windowed_L53882
  have hX4 := hX w4 H
  have idx : ∀ {F : Addr → Prop}, (∀ a, CellsAt w4 a 0 r.v.cells → F a) → IdxVC se.A se.n 3 (i : Int) F := fun hF => ExtsAt.idxD (S := fun w' => w' = w4) rfl (fun w' e => by subst e; exact hX4) hr fun a ha => hF a (ha w4 rfl)
  have hk1 : IntKind.i64.wrap ((k : Int) + 1) = ((k + 1 : Nat) : Int) := by rw [w64 (by omega) (by omega)]; omega
  refine idx fun a3 ha3 => ⟨_, _, _, c1 ha3, Br.dec (fun hlt => ?_) fun hge => ?_⟩
  · have hkl : k < r.opts.length := by omega
    have hro : r.opts[k]? = some r.opts[k] := List.getElem?_eq_getElem hkl
    have hxo : x.opts[k]? = some (x.opts[k]'(by omega)) := List.getElem?_eq_getElem (by omega)
    obtain ⟨o, ho⟩ : ∃ o, o = x.opts[k]'(by omega) := ⟨_, rfl⟩
    obtain ⟨ro, hroe⟩ : ∃ ro, ro = r.opts[k] := ⟨_, rfl⟩
    rw [← ho] at hxo
    rw [← hroe] at hro
    have hoi := hx.opts.get hxo hro
    rw [List.drop_eq_getElem_cons (show k < x.opts.length by omega), ← ho] at hP
    unfold OPos at hP
    have oidx : ∀ {F : Addr → Prop}, (∀ a, CellsAt w4 a 0 ro.v.cells → F a) → IdxVC r.v.opts.A r.v.opts.n 2 (k : Int) F := fun hF => OptsAt.idxD (S := fun w' => w' = w4) rfl (fun w' e => by subst e; exact hX4.opts r (List.mem_of_getElem? hr)) hro fun a ha => hF a (ha w4 rfl)
    refine idx fun a4 ha4 => ⟨_, _, _, c1 ha4, oidx fun a5 ha5 => ⟨_, _, _, c1 ha5, ?_⟩⟩
    refine idx fun a6 ha6 => ⟨_, _, _, c1 ha6, oidx fun a7 ha7 => ⟨_, c0 ha7, ?_⟩⟩
    have hn := hoi.n
    have hkd := hoi.kind
    refine Br.dec (fun h0 => ?_) fun h0 => ?_
    · rw [if_pos (by omega)] at hP
      have := hP.le
      refine ⟨⟨k + 1, t + o.n, hk1, by omega, ?_, hP, H⟩, by simp only [hk1]; omega⟩
      show IntKind.i64.wrap (((off + x.p + t : Nat) : Int) + (ro.v.data.n : Int)) = _
      rw [w64 (by omega) (by omega)]; omega
    · rw [if_neg (by omega)] at hP
      obtain ⟨hop, hP⟩ := hP
      have := hP.le
      have e2 : IntKind.i64.wrap (((off + x.p + t : Nat) : Int) + 2) = ((off + x.p + o.p : Nat) : Int) := by rw [w64 (by omega) (by omega)]; omega
      rw [e2]
      refine idx fun a8 ha8 => ⟨_, _, _, c1 ha8, oidx fun a9 ha9 => ⟨_, _, _, c1 ha9, ?_⟩⟩
      have hw := hoi.win (by omega)
      refine (window_spec (R := R) (l := ro.v.data) (p := off + x.p + o.p) (m := o.n) H hj hf (by omega) hn (by rw [hw]; rfl) (fun h => ?_)).mono ?_
      · rw [hw, winSl_A h, winSl_A (by omega), hS, map_map_add, map_map_add, ← Nat.add_assoc]
      rintro _ w5 ⟨rfl, H⟩
      refine ⟨_, rfl, Br.f rfl ⟨⟨k + 1, t + 2 + o.n, hk1, by omega, ?_, hP, H⟩, by simp only [hk1]; omega⟩⟩
      show IntKind.i64.wrap (((off + x.p + o.p : Nat) : Int) + (ro.v.data.n : Int)) = _
      rw [w64 (by omega) (by omega)]; omega
  · have e8 : IntKind.i64.wrap (IntKind.i64.wrap (((off + q : Nat) : Int) + IntKind.i64.wrap (8 * IntKind.i64.wrap (l.getD (q + 1) 0))) + 8) = ((off + (q + 2 + x.n) : Nat) : Int) := by
      unfold lenH at hxn
      rw [w64 (n := l.getD (q + 1) 0) (by omega) (by omega), w64 (n := 8 * l.getD (q + 1) 0) (by omega) (by omega), w64 (n := ((off + q : Nat) : Int) + 8 * l.getD (q + 1) 0) (by omega) (by omega), w64 (by omega) (by omega)]
      omega
    rw [e8]
    exact hK w4 H
set_option maxHeartbeats 4000000 in
theorem windowed_spec {R se S : Sl} {L l : List Int} {b j off pe : Nat} {xs : List EP} {rs : List ExtR} (hj : Γ[j]? = some (rowB b R L)) (hf : BFine R L) (H : Sep Γ w) (hX : ∀ w', Sep Γ w' → ExtsAt w' se rs) (hA : All2 (ExtIs S l) xs rs)
    (hP : HPos l 0 xs pe) (hin : off + l.length ≤ R.n) (hl : ∀ i, i < l.length → L.getD (off + i) 0 = l.getD i 0) (hS : 0 < l.length → S.A = R.A.map (·.add off)) (hB : Bts l) :
    Calls Tryd.prog 22 #[se.val, R.val, .int .i64 (off : Int)] w fun e w' => e = .returned (.tuple #[.bool true, .int .i64 ((off + pe : Nat) : Int)]) ∧ Sep Γ w' := by
  refine weirlaw7_windowed_of se.A se.n se.k R.A R.n R.k off w _ ?_
  unfold weirlaw7_windowed_VC
  have hRs := hf.1
  have hLl : L.length = R.n := by have := (H.own j hj).1; simpa using this
  have hxl := hA.len
  have hrl := (hX w H).len
  have hss := (hX w H).small
  refine LoopVC.of (fun st w' => ∃ i q : Nat, st.2 = (i : Int) ∧ i ≤ rs.length ∧ st.1 = ((off + q : Nat) : Int) ∧ HPos l q (xs.drop i) pe ∧ q ≤ l.length ∧ Sep Γ w') (fun st _ => ((rs.length : Int) - st.2).toNat) ⟨0, 0, rfl, Nat.zero_le _, rfl, hP, Nat.zero_le _, H⟩ ?_
  rintro ⟨_, _⟩ w1 ⟨i, q, rfl, hi, rfl, hP, hq, H⟩
  show weirlaw7_windowed_L26 _ se.A se.n R.A R.n R.k ((off + q : Nat) : Int) (i : Int) w1 _
  unfold weirlaw7_windowed_L26
  have hX1 := hX w1 H
  refine Br.dec (fun hlt => ?_) fun hge => ?_
  · have hil : i < rs.length := by omega
    have hr : rs[i]? = some rs[i] := List.getElem?_eq_getElem hil
    have hx : xs[i]? = some (xs[i]'(by omega)) := List.getElem?_eq_getElem (by omega)
    obtain ⟨x, hxe⟩ : ∃ x, x = xs[i]'(by omega) := ⟨_, rfl⟩
    obtain ⟨r, hre⟩ : ∃ r, r = rs[i] := ⟨_, rfl⟩
    rw [← hxe] at hx
    rw [← hre] at hr
    have hE := hA.get hx hr
    rw [List.drop_eq_getElem_cons (show i < xs.length by omega), ← hxe] at hP
    obtain ⟨p1, p2, p3, p4, p5⟩ := hP
    have h6 : 6 ≤ lenH l q := by unfold lenH; omega
    have idx : ∀ {F : Addr → Prop}, (∀ a, CellsAt w1 a 0 r.v.cells → F a) → IdxVC se.A se.n 3 (i : Int) F := fun hF => ExtsAt.idxD (S := fun w' => w' = w1) rfl (fun w' e => by subst e; exact hX1) hr fun a ha => hF a (ha w1 rfl)
    rw [w64 (n := ((off + q : Nat) : Int) + 8) (by omega) (by omega), w64 (n := ((off + q : Nat) : Int) + 1) (by omega) (by omega)]
    refine Br.no (by omega) ?_
    refine IdxVC.int (k := .u8) (xs := L) (H.cells j hj) (by omega) (by omega) hLl fun a ha => ⟨_, ha, ?_⟩
    have ev : L.getD (((off + q : Nat) : Int) + 1).toNat 0 = l.getD (q + 1) 0 := by
      rw [show (((off + q : Nat) : Int) + 1).toNat = off + (q + 1) by omega]
      exact hl _ (by omega)
    rw [ev]
    have hSA := hS (by omega)
    refine JoinVC.of (fun _ w' => Sep Γ w') ?_ ?_
    · refine idx fun a1 ha1 => ⟨_, c0 ha1, Br.dec (fun h43 => ?_) fun _ => H⟩
      refine idx fun a2 ha2 => ⟨_, _, _, c2 ha2, ?_⟩
      have hkd := hE.kind
      have hd := hE.data
      rw [if_pos (by omega)] at hd
      have e2 : IntKind.i64.wrap (((off + q : Nat) : Int) + 2) = ((off + x.p : Nat) : Int) := by rw [w64 (by omega) (by omega)]; omega
      rw [e2]
      refine (window_spec (R := R) (l := r.v.data) (p := off + x.p) (m := x.n) H hj hf (by omega) (by rw [hd]; rfl) (by rw [hd]; rfl) (fun h => ?_)).mono ?_
      · rw [hd, winSl_A h, hSA, map_map_add]
      rintro _ w2 ⟨rfl, H⟩
      exact ⟨_, rfl, Br.f rfl H⟩
    rintro _ w3 H
    refine windowed_opts (S := S) (x := x) hj hf H hX hr hE p1 p2 p3 p4 hin hSA hB fun w' H' => ?_
    rw [w64 (n := (i : Int) + 1) (by omega) (by omega)]
    exact ⟨⟨i + 1, q + 2 + x.n, by simp, by omega, rfl, p5, p3, H'⟩, by simp only; omega⟩
  · rw [List.drop_of_length_le (by omega)] at hP
    have hP : pe = q := hP
    subst hP
    exact ⟨rfl, H⟩
end
end N6
end Go.Proofs.YtkiogaglmjeplaaDoor
/- Ip6Windows: what is read are windows of the bytes. -/
namespace Go.Proofs.YtkiogaglmjeplaaDoor
namespace N6
open Go.Eng Go.RowKit
section
variable {w : World} {Γ : List Fct}
theorem parseS_ok {l : List Int} {t : Tail6} (h : parseS l = .ok t) : walkS (bpart l 40 (lenP l)) (l.getD 6 0) false = .ok t := by
  unfold parseS at h
  split at h
  · cases h
  · split at h
    · cases h
    · split at h
      · cases h
      · split at h
        · cases h
        · exact h
theorem chainS_ok {next : Int} {l : List Int} {t : Tail6} (h : chainS next l = .ok t) : walkS l next true = .ok t ∧ (0 ≤ next ∧ next ≤ 255) := by
  unfold chainS at h
  split at h
  · cases h
  · split at h
    · cases h
    · exact ⟨h, by omega⟩
theorem roomyL_len (l : List Int) : (roomyL l).length = l.length + 75 := by unfold roomyL; rw [List.length_append, marksB_len]
theorem roomyL_at {l : List Int} {p n i : Nat} (hp : p + n ≤ l.length) (hi : i < n) : (roomyL l).getD (p + i) 0 = (bpart l p n).getD i 0 := by
  unfold roomyL bpart
  rw [List.getD_eq_getElem?_getD, List.getD_eq_getElem?_getD, List.getElem?_append_left (by omega), List.getElem?_take_of_lt hi, List.getElem?_drop]
theorem row_front {R : Sl} {l : List Int} {b : Nat} (H : Sep Γ w) (j : Nat) (hj : Γ[j]? = some (rowB b R (roomyL l))) (hf : BFine R (roomyL l)) : BytesAt w ⟨R.A, l.length, R.k⟩ l := cut_front (bytesAt_of (b := b) (H.own j hj) hf)
set_option maxRecDepth 100000 in
set_option maxHeartbeats 4000000 in
theorem windows_end {sb R : Sl} {lb : List Int} {w9 : World} (hB : BytesAt w sb lb) (hn : sb.n ≤ 1048576) (hK : Kn w) (hf : BFine R (roomyL lb)) (H : Sep [Fct.rest w None, rowB w.heap.size R (roomyL lb)] w9) :
    weirlaw7_Ip6Windows_J127 (fun e w' => e = .returned (.bool true) ∧ Ext w w') sb.A sb.n sb.k R.A R.n R.k w9 := by
  unfold weirlaw7_Ip6Windows_J127
  have hl := hB.len
  refine (started7_spec (hK.ext (H.restOf 0 rfl))).mono ?_
  rintro _ w1 ⟨hE1, rfl⟩
  have H := H.ext hE1
  refine ⟨_, rfl, Br.t rfl ?_⟩
  refine (roomy_spec (s := sb) (hB.ext (H.restOf 0 rfl)) (by omega)).mono ?_
  rintro _ w2 ⟨R2, rfl, h2n, h2f, H2⟩
  have H := H.ext (H2.restOf 0 rfl)
  refine ⟨_, _, _, rfl, ?_⟩
  refine (alike7_spec (s := R) (t := R2) (bytesAt_of (b := w.heap.size) (H.own 1 rfl) hf) (bytesAt_of (b := w1.heap.size) (H2.own 1 rfl) h2f)).mono ?_
  rintro _ w3 ⟨hw3, rfl⟩
  subst w3
  rw [decide_eq_true rfl]
  exact ⟨_, rfl, rfl, H.restOf 0 rfl⟩
set_option maxRecDepth 100000 in
set_option maxHeartbeats 4000000 in
theorem windows_chain {sb R : Sl} {lb : List Int} {next : Int} {w9 : World} (hB : BytesAt w sb lb) (hn : sb.n ≤ 1048576) (hK : Kn w) (hRn : R.n = lb.length + 75) (hf : BFine R (roomyL lb)) (H : Sep [Fct.rest w None, rowB w.heap.size R (roomyL lb)] w9) :
    weirlaw7_Ip6Windows_J31 (fun e w' => e = .returned (.bool true) ∧ Ext w w') sb.A sb.n sb.k next R.A R.n R.k R.A lb.length R.k w9 := by
  unfold weirlaw7_Ip6Windows_J31
  have hl := hB.len
  refine (chain_spec (next := next) (row_front H 1 rfl hf) (hK.ext (H.restOf 0 rfl))).mono ?_
  rintro e w10 ⟨se, sd, xs, HP, hsn, hm⟩
  have H := H.mades HP
  have hlow : Sep [Fct.rest w None, rowB w.heap.size R (roomyL lb)] w10 := H.sub (.cons_cons _ (.cons_cons _ (List.nil_sublist _)))
  cases hp : chainS next lb with
  | error er =>
    rw [hp] at hm
    obtain ⟨rfl, rfl, rfl, rfl, he⟩ := hm
    refine ⟨_, _, _, _, _, _, _, _, rfl, JoinVC.of (fun _ w' => Sep [Fct.rest w None, rowB w.heap.size R (roomyL lb)] w') ?_ fun _ w' H => windows_end hB hn hK hf H⟩
    refine num7_spec.mono ?_
    rintro _ w11 ⟨hw11, rfl⟩
    subst w11
    exact ⟨_, rfl, Br.no he hlow⟩
  | ok t =>
    rw [hp] at hm
    obtain ⟨rfl, hA, hd⟩ := hm
    obtain ⟨hw, hnx⟩ := chainS_ok hp
    obtain ⟨pe, hP, hpe⟩ := walkS_pos hw
    have hpe : t.p = pe := by
      rcases hpe with h | h
      · exact h.2
      · exact absurd h.1 (by decide)
    obtain ⟨i1, i2, i3, i4⟩ := walkS_inside hB.bts hnx hw
    have hal := hA.len
    refine ⟨_, _, _, _, _, _, _, _, rfl, JoinVC.of (fun _ w' => Sep [Fct.rest w None, rowB w.heap.size R (roomyL lb)] w') ?_ fun _ w' H => windows_end hB hn hK hf H⟩
    refine num7_spec.mono ?_
    rintro _ w11 ⟨hw11, rfl⟩
    subst w11
    refine ⟨_, rfl, Br.yes rfl ?_⟩
    refine (windowed_spec (R := R) (se := se) (S := ⟨R.A, lb.length, R.k⟩) (off := 0) (j := 1) (l := lb) rfl hf H (fun w' H' => ?_) hA hP (by omega) (fun i hi => ?_) (fun _ => (map_add0 _).symm) hB.bts).mono ?_
    · exact extsAt_read (b := w9.heap.size) (fun f hf => H'.mem (List.mem_append_right _ hf)) (row_front H' 1 rfl hf) hA i1 hsn.symm (by omega)
    · unfold roomyL
      rw [Nat.zero_add, List.getD_eq_getElem?_getD, List.getElem?_append_left (by omega), ← List.getD_eq_getElem?_getD]
    rintro _ w12 ⟨rfl, H⟩
    refine ⟨_, _, rfl, Br.f rfl ?_⟩
    have hdn : sd.n = lb.length - t.p := by rw [hd]; rfl
    rw [w64 (n := ((0 + pe : Nat) : Int) + (sd.n : Int)) (by omega) (by omega)]
    refine Br.no (fun h => h (by omega)) ?_
    refine (window_spec (R := R) (l := sd) (p := 0 + pe) (m := lb.length - t.p) (j := 1) H rfl hf (by omega) hdn (by rw [hd]; rfl) (fun h => by rw [hd, winSl_A h, hpe, Nat.zero_add])).mono ?_
    rintro _ w13 ⟨rfl, H⟩
    exact ⟨_, rfl, Br.f rfl (H.sub (.cons_cons _ (.cons_cons _ (List.nil_sublist _))))⟩
set_option maxRecDepth 100000 in
set_option maxHeartbeats 4000000 in
theorem windows_law {sb : Sl} {lb : List Int} {next : Int} (hB : BytesAt w sb lb) (hn : sb.n ≤ 1048576) (hK : Kn w) : Calls Tryd.prog 5 #[sb.val, .int .i64 next] w fun e w' => e = .returned (.bool true) ∧ Ext w w' := by
  refine weirlaw7_Ip6Windows_of sb.A sb.n sb.k next w _ ?_
  unfold weirlaw7_Ip6Windows_VC
  have hl := hB.len
  refine (roomy_spec (s := sb) hB (by omega)).mono ?_
  rintro _ w1 ⟨R, rfl, hRn, hf, H⟩
  have hcap := (bytesAt_of (b := w.heap.size) (s := R) (H.own 1 rfl) hf).cap
  refine ⟨_, _, _, rfl, by omega, by omega, ?_⟩
  rw [show (sb.n : Int).toNat = lb.length by omega]
  refine (parse_spec (row_front H 1 rfl hf) (hK.ext (H.restOf 0 rfl))).mono ?_
  rintro e w2 ⟨h, xs, HP, hsn, hm⟩
  have H := H.mades HP
  cases hp : parseS lb with
  | error er =>
    rw [hp] at hm
    obtain ⟨rfl, rfl, rfl, he⟩ := hm
    refine onRet_is (Ip6V.of Ip6V.z ⟨_, rfl, NewVC.sep H fun g1 w3 H => ?_⟩)
    have H := H.front
    refine Stores.sep H 0 rfl (Ip6V.one _) (Nat.le_refl _) (splice_all rfl) fun w4 H => ?_
    refine JoinVC.of (fun _ w' => Sep [Fct.rest w None, rowB w.heap.size R (roomyL lb)] w') ?_ fun _ w' H => windows_chain hB hn hK (by omega) hf H
    refine num7_spec.mono ?_
    rintro _ w5 ⟨hw5, rfl⟩
    subst w5
    exact ⟨_, rfl, Br.no he (H.sub (.cons _ (.cons_cons _ (.cons_cons _ (List.nil_sublist _)))))⟩
  | ok t =>
    rw [hp] at hm
    obtain ⟨rfl, h40, hA, hd, _, _, _, _, _, h6, _⟩ := hm
    have hw := parseS_ok hp
    obtain ⟨pe, hP, hpe⟩ := walkS_pos hw
    have hbb : Bts (bpart lb 40 (lenP lb)) := (hB.bts.drop _).take _
    have hwl : (bpart lb 40 (lenP lb)).length = lenP lb := bpart_len h40
    obtain ⟨i1, i2, i3, i4⟩ := walkS_inside hbb (getD_byte hB.bts 6) hw
    have hpl := hP.le (Nat.zero_le _)
    have hal := hA.len
    refine onRet_is (Ip6V.of h ⟨_, rfl, NewVC.sep H fun g1 w3 H => ?_⟩)
    have H := H.front
    refine Stores.sep H 0 rfl (Ip6V.one _) (Nat.le_refl _) (splice_all rfl) fun w4 H => ?_
    refine JoinVC.of (fun _ w' => Sep [Fct.rest w None, rowB w.heap.size R (roomyL lb)] w') ?_ fun _ w' H => windows_chain hB hn hK (by omega) hf H
    refine num7_spec.mono ?_
    rintro _ w5 ⟨hw5, rfl⟩
    subst w5
    refine ⟨_, rfl, Br.yes rfl ⟨_, _, _, H.cell 0 rfl 37 rfl, ?_⟩⟩
    refine (windowed_spec (R := R) (se := h.exts) (S := winSl ⟨R.A, lb.length, R.k⟩ 40 (lenP lb)) (off := 40) (j := 2) (l := bpart lb 40 (lenP lb)) rfl hf H (fun w' H' => ?_) hA hP (by omega) (fun i hi => roomyL_at h40 (by omega)) (fun h => winSl_A (by omega)) hbb).mono ?_
    · exact extsAt_read (b := w1.heap.size) (fun f hf => H'.mem (List.mem_cons_of_mem _ (List.mem_append_right _ hf))) ((row_front H' 2 rfl hf).win (p := 40) (n := lenP lb) h40) hA i1 hsn.symm (by omega)
    rintro _ w6 ⟨rfl, H⟩
    refine ⟨_, _, rfl, JoinVC.of (fun st w' => st = ((40 + t.p : Nat) : Int) ∧ w' = w6) ?_ ?_⟩
    · refine ⟨_, H.cell 0 rfl 38 rfl, ?_⟩
      rw [h6]
      rcases hpe with ⟨h0, e⟩ | ⟨_, h0, e⟩
      · rw [h0, e]
        exact Br.f rfl ⟨rfl, rfl⟩
      · rw [h0]
        refine Br.t rfl ⟨?_, rfl⟩
        rw [w64 (by omega) (by omega)]; omega
    rintro _ w7 ⟨rfl, hw7⟩
    subst w7
    unfold weirlaw7_Ip6Windows_J501
    refine Br.f rfl ⟨_, _, _, H.cell 0 rfl 43 rfl, ?_⟩
    refine (window_spec (R := R) (l := h.data) (p := 40 + t.p) (m := lenP lb - t.p) (j := 2) H rfl hf (by omega) (by rw [hd]; rfl) (by rw [hd]; rfl) (fun h => by rw [hd, winSl_A h, winSl_A (by omega), map_map_add])).mono ?_
    rintro _ w8 ⟨rfl, H⟩
    exact ⟨_, rfl, Br.f rfl (H.sub (.cons _ (.cons_cons _ (.cons_cons _ (List.nil_sublist _)))))⟩
end
end N6
end Go.Proofs.YtkiogaglmjeplaaDoor
