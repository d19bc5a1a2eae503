/- Chapter 13 by value: what each piece of version 6 is worth. -/
import Derived.Test.YthhgbpmihhljdaaDoorBar
import Derived.Test.YthhgbpmihhljdaaDoorProg
import Derived.Test.YthhgbpmihhljdaaDoorBae
import Derived.Test.YthhgbpmihhljdaaDoorBaj
import Derived.Test.YthhgbpmihhljdaaDoorBag
namespace Go.Eng
open Go Go.RowKit
end Go.Eng
/- SplitWhole6 by value: the parts are what Chain reads the rest of. -/
namespace Go.Eng
open Go Go.RowKit
theorem walkS_inside {b : List Int} (hB : Bts b) {k : Int} (hk : 0 ≤ k ∧ k ≤ 255) {inner : Bool} {t : Tail6} (h : walkS b k inner = .ok t) : (∀ x ∈ t.exts, x.inside b) ∧ t.p ≤ b.length ∧ t.exts.length ≤ 8 ∧ 0 ≤ t.next ∧ t.next ≤ 255 := by
  unfold walkS at h
  cases hh : hdrsS b (!inner) k 0 0 with
  | error e => rw [hh] at h; cases h
  | ok r =>
    obtain ⟨l, k', p⟩ := r
    obtain ⟨i1, i2, i3, i4, i5, i6⟩ := hdrsS_inside hB 8 0 k 0 l k' p (by omega) (Nat.zero_le _) hh
    have hl8 : l.length ≤ 8 := by
      rcases i5 with e | rfl
      · omega
      · simp
    rw [hh] at h
    simp only at h
    split at h
    · split at h
      · cases h
      · split at h
        · cases h
        · split at h
          · cases h
          · cases h
            exact ⟨i1, by show p + 8 ≤ b.length; omega, hl8, getD_byte hB p⟩
    · cases h
      exact ⟨i1, i2, hl8, i6 hk⟩
theorem bpart_end {b : List Int} {p : Nat} (_h : p ≤ b.length) : bpart b p (b.length - p) = b.drop p := by
  unfold bpart; exact List.take_of_length_le (by rw [List.length_drop]; omega)
end Go.Eng
namespace Go.RowKit
open Go Go.Eng
theorem Recs.cells {w : World} {A : Option Addr} {size : Nat} : ∀ {rs : List (List Value)}, (∀ r ∈ rs, r.length = size) → Recs w A size rs → Cells w A rs.flatten := by
  intro rs hs h i v hv
  have key : ∀ (rs : List (List Value)) (i : Nat), (∀ r ∈ rs, r.length = size) → rs.flatten[i]? = some v → ∃ (j k : Nat) (cs : List Value), i = j * size + k ∧ rs[j]? = some cs ∧ cs[k]? = some v := by
    intro rs
    induction rs with
    | nil => intro i _ h; simp at h
    | cons r l ih =>
      intro i hs h
      have hr : r.length = size := hs r (by simp)
      rw [List.flatten_cons] at h
      rcases Nat.lt_or_ge i r.length with hi | hi
      · rw [List.getElem?_append_left hi] at h
        exact ⟨0, i, r, by omega, rfl, h⟩
      · rw [List.getElem?_append_right hi] at h
        obtain ⟨j, k, cs, e, hj, hk⟩ := ih _ (fun r hr => hs r (List.mem_cons_of_mem _ hr)) h
        exact ⟨j + 1, k, cs, by rw [Nat.succ_mul]; omega, by simpa using hj, hk⟩
  obtain ⟨j, k, cs, rfl, hj, hk⟩ := key rs i hs hv
  obtain ⟨a, ha, hc⟩ := h j cs hj
  refine ⟨a, ha, ?_⟩
  have := cellsAt_get hc k v hk
  rw [Nat.zero_add, add_add] at this
  exact this
end Go.RowKit
/- WRITTEN BY a program of this session (vc.py): for each Go function the condition that is enough for its contract, and the theorem that it is. -/
namespace Go.Proofs.YthhgbpmihhljdaaDoor
open Go.Eng
namespace Nd

set_option maxRecDepth 100000 in
def view_Uint_VC (bA : Option Addr) (bn : Nat) (bc : Nat) (at_ : Int) (n : Int) (w : World) (R : Ending → World → Prop) : Prop :=
  NewVC w (.cells #[.int .u64 0] 149) fun g1 w1 =>
  NewVC w1 (.cells #[.int .i64 0] 26) fun g2 w2 =>
  Calls Tryd.prog 94 #[.int .i64 n] w2 (onRet (fun r_ w3 => ∃ x : Bool, r_ = .bool x ∧
  Br (!x)
    (SetVC w3 ⟨g1, 0, none⟩ (.int .u64 0) fun w4 =>
    SetVC w4 ⟨g2, 0, none⟩ (.int .i64 1) fun w5 =>
    ∃ res : Int, w5.cell? ⟨g1, 0, none⟩ = some (.int .u64 res) ∧
  ∃ res1 : Int, w5.cell? ⟨g2, 0, none⟩ = some (.int .i64 res1) ∧
  R (.returned (.tuple #[.int .u64 res, .int .i64 res1])) w5)
    (Calls Tryd.prog 96 #[.slice bA bn bc, .int .i64 at_, .int .i64 n] w3 (onRet (fun r_1 w6 => ∃ x1 : Int, r_1 = .int .u64 x1 ∧
  SetVC w6 ⟨g1, 0, none⟩ (.int .u64 x1) fun w7 =>
  SetVC w7 ⟨g2, 0, none⟩ (.int .i64 0) fun w8 =>
  leaveWp Tryd.prog callF (fun w9 => ∃ res2 : Int, w9.cell? ⟨g1, 0, none⟩ = some (.int .u64 res2) ∧
    ∃ res3 : Int, w9.cell? ⟨g2, 0, none⟩ = some (.int .i64 res3) ∧
    R (.returned (.tuple #[.int .u64 res2, .int .i64 res3])) w9)
    R [{ target := .fn (.func 95) #[.pointer (some ⟨g1, 0, none⟩), .pointer (some ⟨g2, 0, none⟩)], args := #[] }] .returning w8)
    (fun ch1 w6 => leaveWp Tryd.prog callF (fun w10 => ∃ res4 : Int, w10.cell? ⟨g1, 0, none⟩ = some (.int .u64 res4) ∧
    ∃ res5 : Int, w10.cell? ⟨g2, 0, none⟩ = some (.int .i64 res5) ∧
    R (.returned (.tuple #[.int .u64 res4, .int .i64 res5])) w10)
    R [{ target := .fn (.func 95) #[.pointer (some ⟨g1, 0, none⟩), .pointer (some ⟨g2, 0, none⟩)], args := #[] }] (.panicking ch1) w6))))
    (fun ch w3 => R (.panicked ch) w3))
def view_Uint_H : Hints := []
set_option maxRecDepth 100000 in
theorem view_Uint_of (bA : Option Addr) (bn : Nat) (bc : Nat) (at_ : Int) (n : Int) (w : World) (R : Ending → World → Prop) (hvc_ : view_Uint_VC bA bn bc at_ n w R) :
    Calls Tryd.prog 88 #[.slice bA bn bc, .int .i64 at_, .int .i64 n] w R :=
  calls_of_wpc callOk mixedOk (H := view_Uint_H) (args := [.slice bA bn bc, .int .i64 at_, .int .i64 n]) (fn := Tryd.f88) (c := bodyOf Tryd.f88) Tryd.func88 rfl (Nat.le_of_ble_eq_true rfl)
    (Eq.mp (by kernel_rfl : view_Uint_VC bA bn bc at_ n w R = wpc Tryd.prog callF Tryd.f88.ntmps view_Uint_H 1 (bodyOf Tryd.f88) (argEnv 0 [.slice bA bn bc, .int .i64 at_, .int .i64 n]) [] w (finish Tryd.prog callF Tryd.f88.results.toList R)) hvc_)

set_option maxRecDepth 100000 in
def view_number_L122 (R : Ending → World → Prop) (bA : Option Addr) (bn : Nat) (bc : Nat) (at_ : Int) (n : Int) (v_ : Int) (t20_ : Int) (w1 : World) (K122 : (Int × Int → World → Prop)) : Prop :=
  Br (decide (t20_ < n))
    (Calls Tryd.prog 87 #[.slice bA bn bc, .int .i64 (IntKind.i64.wrap (at_ + t20_))] w1 (onRet (fun r_ w2 => ∃ x : Int, r_ = .int .u8 x ∧
  K122 (bitv .or .u64 (IntKind.u64.wrap (v_ * 256)) (IntKind.u64.wrap x), IntKind.i64.wrap (t20_ + 1)) w2)
    (fun ch w2 => R (.panicked ch) w2)))
    (R (.returned (.int .u64 v_)) w1)
set_option maxRecDepth 100000 in
def view_number_VC (bA : Option Addr) (bn : Nat) (bc : Nat) (at_ : Int) (n : Int) (w : World) (R : Ending → World → Prop) : Prop :=
  Br (decide (at_ < 0))
    (R (.panicked [{ v := .iface 177 (.agg #[]), recovered := false }]) w)
    (Br (decide ((bn : Int) < at_))
    (R (.panicked [{ v := .iface 177 (.agg #[]), recovered := false }]) w)
    (LoopVC (S := Int × Int) (fun s_ w1 K122 => view_number_L122 R bA bn bc at_ n s_.1 s_.2 w1 K122) (0, 0) w))
def view_number_H : Hints := [(122, [(7, .int .u64), (20, .int .i64)])]
set_option maxRecDepth 100000 in
theorem view_number_of (bA : Option Addr) (bn : Nat) (bc : Nat) (at_ : Int) (n : Int) (w : World) (R : Ending → World → Prop) (hvc_ : view_number_VC bA bn bc at_ n w R) :
    Calls Tryd.prog 96 #[.slice bA bn bc, .int .i64 at_, .int .i64 n] w R :=
  calls_of_wpc callOk mixedOk (H := view_number_H) (args := [.slice bA bn bc, .int .i64 at_, .int .i64 n]) (fn := Tryd.f96) (c := bodyOf Tryd.f96) Tryd.func96 rfl (Nat.le_of_ble_eq_true rfl)
    (Eq.mp (by kernel_rfl : view_number_VC bA bn bc at_ n w R = wpc Tryd.prog callF Tryd.f96.ntmps view_number_H 1 (bodyOf Tryd.f96) (argEnv 0 [.slice bA bn bc, .int .i64 at_, .int .i64 n]) [] w (finish Tryd.prog callF Tryd.f96.results.toList R)) hvc_)

set_option maxRecDepth 100000 in
def view_Window_VC (bA : Option Addr) (bn : Nat) (bc : Nat) (at_ : Int) (n : Int) (w : World) (R : Ending → World → Prop) : Prop :=
  NewVC w (.cells #[.slice none 0 0] 32) fun g1 w1 =>
  NewVC w1 (.cells #[.int .i64 0] 26) fun g2 w2 =>
  Br (decide (n < 0))
    (SetVC w2 ⟨g1, 0, none⟩ (.slice none 0 0) fun w3 =>
    SetVC w3 ⟨g2, 0, none⟩ (.int .i64 1) fun w4 =>
    ∃ (resA : Option Addr) (resn resc : Nat), w4.cell? ⟨g1, 0, none⟩ = some (.slice resA resn resc) ∧
  ∃ res : Int, w4.cell? ⟨g2, 0, none⟩ = some (.int .i64 res) ∧
  R (.returned (.tuple #[.slice resA resn resc, .int .i64 res])) w4)
    (Calls Tryd.prog 86 #[.slice bA bn bc, .int .i64 at_, .int .i64 n] w2 (onRet (fun r_ w5 => ∃ (xA : Option Addr) (xn xc : Nat), r_ = .slice xA xn xc ∧
  SetVC w5 ⟨g1, 0, none⟩ (.slice xA xn xc) fun w6 =>
  SetVC w6 ⟨g2, 0, none⟩ (.int .i64 0) fun w7 =>
  leaveWp Tryd.prog callF (fun w8 => ∃ (resA1 : Option Addr) (resn1 resc1 : Nat), w8.cell? ⟨g1, 0, none⟩ = some (.slice resA1 resn1 resc1) ∧
    ∃ res1 : Int, w8.cell? ⟨g2, 0, none⟩ = some (.int .i64 res1) ∧
    R (.returned (.tuple #[.slice resA1 resn1 resc1, .int .i64 res1])) w8)
    R [{ target := .fn (.func 92) #[.pointer (some ⟨g1, 0, none⟩), .pointer (some ⟨g2, 0, none⟩)], args := #[] }] .returning w7)
    (fun ch w5 => leaveWp Tryd.prog callF (fun w9 => ∃ (resA2 : Option Addr) (resn2 resc2 : Nat), w9.cell? ⟨g1, 0, none⟩ = some (.slice resA2 resn2 resc2) ∧
    ∃ res2 : Int, w9.cell? ⟨g2, 0, none⟩ = some (.int .i64 res2) ∧
    R (.returned (.tuple #[.slice resA2 resn2 resc2, .int .i64 res2])) w9)
    R [{ target := .fn (.func 92) #[.pointer (some ⟨g1, 0, none⟩), .pointer (some ⟨g2, 0, none⟩)], args := #[] }] (.panicking ch) w5)))
def view_Window_H : Hints := []
set_option maxRecDepth 100000 in
theorem view_Window_of (bA : Option Addr) (bn : Nat) (bc : Nat) (at_ : Int) (n : Int) (w : World) (R : Ending → World → Prop) (hvc_ : view_Window_VC bA bn bc at_ n w R) :
    Calls Tryd.prog 78 #[.slice bA bn bc, .int .i64 at_, .int .i64 n] w R :=
  calls_of_wpc callOk mixedOk (H := view_Window_H) (args := [.slice bA bn bc, .int .i64 at_, .int .i64 n]) (fn := Tryd.f78) (c := bodyOf Tryd.f78) Tryd.func78 rfl (Nat.le_of_ble_eq_true rfl)
    (Eq.mp (by kernel_rfl : view_Window_VC bA bn bc at_ n w R = wpc Tryd.prog callF Tryd.f78.ntmps view_Window_H 1 (bodyOf Tryd.f78) (argEnv 0 [.slice bA bn bc, .int .i64 at_, .int .i64 n]) [] w (finish Tryd.prog callF Tryd.f78.results.toList R)) hvc_)

set_option maxRecDepth 100000 in
def view_Cursor_Window_VC (c : Option Addr) (n : Int) (w : World) (R : Ending → World → Prop) : Prop :=
  DrawVC w fun S1 w1 =>
  NilVC c fun p =>
  ∃ (xA : Option Addr) (xn xc : Nat), (∀ w' : World, S1 w' → w'.cell? p = some (.slice xA xn xc)) ∧
  NilVC c fun p1 =>
  ∃ x : Int, (∀ w' : World, S1 w' → w'.cell? (p1.add 1) = some (.int .i64 x)) ∧
  Calls Tryd.prog 78 #[.slice xA xn xc, .int .i64 x, .int .i64 n] w1 (onRet (fun r_ w2 => ∃ (x0A : Option Addr) (x0n x0c : Nat), ∃ x1 : Int, r_ = .tuple #[.slice x0A x0n x0c, .int .i64 x1] ∧
  S1 w2 ∧
  Br (decide (x1 = 0))
    (NilVC c fun p2 =>
    ∃ x2 : Int, w2.cell? (p2.add 1) = some (.int .i64 x2) ∧
    NilVC c fun p3 =>
    SetVC w2 (p3.add 1) (.int .i64 (IntKind.i64.wrap (x2 + n))) fun w3 =>
    R (.returned (.tuple #[.slice x0A x0n x0c, .int .i64 x1])) w3)
    (R (.returned (.tuple #[.slice x0A x0n x0c, .int .i64 x1])) w2))
    (fun _ _ => False))
def view_Cursor_Window_H : Hints := []
set_option maxRecDepth 100000 in
theorem view_Cursor_Window_of (c : Option Addr) (n : Int) (w : World) (R : Ending → World → Prop) (hvc_ : view_Cursor_Window_VC c n w R) :
    Calls Tryd.prog 61 #[.pointer c, .int .i64 n] w R :=
  calls_of_wpc callOk mixedOk (H := view_Cursor_Window_H) (args := [.pointer c, .int .i64 n]) (fn := Tryd.f61) (c := bodyOf Tryd.f61) Tryd.func61 rfl (Nat.le_of_ble_eq_true rfl)
    (Eq.mp (by kernel_rfl : view_Cursor_Window_VC c n w R = wpc Tryd.prog callF Tryd.f61.ntmps view_Cursor_Window_H 1 (bodyOf Tryd.f61) (argEnv 0 [.pointer c, .int .i64 n]) [] w (finish Tryd.prog callF Tryd.f61.results.toList R)) hvc_)

set_option maxRecDepth 100000 in
def view_Cursor_Uint_VC (c : Option Addr) (n : Int) (w : World) (R : Ending → World → Prop) : Prop :=
  DrawVC w fun S1 w1 =>
  NilVC c fun p =>
  ∃ (xA : Option Addr) (xn xc : Nat), (∀ w' : World, S1 w' → w'.cell? p = some (.slice xA xn xc)) ∧
  NilVC c fun p1 =>
  ∃ x : Int, (∀ w' : World, S1 w' → w'.cell? (p1.add 1) = some (.int .i64 x)) ∧
  Calls Tryd.prog 88 #[.slice xA xn xc, .int .i64 x, .int .i64 n] w1 (onRet (fun r_ w2 => ∃ x0 : Int, ∃ x1 : Int, r_ = .tuple #[.int .u64 x0, .int .i64 x1] ∧
  S1 w2 ∧
  Br (decide (x1 = 0))
    (NilVC c fun p2 =>
    ∃ x2 : Int, w2.cell? (p2.add 1) = some (.int .i64 x2) ∧
    NilVC c fun p3 =>
    SetVC w2 (p3.add 1) (.int .i64 (IntKind.i64.wrap (x2 + n))) fun w3 =>
    R (.returned (.tuple #[.int .u64 x0, .int .i64 x1])) w3)
    (R (.returned (.tuple #[.int .u64 x0, .int .i64 x1])) w2))
    (fun _ _ => False))
def view_Cursor_Uint_H : Hints := []
set_option maxRecDepth 100000 in
theorem view_Cursor_Uint_of (c : Option Addr) (n : Int) (w : World) (R : Ending → World → Prop) (hvc_ : view_Cursor_Uint_VC c n w R) :
    Calls Tryd.prog 76 #[.pointer c, .int .i64 n] w R :=
  calls_of_wpc callOk mixedOk (H := view_Cursor_Uint_H) (args := [.pointer c, .int .i64 n]) (fn := Tryd.f76) (c := bodyOf Tryd.f76) Tryd.func76 rfl (Nat.le_of_ble_eq_true rfl)
    (Eq.mp (by kernel_rfl : view_Cursor_Uint_VC c n w R = wpc Tryd.prog callF Tryd.f76.ntmps view_Cursor_Uint_H 1 (bodyOf Tryd.f76) (argEnv 0 [.pointer c, .int .i64 n]) [] w (finish Tryd.prog callF Tryd.f76.results.toList R)) hvc_)

set_option maxRecDepth 100000 in
def view_Cursor_Left_VC (c : Option Addr) (w : World) (R : Ending → World → Prop) : Prop :=
  DrawVC w fun S1 w1 =>
  NilVC c fun p =>
  ∃ (xA : Option Addr) (xn xc : Nat), (∀ w' : World, S1 w' → w'.cell? p = some (.slice xA xn xc)) ∧
  NilVC c fun p1 =>
  ∃ x : Int, (∀ w' : World, S1 w' → w'.cell? (p1.add 1) = some (.int .i64 x)) ∧
  R (.returned (.int .i64 (IntKind.i64.wrap ((xn : Int) - x)))) w1
def view_Cursor_Left_H : Hints := []
set_option maxRecDepth 100000 in
theorem view_Cursor_Left_of (c : Option Addr) (w : World) (R : Ending → World → Prop) (hvc_ : view_Cursor_Left_VC c w R) :
    Calls Tryd.prog 62 #[.pointer c] w R :=
  calls_of_wpc callOk mixedOk (H := view_Cursor_Left_H) (args := [.pointer c]) (fn := Tryd.f62) (c := bodyOf Tryd.f62) Tryd.func62 rfl (Nat.le_of_ble_eq_true rfl)
    (Eq.mp (by kernel_rfl : view_Cursor_Left_VC c w R = wpc Tryd.prog callF Tryd.f62.ntmps view_Cursor_Left_H 1 (bodyOf Tryd.f62) (argEnv 0 [.pointer c]) [] w (finish Tryd.prog callF Tryd.f62.results.toList R)) hvc_)
end Nd
end Go.Proofs.YthhgbpmihhljdaaDoor
