/- WRITTEN BY a program of this session (vc.py): for each Go function the condition that is enough for its contract, and the theorem that it is. -/
import Derived.Test.YthhgbpmihhljdaaGreatDoorProg
import Derived.Test.YthhgbpmihhljdaaGreatDoorBae
import Derived.Test.YthhgbpmihhljdaaGreatDoorBal
import Derived.Test.YthhgbpmihhljdaaGreatDoorBag
namespace Go.Proofs.YthhgbpmihhljdaaGreatDoor
open Go.Eng
namespace N6

set_option maxRecDepth 100000 in
def reasm_copies_VC (bA : Option Addr) (bn : Nat) (bc : Nat) (w : World) (R : Ending → World → Prop) : Prop :=
  AppVC Tryz.prog #[28, 28] 28 (.slice none 0 0) (.slice bA bn bc) w fun lA ln lc w1 =>
  R (.returned (.slice lA ln lc)) w1
def reasm_copies_H : Hints := []
set_option maxRecDepth 100000 in
theorem reasm_copies_of (bA : Option Addr) (bn : Nat) (bc : Nat) (w : World) (R : Ending → World → Prop) (hvc_ : reasm_copies_VC bA bn bc w R) :
    Calls Tryz.prog 53 #[.slice bA bn bc] w R :=
  calls_of_wpc callOk mixedOk (H := reasm_copies_H) (args := [.slice bA bn bc]) (fn := Tryz.f53) (c := bodyOf Tryz.f53) Tryz.func53 rfl (Nat.le_of_ble_eq_true rfl)
    (Eq.mp (by kernel_rfl : reasm_copies_VC bA bn bc w R = wpc Tryz.prog callF Tryz.f53.ntmps reasm_copies_H 1 (bodyOf Tryz.f53) (argEnv 0 [.slice bA bn bc]) [] w (finish Tryz.prog callF Tryz.f53.results.toList R)) hvc_)

set_option maxRecDepth 100000 in
def reasm_options_L58 (R : Ending → World → Prop) (lA : Option Addr) (ln : Nat) (outA : Option Addr) (outn : Nat) (outc : Nat) (t8_ : Int) (w1 : World) (K58 : ((Option Addr × Nat × Nat) × Int → World → Prop)) : Prop :=
  Br (decide (t8_ < (ln : Int)))
    (IdxVC lA ln 2 t8_ fun a =>
  OptV.ex fun h => CellsAt w1 a 0 h.cells ∧
  NewVC w1 (.cells (OptV.z : OptV).cells.toArray 127) fun g1 w2 =>
  Stores ⟨g1, 0, none⟩ 0 h.cells w2 fun w3 =>
  DrawVC w3 fun S1 w4 =>
  ∃ x : Int, (∀ w' : World, S1 w' → w'.cell? ⟨g1, 0, none⟩ = some (.int .i64 x)) ∧
  ∃ (xA : Option Addr) (xn xc : Nat), (∀ w' : World, S1 w' → w'.cell? ⟨g1, 1, none⟩ = some (.slice xA xn xc)) ∧
  Calls Tryz.prog 53 #[.slice xA xn xc] w4 (onRet (fun r_ w5 => ∃ (xA1 : Option Addr) (xn1 xc1 : Nat), r_ = .slice xA1 xn1 xc1 ∧
  S1 w5 ∧
  NewVC w5 (.cells (⟨x, ⟨xA1, xn1, xc1⟩⟩ : OptV).cells.toArray 127) fun g2 w6 =>
  S1 w6 ∧
  AppVC Tryz.prog #[54, 54] 54 (.slice outA outn outc) (.slice (some ⟨g2, 0, none⟩) 1 1) w6 fun lA1 ln1 lc1 w7 =>
  S1 w7 ∧
  K58 ((lA1, ln1, lc1), IntKind.i64.wrap (t8_ + 1)) w7)
    (fun _ _ => False)))
    (R (.returned (.slice outA outn outc)) w1)
set_option maxRecDepth 100000 in
def reasm_options_VC (lA : Option Addr) (ln : Nat) (_lc : Nat) (w : World) (R : Ending → World → Prop) : Prop :=
  LoopVC (S := (Option Addr × Nat × Nat) × Int) (fun s_ w1 K58 => reasm_options_L58 R lA ln s_.1.1 s_.1.2.1 s_.1.2.2 s_.2 w1 K58) ((none, 0, 0), 0) w
def reasm_options_H : Hints := [(58, [(3, .slice), (8, .int .i64)])]
set_option maxRecDepth 100000 in
theorem reasm_options_of (lA : Option Addr) (ln : Nat) (lc : Nat) (w : World) (R : Ending → World → Prop) (hvc_ : reasm_options_VC lA ln lc w R) :
    Calls Tryz.prog 75 #[.slice lA ln lc] w R :=
  calls_of_wpc callOk mixedOk (H := reasm_options_H) (args := [.slice lA ln lc]) (fn := Tryz.f75) (c := bodyOf Tryz.f75) Tryz.func75 rfl (Nat.le_of_ble_eq_true rfl)
    (Eq.mp (by kernel_rfl : reasm_options_VC lA ln lc w R = wpc Tryz.prog callF Tryz.f75.ntmps reasm_options_H 1 (bodyOf Tryz.f75) (argEnv 0 [.slice lA ln lc]) [] w (finish Tryz.prog callF Tryz.f75.results.toList R)) hvc_)

set_option maxRecDepth 100000 in
def reasm_headers_L58 (R : Ending → World → Prop) (lA : Option Addr) (ln : Nat) (outA : Option Addr) (outn : Nat) (outc : Nat) (t8_ : Int) (w1 : World) (K58 : ((Option Addr × Nat × Nat) × Int → World → Prop)) : Prop :=
  Br (decide (t8_ < (ln : Int)))
    (IdxVC lA ln 3 t8_ fun a =>
  ExtV.ex fun h => CellsAt w1 a 0 h.cells ∧
  NewVC w1 (.cells (ExtV.z : ExtV).cells.toArray 56) fun g1 w2 =>
  Stores ⟨g1, 0, none⟩ 0 h.cells w2 fun w3 =>
  DrawVC w3 fun S1 w4 =>
  ∃ x : Int, (∀ w' : World, S1 w' → w'.cell? ⟨g1, 0, none⟩ = some (.int .i64 x)) ∧
  ∃ (xA : Option Addr) (xn xc : Nat), (∀ w' : World, S1 w' → w'.cell? ⟨g1, 1, none⟩ = some (.slice xA xn xc)) ∧
  ∃ (xA1 : Option Addr) (xn1 xc1 : Nat), (∀ w' : World, S1 w' → w'.cell? ⟨g1, 2, none⟩ = some (.slice xA1 xn1 xc1)) ∧
  Calls Tryz.prog 75 #[.slice xA xn xc] w4 (onRet (fun r_ w5 => ∃ (xA2 : Option Addr) (xn2 xc2 : Nat), r_ = .slice xA2 xn2 xc2 ∧
  S1 w5 ∧
  Calls Tryz.prog 53 #[.slice xA1 xn1 xc1] w5 (onRet (fun r_1 w6 => ∃ (xA3 : Option Addr) (xn3 xc3 : Nat), r_1 = .slice xA3 xn3 xc3 ∧
  S1 w6 ∧
  NewVC w6 (.cells (⟨x, ⟨xA2, xn2, xc2⟩, ⟨xA3, xn3, xc3⟩⟩ : ExtV).cells.toArray 56) fun g2 w7 =>
  S1 w7 ∧
  AppVC Tryz.prog #[25, 25] 25 (.slice outA outn outc) (.slice (some ⟨g2, 0, none⟩) 1 1) w7 fun lA1 ln1 lc1 w8 =>
  S1 w8 ∧
  K58 ((lA1, ln1, lc1), IntKind.i64.wrap (t8_ + 1)) w8)
    (fun _ _ => False)))
    (fun _ _ => False)))
    (R (.returned (.slice outA outn outc)) w1)
set_option maxRecDepth 100000 in
def reasm_headers_VC (lA : Option Addr) (ln : Nat) (_lc : Nat) (w : World) (R : Ending → World → Prop) : Prop :=
  LoopVC (S := (Option Addr × Nat × Nat) × Int) (fun s_ w1 K58 => reasm_headers_L58 R lA ln s_.1.1 s_.1.2.1 s_.1.2.2 s_.2 w1 K58) ((none, 0, 0), 0) w
def reasm_headers_H : Hints := [(58, [(3, .slice), (8, .int .i64)])]
set_option maxRecDepth 100000 in
theorem reasm_headers_of (lA : Option Addr) (ln : Nat) (lc : Nat) (w : World) (R : Ending → World → Prop) (hvc_ : reasm_headers_VC lA ln lc w R) :
    Calls Tryz.prog 52 #[.slice lA ln lc] w R :=
  calls_of_wpc callOk mixedOk (H := reasm_headers_H) (args := [.slice lA ln lc]) (fn := Tryz.f52) (c := bodyOf Tryz.f52) Tryz.func52 rfl (Nat.le_of_ble_eq_true rfl)
    (Eq.mp (by kernel_rfl : reasm_headers_VC lA ln lc w R = wpc Tryz.prog callF Tryz.f52.ntmps reasm_headers_H 1 (bodyOf Tryz.f52) (argEnv 0 [.slice lA ln lc]) [] w (finish Tryz.prog callF Tryz.f52.results.toList R)) hvc_)

set_option maxRecDepth 100000 in
def reasm_clone6_VC (h : Ip6V) (w : World) (R : Ending → World → Prop) : Prop :=
  NewVC w (.cells h.cells.toArray 30) fun g1 w1 =>
  NewVC w1 (.cells (Ip6V.z : Ip6V).cells.toArray 30) fun g2 w2 =>
  DrawVC w2 fun S1 w3 =>
  ∃ (xA : Option Addr) (xn xc : Nat), (∀ w' : World, S1 w' → w'.cell? ⟨g1, 37, none⟩ = some (.slice xA xn xc)) ∧
  ∃ (xA1 : Option Addr) (xn1 xc1 : Nat), (∀ w' : World, S1 w' → w'.cell? ⟨g1, 43, none⟩ = some (.slice xA1 xn1 xc1)) ∧
  Calls Tryz.prog 52 #[.slice xA xn xc] w3 (onRet (fun r_ w4 => ∃ (xA2 : Option Addr) (xn2 xc2 : Nat), r_ = .slice xA2 xn2 xc2 ∧
  S1 w4 ∧
  Calls Tryz.prog 53 #[.slice xA1 xn1 xc1] w4 (onRet (fun r_1 w5 => ∃ (xA3 : Option Addr) (xn3 xc3 : Nat), r_1 = .slice xA3 xn3 xc3 ∧
  SetVC w5 ⟨g1, 37, none⟩ (.slice xA2 xn2 xc2) fun w6 =>
  SetVC w6 ⟨g1, 43, none⟩ (.slice xA3 xn3 xc3) fun w7 =>
  Ip6V.ex fun h1 => CellsAt w7 ⟨g1, 0, none⟩ 0 h1.cells ∧
  Stores ⟨g2, 0, none⟩ 0 h1.cells w7 fun w8 =>
  Ip6V.ex fun res => CellsAt w8 ⟨g2, 0, none⟩ 0 res.cells ∧
  R (.returned res.val) w8)
    (fun _ _ => False)))
    (fun _ _ => False))
def reasm_clone6_H : Hints := [(6, [])]
set_option maxRecDepth 100000 in
theorem reasm_clone6_of (h : Ip6V) (w : World) (R : Ending → World → Prop) (hvc_ : reasm_clone6_VC h w R) :
    Calls Tryz.prog 26 #[h.val] w R :=
  calls_of_wpc callOk mixedOk (H := reasm_clone6_H) (args := [h.val]) (fn := Tryz.f26) (c := bodyOf Tryz.f26) Tryz.func26 rfl (Nat.le_of_ble_eq_true rfl)
    (Eq.mp (by kernel_rfl : reasm_clone6_VC h w R = wpc Tryz.prog callF Tryz.f26.ntmps reasm_clone6_H 1 (bodyOf Tryz.f26) (argEnv 0 [h.val]) [] w (finish Tryz.prog callF Tryz.f26.results.toList R)) hvc_)

set_option maxRecDepth 100000 in
def reasm_New_VC (max : Int) (ticks : Int) (w : World) (R : Ending → World → Prop) : Prop :=
  Br (decide (max < 1))
    (R (.returned (.tuple #[.pointer none, .int .i64 1])) w)
    (Br (decide ((256 : Int) < max))
      (R (.returned (.tuple #[.pointer none, .int .i64 1])) w)
      (Br (decide (ticks < 1))
        (R (.returned (.tuple #[.pointer none, .int .i64 1])) w)
        (Br (decide ((1048576 : Int) < ticks))
    (R (.returned (.tuple #[.pointer none, .int .i64 1])) w)
    (NewVC w (.map #[] 0) fun g1 w1 =>
  NewVC w1 (.cells #[.int .i64 max, .int .i64 ticks, .int .i64 0, .map (some g1)] 71) fun g2 w2 =>
  R (.returned (.tuple #[.pointer (some ⟨g2, 0, none⟩), .int .i64 0])) w2))))
def reasm_New_H : Hints := []
set_option maxRecDepth 100000 in
theorem reasm_New_of (max : Int) (ticks : Int) (w : World) (R : Ending → World → Prop) (hvc_ : reasm_New_VC max ticks w R) :
    Calls Tryz.prog 7 #[.int .i64 max, .int .i64 ticks] w R :=
  calls_of_wpc callOk mixedOk (H := reasm_New_H) (args := [.int .i64 max, .int .i64 ticks]) (fn := Tryz.f7) (c := bodyOf Tryz.f7) Tryz.func7 rfl (Nat.le_of_ble_eq_true rfl)
    (Eq.mp (by kernel_rfl : reasm_New_VC max ticks w R = wpc Tryz.prog callF Tryz.f7.ntmps reasm_New_H 1 (bodyOf Tryz.f7) (argEnv 0 [.int .i64 max, .int .i64 ticks]) [] w (finish Tryz.prog callF Tryz.f7.results.toList R)) hvc_)

set_option maxRecDepth 100000 in
def reasm_context_ready_VC (c : Option Addr) (done : Int) (spoiled : Int) (w : World) (R : Ending → World → Prop) : Prop :=
  Br c.isNone
    (R (.returned (.int .i64 0)) w)
    (NilVC c fun p =>
    ∃ x : Int, w.cell? (p.add 38) = some (.int .i64 x) ∧
    Br (decide (x = 1))
      (R (.returned (.int .i64 done)) w)
      (NilVC c fun p1 =>
      ∃ x1 : Int, w.cell? (p1.add 38) = some (.int .i64 x1) ∧
      Br (decide (x1 = 2))
        (R (.returned (.int .i64 spoiled)) w)
        (NilVC c fun p2 =>
        ∃ x2 : Int, w.cell? (p2.add 41) = some (.int .i64 x2) ∧
        Br (decide (x2 = 1024))
          (R (.returned (.int .i64 124)) w)
          (R (.returned (.int .i64 0)) w))))
def reasm_context_ready_H : Hints := []
set_option maxRecDepth 100000 in
theorem reasm_context_ready_of (c : Option Addr) (done : Int) (spoiled : Int) (w : World) (R : Ending → World → Prop) (hvc_ : reasm_context_ready_VC c done spoiled w R) :
    Calls Tryz.prog 28 #[.pointer c, .int .i64 done, .int .i64 spoiled] w R :=
  calls_of_wpc callOk mixedOk (H := reasm_context_ready_H) (args := [.pointer c, .int .i64 done, .int .i64 spoiled]) (fn := Tryz.f28) (c := bodyOf Tryz.f28) Tryz.func28 rfl (Nat.le_of_ble_eq_true rfl)
    (Eq.mp (by kernel_rfl : reasm_context_ready_VC c done spoiled w R = wpc Tryz.prog callF Tryz.f28.ntmps reasm_context_ready_H 1 (bodyOf Tryz.f28) (argEnv 0 [.pointer c, .int .i64 done, .int .i64 spoiled]) [] w (finish Tryz.prog callF Tryz.f28.results.toList R)) hvc_)

set_option maxRecDepth 100000 in
def reasm_context_end_VC (c : Option Addr) (state : Int) (w : World) (R : Ending → World → Prop) : Prop :=
  NilVC c fun p =>
  SetVC w (p.add 38) (.int .i64 state) fun w1 =>
  NilVC c fun p1 =>
  SetVC w1 (p1.add 40) (.pointer none) fun w2 =>
  NilVC c fun p2 =>
  SetVC w2 (p2.add 42) (.bool false) fun w3 =>
  NilVC c fun p3 =>
  Stores (p3.add 43) 0 (Ip4V.z : Ip4V).cells w3 fun w4 =>
  NilVC c fun p4 =>
  Stores (p4.add 86) 0 (Ip6V.z : Ip6V).cells w4 fun w5 =>
  R (.returned (.tuple #[])) w5
def reasm_context_end_H : Hints := []
set_option maxRecDepth 100000 in
theorem reasm_context_end_of (c : Option Addr) (state : Int) (w : World) (R : Ending → World → Prop) (hvc_ : reasm_context_end_VC c state w R) :
    Calls Tryz.prog 58 #[.pointer c, .int .i64 state] w R :=
  calls_of_wpc callOk mixedOk (H := reasm_context_end_H) (args := [.pointer c, .int .i64 state]) (fn := Tryz.f58) (c := bodyOf Tryz.f58) Tryz.func58 rfl (Nat.le_of_ble_eq_true rfl)
    (Eq.mp (by kernel_rfl : reasm_context_end_VC c state w R = wpc Tryz.prog callF Tryz.f58.ntmps reasm_context_end_H 1 (bodyOf Tryz.f58) (argEnv 0 [.pointer c, .int .i64 state]) [] w (finish Tryz.prog callF Tryz.f58.results.toList R)) hvc_)

set_option maxRecDepth 100000 in
def reasm_context_spoil_VC (c : Option Addr) (why : Int) (n : Int) (w : World) (R : Ending → World → Prop) : Prop :=
  Calls Tryz.prog 58 #[.pointer c, .int .i64 2] w (onRet (fun r_ w1 => r_ = .tuple #[] ∧
  NilVC c fun p =>
  SetVC w1 (p.add 39) (.int .i64 why) fun w2 =>
  NilVC c fun p1 =>
  SetVC w2 (p1.add 41) (.int .i64 n) fun w3 =>
  R (.returned (.tuple #[])) w3)
    (fun ch w1 => R (.panicked ch) w1))
def reasm_context_spoil_H : Hints := []
set_option maxRecDepth 100000 in
theorem reasm_context_spoil_of (c : Option Addr) (why : Int) (n : Int) (w : World) (R : Ending → World → Prop) (hvc_ : reasm_context_spoil_VC c why n w R) :
    Calls Tryz.prog 30 #[.pointer c, .int .i64 why, .int .i64 n] w R :=
  calls_of_wpc callOk mixedOk (H := reasm_context_spoil_H) (args := [.pointer c, .int .i64 why, .int .i64 n]) (fn := Tryz.f30) (c := bodyOf Tryz.f30) Tryz.func30 rfl (Nat.le_of_ble_eq_true rfl)
    (Eq.mp (by kernel_rfl : reasm_context_spoil_VC c why n w R = wpc Tryz.prog callF Tryz.f30.ntmps reasm_context_spoil_H 1 (bodyOf Tryz.f30) (argEnv 0 [.pointer c, .int .i64 why, .int .i64 n]) [] w (finish Tryz.prog callF Tryz.f30.results.toList R)) hvc_)

set_option maxRecDepth 100000 in
def reasm_context_finish_VC (c : Option Addr) (w : World) (R : Ending → World → Prop) : Prop :=
  Calls Tryz.prog 58 #[.pointer c, .int .i64 1] w (onRet (fun r_ w1 => r_ = .tuple #[] ∧
  NilVC c fun p =>
  SetVC w1 (p.add 41) (.int .i64 0) fun w2 =>
  R (.returned (.tuple #[])) w2)
    (fun ch w1 => R (.panicked ch) w1))
def reasm_context_finish_H : Hints := []
set_option maxRecDepth 100000 in
theorem reasm_context_finish_of (c : Option Addr) (w : World) (R : Ending → World → Prop) (hvc_ : reasm_context_finish_VC c w R) :
    Calls Tryz.prog 33 #[.pointer c] w R :=
  calls_of_wpc callOk mixedOk (H := reasm_context_finish_H) (args := [.pointer c]) (fn := Tryz.f33) (c := bodyOf Tryz.f33) Tryz.func33 rfl (Nat.le_of_ble_eq_true rfl)
    (Eq.mp (by kernel_rfl : reasm_context_finish_VC c w R = wpc Tryz.prog callF Tryz.f33.ntmps reasm_context_finish_H 1 (bodyOf Tryz.f33) (argEnv 0 [.pointer c]) [] w (finish Tryz.prog callF Tryz.f33.results.toList R)) hvc_)

set_option maxRecDepth 100000 in
def reasm_Table_oldest_d1_VC (a : Option Addr) (b : Option Addr) (w : World) (R : Ending → World → Prop) : Prop :=
  DrawVC w fun S1 w1 =>
  NilVC a fun p =>
  ∃ x : Int, (∀ w' : World, S1 w' → w'.cell? (p.add 36) = some (.int .i64 x)) ∧
  NilVC b fun p1 =>
  ∃ x1 : Int, (∀ w' : World, S1 w' → w'.cell? (p1.add 36) = some (.int .i64 x1)) ∧
  R (.returned (.int .i64 (IntKind.i64.wrap (x - x1)))) w1
def reasm_Table_oldest_d1_H : Hints := []
set_option maxRecDepth 100000 in
theorem reasm_Table_oldest_d1_of (a : Option Addr) (b : Option Addr) (w : World) (R : Ending → World → Prop) (hvc_ : reasm_Table_oldest_d1_VC a b w R) :
    Calls Tryz.prog 62 #[.pointer a, .pointer b] w R :=
  calls_of_wpc callOk mixedOk (H := reasm_Table_oldest_d1_H) (args := [.pointer a, .pointer b]) (fn := Tryz.f62) (c := bodyOf Tryz.f62) Tryz.func62 rfl (Nat.le_of_ble_eq_true rfl)
    (Eq.mp (by kernel_rfl : reasm_Table_oldest_d1_VC a b w R = wpc Tryz.prog callF Tryz.f62.ntmps reasm_Table_oldest_d1_H 1 (bodyOf Tryz.f62) (argEnv 0 [.pointer a, .pointer b]) [] w (finish Tryz.prog callF Tryz.f62.results.toList R)) hvc_)

set_option maxRecDepth 100000 in
def reasm_Table_oldest_L58 (R : Ending → World → Prop) (state : Int) (g1 : Nat) (lA : Option Addr) (ln : Nat) (lc : Nat) (w2 : World) (K58 : ((Option Addr × Nat × Nat) → World → Prop)) : Prop :=
  NextVC Tryz.prog (.pointer (some ⟨g1, 0, none⟩)) 0 w2 (fun w3 =>
    Calls Tryz.prog 61 #[.slice lA ln lc, .func (.func 62) #[] #[]] w3 (onRet (fun r_ w5 => r_ = .tuple #[] ∧
  R (.returned (.slice lA ln lc)) w5)
    (fun ch w5 => R (.panicked ch) w5)))
   (fun _nk _nv w4 =>
    EntryVC Tryz.prog (.pointer (some ⟨g1, 0, none⟩)) w4 fun _ek ep =>
  Br (decide (state < 0))
    (NewVC w4 (.cells #[.pointer ep] 76) fun g2 w6 =>
  AppVC Tryz.prog #[97, 97] 97 (.slice lA ln lc) (.slice (some ⟨g2, 0, none⟩) 1 1) w6 fun lA1 ln1 lc1 w7 =>
  K58 (lA1, ln1, lc1) w7)
    (NilVC ep fun p1 =>
    ∃ x1 : Int, w4.cell? (p1.add 38) = some (.int .i64 x1) ∧
    Br (decide (x1 = state))
    (NewVC w4 (.cells #[.pointer ep] 76) fun g3 w8 =>
    AppVC Tryz.prog #[97, 97] 97 (.slice lA ln lc) (.slice (some ⟨g3, 0, none⟩) 1 1) w8 fun lA2 ln2 lc2 w9 =>
    K58 (lA2, ln2, lc2) w9)
    (K58 (lA, ln, lc) w4)))
set_option maxRecDepth 100000 in
def reasm_Table_oldest_VC (t : Option Addr) (state : Int) (w : World) (R : Ending → World → Prop) : Prop :=
  NilVC t fun p =>
  ∃ x : Option Nat, w.cell? (p.add 3) = some (.map x) ∧
  RangeVC Tryz.prog 69 (.map x) w fun g1 w1 =>
  LoopVC (S := (Option Addr × Nat × Nat)) (fun s_ w2 K58 => reasm_Table_oldest_L58 R state g1 s_.1 s_.2.1 s_.2.2 w2 K58) (none, 0, 0) w1
def reasm_Table_oldest_H : Hints := [(58, [(5, .slice)])]
set_option maxRecDepth 100000 in
theorem reasm_Table_oldest_of (t : Option Addr) (state : Int) (w : World) (R : Ending → World → Prop) (hvc_ : reasm_Table_oldest_VC t state w R) :
    Calls Tryz.prog 38 #[.pointer t, .int .i64 state] w R :=
  calls_of_wpc callOk mixedOk (H := reasm_Table_oldest_H) (args := [.pointer t, .int .i64 state]) (fn := Tryz.f38) (c := bodyOf Tryz.f38) Tryz.func38 rfl (Nat.le_of_ble_eq_true rfl)
    (Eq.mp (by kernel_rfl : reasm_Table_oldest_VC t state w R = wpc Tryz.prog callF Tryz.f38.ntmps reasm_Table_oldest_H 1 (bodyOf Tryz.f38) (argEnv 0 [.pointer t, .int .i64 state]) [] w (finish Tryz.prog callF Tryz.f38.results.toList R)) hvc_)

set_option maxRecDepth 100000 in
def reasm_Table_room_VC (t : Option Addr) (w : World) (R : Ending → World → Prop) : Prop :=
  DrawVC w fun S1 w1 =>
  NilVC t fun p =>
  ∃ x : Option Nat, (∀ w' : World, S1 w' → w'.cell? (p.add 3) = some (.map x)) ∧
  ∃ n : Int, (∀ w' : World, S1 w' → (Builtin.len_ #[69] 3 #[.map x]).run Tryz.prog w' = .ok (.int .i64 n) w') ∧
  NilVC t fun p1 =>
  ∃ x1 : Int, (∀ w' : World, S1 w' → w'.cell? p1 = some (.int .i64 x1)) ∧
  Br (decide (n < x1))
    (R (.returned (.int .i64 0)) w1)
    (Calls Tryz.prog 38 #[.pointer t, .int .i64 1] w1 (onRet (fun r_ w2 => ∃ (xA : Option Addr) (xn xc : Nat), r_ = .slice xA xn xc ∧
  Br (decide ((xn : Int) = 0))
    (R (.returned (.int .i64 120)) w2)
    (DrawVC w2 fun S2 w3 =>
  NilVC t fun p2 =>
  ∃ x2 : Option Nat, (∀ w' : World, S2 w' → w'.cell? (p2.add 3) = some (.map x2)) ∧
  IdxVC xA xn 1 0 fun a =>
  ∃ x3 : Option Addr, (∀ w' : World, S2 w' → w'.cell? a = some (.pointer x3)) ∧
  NilVC x3 fun p3 =>
  KeyV.ex fun h => (∀ w' : World, S2 w' → CellsAt w' p3 0 h.cells) ∧
  DelVC Tryz.prog #[69, 75] 0 (.map x2) (h.val) w3 fun w4 =>
  R (.returned (.int .i64 0)) w4))
    (fun ch w2 => R (.panicked ch) w2)))
def reasm_Table_room_H : Hints := []
set_option maxRecDepth 100000 in
theorem reasm_Table_room_of (t : Option Addr) (w : World) (R : Ending → World → Prop) (hvc_ : reasm_Table_room_VC t w R) :
    Calls Tryz.prog 59 #[.pointer t] w R :=
  calls_of_wpc callOk mixedOk (H := reasm_Table_room_H) (args := [.pointer t]) (fn := Tryz.f59) (c := bodyOf Tryz.f59) Tryz.func59 rfl (Nat.le_of_ble_eq_true rfl)
    (Eq.mp (by kernel_rfl : reasm_Table_room_VC t w R = wpc Tryz.prog callF Tryz.f59.ntmps reasm_Table_room_H 1 (bodyOf Tryz.f59) (argEnv 0 [.pointer t]) [] w (finish Tryz.prog callF Tryz.f59.results.toList R)) hvc_)

set_option maxRecDepth 100000 in
def reasm_Table_lay_J7 (R : Ending → World → Prop) (off : Int) (dataA : Option Addr) (datan : Nat) (datac : Nat) (more : Bool) (g2 : Nat) (g3 : Nat)  (w12 : World) : Prop :=
  ∃ x3 : Option Addr, w12.cell? ⟨g3, 0, none⟩ = some (.pointer x3) ∧
  NilVC x3 fun p2 =>
  ∃ x4 : Option Addr, w12.cell? (p2.add 40) = some (.pointer x4) ∧
  Calls Tryz.prog 56 #[.pointer x4] w12 (onRet (fun r_1 w13 => ∃ x01 : Int, ∃ x12 : Bool, r_1 = .tuple #[.int .i64 x01, .bool x12] ∧
  ∃ x5 : Option Addr, w13.cell? ⟨g3, 0, none⟩ = some (.pointer x5) ∧
  NilVC x5 fun p3 =>
  ∃ x6 : Option Addr, w13.cell? (p3.add 40) = some (.pointer x6) ∧
  Calls Tryz.prog 57 #[.pointer x6, .int .i64 off, .slice dataA datan datac, .bool more] w13 (onRet (fun r_2 w14 => FitV.ex fun h3 => ∃ x13 : Int, r_2 = .tuple #[h3.val, .int .i64 x13] ∧
  Stores ⟨g3, 2, none⟩ 0 h3.cells w14 fun w15 =>
  Br (decide (x13 = 0))
    (∃ x7 : Option Addr, w15.cell? ⟨g3, 0, none⟩ = some (.pointer x7) ∧
  NilVC x7 fun p4 =>
  ∃ x8 : Option Addr, w15.cell? (p4.add 40) = some (.pointer x8) ∧
  Calls Tryz.prog 56 #[.pointer x8] w15 (onRet (fun r_3 w16 => ∃ x02 : Int, ∃ x14 : Bool, r_3 = .tuple #[.int .i64 x02, .bool x14] ∧
  Br x14
    (SetVC w16 ⟨g3, 5, none⟩ (.bool (!x12)) fun w17 =>
    LaidV.ex fun h4 => CellsAt w17 ⟨g3, 0, none⟩ 0 h4.cells ∧
  Stores ⟨g2, 0, none⟩ 0 h4.cells w17 fun w18 =>
  LaidV.ex fun res1 => CellsAt w18 ⟨g2, 0, none⟩ 0 res1.cells ∧
  R (.returned (.tuple #[res1.val, .int .i64 0])) w18)
    (SetVC w16 ⟨g3, 5, none⟩ (.bool false) fun w19 =>
    LaidV.ex fun h5 => CellsAt w19 ⟨g3, 0, none⟩ 0 h5.cells ∧
  Stores ⟨g2, 0, none⟩ 0 h5.cells w19 fun w20 =>
  LaidV.ex fun res2 => CellsAt w20 ⟨g2, 0, none⟩ 0 res2.cells ∧
  R (.returned (.tuple #[res2.val, .int .i64 0])) w20))
    (fun ch3 w16 => R (.panicked ch3) w16)))
    (Br (decide (x13 = 112))
      (Br (decide (x13 = 112))
      (LaidV.ex fun h6 => CellsAt w15 ⟨g3, 0, none⟩ 0 h6.cells ∧
      Stores ⟨g2, 0, none⟩ 0 h6.cells w15 fun w21 =>
      LaidV.ex fun res3 => CellsAt w21 ⟨g2, 0, none⟩ 0 res3.cells ∧
  R (.returned (.tuple #[res3.val, .int .i64 123])) w21)
      (LaidV.ex fun h7 => CellsAt w15 ⟨g3, 0, none⟩ 0 h7.cells ∧
      Stores ⟨g2, 0, none⟩ 0 h7.cells w15 fun w22 =>
      LaidV.ex fun res4 => CellsAt w22 ⟨g2, 0, none⟩ 0 res4.cells ∧
  R (.returned (.tuple #[res4.val, .int .i64 x13])) w22))
      (Br (decide (x13 = 113))
        (Br (decide (x13 = 113))
      (LaidV.ex fun h8 => CellsAt w15 ⟨g3, 0, none⟩ 0 h8.cells ∧
      Stores ⟨g2, 0, none⟩ 0 h8.cells w15 fun w23 =>
      LaidV.ex fun res5 => CellsAt w23 ⟨g2, 0, none⟩ 0 res5.cells ∧
  R (.returned (.tuple #[res5.val, .int .i64 123])) w23)
      (LaidV.ex fun h9 => CellsAt w15 ⟨g3, 0, none⟩ 0 h9.cells ∧
      Stores ⟨g2, 0, none⟩ 0 h9.cells w15 fun w24 =>
      LaidV.ex fun res6 => CellsAt w24 ⟨g2, 0, none⟩ 0 res6.cells ∧
  R (.returned (.tuple #[res6.val, .int .i64 x13])) w24))
        (Br (decide (x13 = 114))
      (LaidV.ex fun h10 => CellsAt w15 ⟨g3, 0, none⟩ 0 h10.cells ∧
      Stores ⟨g2, 0, none⟩ 0 h10.cells w15 fun w25 =>
      LaidV.ex fun res7 => CellsAt w25 ⟨g2, 0, none⟩ 0 res7.cells ∧
  R (.returned (.tuple #[res7.val, .int .i64 123])) w25)
      (LaidV.ex fun h11 => CellsAt w15 ⟨g3, 0, none⟩ 0 h11.cells ∧
      Stores ⟨g2, 0, none⟩ 0 h11.cells w15 fun w26 =>
      LaidV.ex fun res8 => CellsAt w26 ⟨g2, 0, none⟩ 0 res8.cells ∧
  R (.returned (.tuple #[res8.val, .int .i64 x13])) w26)))))
    (fun ch2 w14 => R (.panicked ch2) w14)))
    (fun ch1 w13 => R (.panicked ch1) w13))
set_option maxRecDepth 100000 in
def reasm_Table_lay_VC (t : Option Addr) (k : KeyV) (most : Int) (off : Int) (dataA : Option Addr) (datan : Nat) (datac : Nat) (more : Bool) (w : World) (R : Ending → World → Prop) : Prop :=
  NewVC w (.cells k.cells.toArray 75) fun g1 w1 =>
  NewVC w1 (.cells (LaidV.z : LaidV).cells.toArray 86) fun g2 w2 =>
  DrawVC w2 fun S1 w3 =>
  NilVC t fun p =>
  ∃ x : Option Nat, (∀ w' : World, S1 w' → w'.cell? (p.add 3) = some (.map x)) ∧
  KeyV.ex fun h => (∀ w' : World, S1 w' → CellsAt w' ⟨g1, 0, none⟩ 0 h.cells) ∧
  ∃ c : Option Addr, (∀ w' : World, S1 w' → (Instr.lookup 69 (.map x) (h.val) false).run Tryz.prog w' = .ok (.pointer c) w') ∧
  NewVC w3 (.cells (LaidV.z : LaidV).cells.toArray 86) fun g3 w4 =>
  S1 w4 ∧
  Stores ⟨g3, 0, none⟩ 0 (⟨c, false, (FitV.z : FitV), false⟩ : LaidV).cells w4 fun w5 =>
  JoinVC (S := Unit) (fun J7 =>
      ∃ x1 : Option Addr, w5.cell? ⟨g3, 0, none⟩ = some (.pointer x1) ∧
      Br x1.isNone
        (Calls Tryz.prog 55 #[.int .i64 most] w5 (onRet (fun r_ w6 => ∃ x0 : Option Addr, ∃ x11 : Int, r_ = .tuple #[.pointer x0, .int .i64 x11] ∧
        Br (decide (x11 ≠ 0))
          (LaidV.ex fun h1 => CellsAt w6 ⟨g3, 0, none⟩ 0 h1.cells ∧
          Stores ⟨g2, 0, none⟩ 0 h1.cells w6 fun w7 =>
          LaidV.ex fun res => CellsAt w7 ⟨g2, 0, none⟩ 0 res.cells ∧
  R (.returned (.tuple #[res.val, .int .i64 x11])) w7)
          (DrawVC w6 fun S2 w8 =>
        KeyV.ex fun h2 => (∀ w' : World, S2 w' → CellsAt w' ⟨g1, 0, none⟩ 0 h2.cells) ∧
        NilVC t fun p1 =>
        ∃ x2 : Int, (∀ w' : World, S2 w' → w'.cell? (p1.add 1) = some (.int .i64 x2)) ∧
        NewVC w8 (.cells (⟨h2, 0, x2, 0, 0, x0, 0, false, (Ip4V.z : Ip4V), (Ip6V.z : Ip6V)⟩ : CtxV).cells.toArray 81) fun g4 w9 =>
        S2 w9 ∧
        SetVC w9 ⟨g3, 0, none⟩ (.pointer (some ⟨g4, 0, none⟩)) fun w10 =>
        S2 w10 ∧
        SetVC w10 ⟨g3, 1, none⟩ (.bool true) fun w11 =>
        J7 () w11))
          (fun ch w6 => R (.panicked ch) w6)))
        (J7 () w5))
    (fun _ w12 => reasm_Table_lay_J7 R off dataA datan datac more g2 g3 w12)
def reasm_Table_lay_H : Hints := [(7, [])]
set_option maxRecDepth 100000 in
theorem reasm_Table_lay_of (t : Option Addr) (k : KeyV) (most : Int) (off : Int) (dataA : Option Addr) (datan : Nat) (datac : Nat) (more : Bool) (w : World) (R : Ending → World → Prop) (hvc_ : reasm_Table_lay_VC t k most off dataA datan datac more w R) :
    Calls Tryz.prog 29 #[.pointer t, k.val, .int .i64 most, .int .i64 off, .slice dataA datan datac, .bool more] w R :=
  calls_of_wpc callOk mixedOk (H := reasm_Table_lay_H) (args := [.pointer t, k.val, .int .i64 most, .int .i64 off, .slice dataA datan datac, .bool more]) (fn := Tryz.f29) (c := bodyOf Tryz.f29) Tryz.func29 rfl (Nat.le_of_ble_eq_true rfl)
    (Eq.mp (by kernel_rfl : reasm_Table_lay_VC t k most off dataA datan datac more w R = wpc Tryz.prog callF Tryz.f29.ntmps reasm_Table_lay_H 1 (bodyOf Tryz.f29) (argEnv 0 [.pointer t, k.val, .int .i64 most, .int .i64 off, .slice dataA datan datac, .bool more]) [] w (finish Tryz.prog callF Tryz.f29.results.toList R)) hvc_)

set_option maxRecDepth 100000 in
def reasm_Table_hold_VC (t : Option Addr) (p : LaidV) (w : World) (R : Ending → World → Prop) : Prop :=
  NewVC w (.cells p.cells.toArray 86) fun g1 w1 =>
  ∃ x : Bool, w1.cell? ⟨g1, 1, none⟩ = some (.bool x) ∧
  Br x
    (Calls Tryz.prog 59 #[.pointer t] w1 (onRet (fun r_ w2 => ∃ x1 : Int, r_ = .int .i64 x1 ∧
    Br (decide (x1 ≠ 0))
      (R (.returned (.int .i64 x1)) w2)
      (DrawVC w2 fun S1 w3 =>
    ∃ x2 : Option Addr, (∀ w' : World, S1 w' → w'.cell? ⟨g1, 0, none⟩ = some (.pointer x2)) ∧
    NilVC t fun p1 =>
    ∃ x3 : Int, (∀ w' : World, S1 w' → w'.cell? (p1.add 2) = some (.int .i64 x3)) ∧
    NilVC x2 fun p2 =>
    SetVC w3 (p2.add 36) (.int .i64 x3) fun w4 =>
    NilVC t fun p3 =>
    ∃ x4 : Int, w4.cell? (p3.add 2) = some (.int .i64 x4) ∧
    NilVC t fun p4 =>
    SetVC w4 (p4.add 2) (.int .i64 (IntKind.i64.wrap (x4 + 1))) fun w5 =>
    DrawVC w5 fun S2 w6 =>
    NilVC t fun p5 =>
    ∃ x5 : Option Nat, (∀ w' : World, S2 w' → w'.cell? (p5.add 3) = some (.map x5)) ∧
    ∃ x6 : Option Addr, (∀ w' : World, S2 w' → w'.cell? ⟨g1, 0, none⟩ = some (.pointer x6)) ∧
    NilVC x6 fun p6 =>
    KeyV.ex fun h => (∀ w' : World, S2 w' → CellsAt w' p6 0 h.cells) ∧
    ∃ x7 : Option Addr, (∀ w' : World, S2 w' → w'.cell? ⟨g1, 0, none⟩ = some (.pointer x7)) ∧
    MapSetVC Tryz.prog 69 (.map x5) (h.val) (.pointer x7) w6 fun w7 =>
    ∃ x8 : Option Addr, w7.cell? ⟨g1, 0, none⟩ = some (.pointer x8) ∧
  NilVC x8 fun p7 =>
  ∃ x9 : Int, w7.cell? (p7.add 41) = some (.int .i64 x9) ∧
  NilVC x8 fun p8 =>
  SetVC w7 (p8.add 41) (.int .i64 (IntKind.i64.wrap (x9 + 1))) fun w8 =>
  R (.returned (.int .i64 0)) w8))
      (fun ch w2 => R (.panicked ch) w2)))
    (∃ x10 : Option Addr, w1.cell? ⟨g1, 0, none⟩ = some (.pointer x10) ∧
  NilVC x10 fun p9 =>
  ∃ x11 : Int, w1.cell? (p9.add 41) = some (.int .i64 x11) ∧
  NilVC x10 fun p10 =>
  SetVC w1 (p10.add 41) (.int .i64 (IntKind.i64.wrap (x11 + 1))) fun w9 =>
  R (.returned (.int .i64 0)) w9)
def reasm_Table_hold_H : Hints := []
set_option maxRecDepth 100000 in
theorem reasm_Table_hold_of (t : Option Addr) (p : LaidV) (w : World) (R : Ending → World → Prop) (hvc_ : reasm_Table_hold_VC t p w R) :
    Calls Tryz.prog 31 #[.pointer t, p.val] w R :=
  calls_of_wpc callOk mixedOk (H := reasm_Table_hold_H) (args := [.pointer t, p.val]) (fn := Tryz.f31) (c := bodyOf Tryz.f31) Tryz.func31 rfl (Nat.le_of_ble_eq_true rfl)
    (Eq.mp (by kernel_rfl : reasm_Table_hold_VC t p w R = wpc Tryz.prog callF Tryz.f31.ntmps reasm_Table_hold_H 1 (bodyOf Tryz.f31) (argEnv 0 [.pointer t, p.val]) [] w (finish Tryz.prog callF Tryz.f31.results.toList R)) hvc_)
end N6
end Go.Proofs.YthhgbpmihhljdaaGreatDoor
