/- WRITTEN BY a program of this session (vc.py): for each Go function the condition that is enough for its contract, and the theorem that it is. -/
import Derived.Test.YteppichfkeknbaaDoorProg
import Derived.Test.YteppichfkeknbaaDoorBq
import Derived.Test.YteppichfkeknbaaDoorBg
import Derived.Test.YteppichfkeknbaaDoorBe
import Derived.Test.YteppichfkeknbaaDoorBh
import Derived.Test.YteppichfkeknbaaDoorBj
namespace Go.Proofs.YteppichfkeknbaaDoor
open Go.Eng
namespace N6

set_option maxRecDepth 100000 in
def ip4_out_VC (n : Int) (hi : Int) (w : World) (R : Ending → World → Prop) : Prop :=
  Br (decide (n < 0))
    (R (.returned (.bool true)) w)
    (R (.returned (.bool (decide (hi < n)))) w)
def ip4_out_H : Hints := []
set_option maxRecDepth 100000 in
theorem ip4_out_of (n : Int) (hi : Int) (w : World) (R : Ending → World → Prop) (hvc_ : ip4_out_VC n hi w R) :
    Calls Tryd.prog 84 #[.int .i64 n, .int .i64 hi] w R :=
  calls_of_wpc callOk mixedOk (H := ip4_out_H) (args := [.int .i64 n, .int .i64 hi]) (fn := Tryd.f84) (c := bodyOf Tryd.f84) Tryd.func84 rfl (Nat.le_of_ble_eq_true rfl)
    (Eq.mp (by kernel_rfl : ip4_out_VC n hi w R = wpc Tryd.prog callF Tryd.f84.ntmps ip4_out_H 1 (bodyOf Tryd.f84) (argEnv 0 [.int .i64 n, .int .i64 hi]) [] w (finish Tryd.prog callF Tryd.f84.results.toList R)) hvc_)

set_option maxRecDepth 100000 in
def ip4_four_VC (ip : IPV) (w : World) (R : Ending → World → Prop) : Prop :=
  NewVC w (.cells ip.cells.toArray 24) fun g1 w1 =>
  NewVC w1 (.cells (A16V.z : A16V).cells.toArray 22) fun g2 w2 =>
  DrawVC w2 fun _S1 w3 =>
  SliceVC (some ⟨g2, 0, none⟩) 16 16 1 none (some 4) none fun sA sn sc =>
  SliceVC (some ⟨g1, 1, none⟩) 16 16 1 none (some 4) none fun sA1 sn1 sc1 =>
  CopyVC Tryd.prog #[26, 26] 3 (.slice sA sn sc) (.slice sA1 sn1 sc1) w3 fun _m w4 =>
  ∃ x : Int, w4.cell? ⟨g1, 0, none⟩ = some (.int .i64 x) ∧
  Br (decide (x = 4))
    (A16V.ex fun h => CellsAt w4 ⟨g1, 1, none⟩ 0 h.cells ∧
    A16V.ex fun h1 => CellsAt w4 ⟨g2, 0, none⟩ 0 h1.cells ∧
    R (.returned (.bool (A16V.beq h h1))) w4)
    (R (.returned (.bool false)) w4)
def ip4_four_H : Hints := []
set_option maxRecDepth 100000 in
theorem ip4_four_of (ip : IPV) (w : World) (R : Ending → World → Prop) (hvc_ : ip4_four_VC ip w R) :
    Calls Tryd.prog 85 #[ip.val] w R :=
  calls_of_wpc callOk mixedOk (H := ip4_four_H) (args := [ip.val]) (fn := Tryd.f85) (c := bodyOf Tryd.f85) Tryd.func85 rfl (Nat.le_of_ble_eq_true rfl)
    (Eq.mp (by kernel_rfl : ip4_four_VC ip w R = wpc Tryd.prog callF Tryd.f85.ntmps ip4_four_H 1 (bodyOf Tryd.f85) (argEnv 0 [ip.val]) [] w (finish Tryd.prog callF Tryd.f85.results.toList R)) hvc_)

set_option maxRecDepth 100000 in
def ip4_fragment_VC (mf : Bool) (off : Int) (n : Int) (w : World) (R : Ending → World → Prop) : Prop :=
  Br mf
    (Br (decide (n = 0))
      (R (.returned (.int .i64 66)) w)
      (Br (decide (Int.tmod n 8 ≠ 0))
        (R (.returned (.int .i64 66)) w)
        (Br (decide ((65515 : Int) < IntKind.i64.wrap (off + n)))
    (R (.returned (.int .i64 66)) w)
    (R (.returned (.int .i64 0)) w))))
    (Br (decide ((65515 : Int) < IntKind.i64.wrap (off + n)))
    (R (.returned (.int .i64 66)) w)
    (R (.returned (.int .i64 0)) w))
def ip4_fragment_H : Hints := []
set_option maxRecDepth 100000 in
theorem ip4_fragment_of (mf : Bool) (off : Int) (n : Int) (w : World) (R : Ending → World → Prop) (hvc_ : ip4_fragment_VC mf off n w R) :
    Calls Tryd.prog 86 #[.bool mf, .int .i64 off, .int .i64 n] w R :=
  calls_of_wpc callOk mixedOk (H := ip4_fragment_H) (args := [.bool mf, .int .i64 off, .int .i64 n]) (fn := Tryd.f86) (c := bodyOf Tryd.f86) Tryd.func86 rfl (Nat.le_of_ble_eq_true rfl)
    (Eq.mp (by kernel_rfl : ip4_fragment_VC mf off n w R = wpc Tryd.prog callF Tryd.f86.ntmps ip4_fragment_H 1 (bodyOf Tryd.f86) (argEnv 0 [.bool mf, .int .i64 off, .int .i64 n]) [] w (finish Tryd.prog callF Tryd.f86.results.toList R)) hvc_)

set_option maxRecDepth 100000 in
def ip4_PutOptions_L60 (R : Ending → World → Prop)  (outA1 : Option Addr) (outn1 : Nat) (outc1 : Nat) (w7 : World) (K60 : ((Option Addr × Nat × Nat) → World → Prop)) : Prop :=
  Br (decide ((0 : Int) < Int.tmod (outn1 : Int) 4))
    (NewVC w7 (.cells #[.int .u8 0] 5) fun g3 w8 =>
  AppVC Tryd.prog #[26, 26] 26 (.slice outA1 outn1 outc1) (.slice (some ⟨g3, 0, none⟩) 1 1) w8 fun lA3 ln3 lc3 w9 =>
  K60 (lA3, ln3, lc3) w9)
    (R (.returned (.tuple #[.slice outA1 outn1 outc1, .int .i64 0])) w7)
set_option maxRecDepth 100000 in
def ip4_PutOptions_L58 (R : Ending → World → Prop) (lA : Option Addr) (ln : Nat) (outA : Option Addr) (outn : Nat) (outc : Nat) (t9_ : Int) (w1 : World) (K58 : ((Option Addr × Nat × Nat) × Int → World → Prop)) : Prop :=
  Br (decide (t9_ < (ln : Int)))
    (IdxVC lA ln 2 t9_ fun a =>
  OptV.ex fun h => CellsAt w1 a 0 h.cells ∧
  NewVC w1 (.cells (OptV.z : OptV).cells.toArray 94) fun g1 w2 =>
  Stores ⟨g1, 0, none⟩ 0 h.cells w2 fun w3 =>
  ∃ x : Int, w3.cell? ⟨g1, 0, none⟩ = some (.int .i64 x) ∧
  Br (decide (x < 2))
    (R (.returned (.tuple #[.slice none 0 0, .int .i64 65])) w3)
    (∃ x1 : Int, w3.cell? ⟨g1, 0, none⟩ = some (.int .i64 x1) ∧
    Br (decide ((255 : Int) < x1))
      (R (.returned (.tuple #[.slice none 0 0, .int .i64 65])) w3)
      (∃ (xA : Option Addr) (xn xc : Nat), w3.cell? ⟨g1, 1, none⟩ = some (.slice xA xn xc) ∧
      Br (decide ((38 : Int) < (xn : Int)))
        (R (.returned (.tuple #[.slice none 0 0, .int .i64 65])) w3)
        (∃ (xA1 : Option Addr) (xn1 xc1 : Nat), w3.cell? ⟨g1, 1, none⟩ = some (.slice xA1 xn1 xc1) ∧
        Br (decide ((40 : Int) < IntKind.i64.wrap (IntKind.i64.wrap ((outn : Int) + 2) + (xn1 : Int))))
    (R (.returned (.tuple #[.slice none 0 0, .int .i64 65])) w3)
    (∃ x2 : Int, w3.cell? ⟨g1, 0, none⟩ = some (.int .i64 x2) ∧
  ∃ (xA2 : Option Addr) (xn2 xc2 : Nat), w3.cell? ⟨g1, 1, none⟩ = some (.slice xA2 xn2 xc2) ∧
  NewVC w3 (.cells #[.int .u8 (IntKind.u8.wrap x2), .int .u8 (IntKind.u8.wrap (IntKind.i64.wrap (2 + (xn2 : Int))))] 5) fun g2 w4 =>
  AppVC Tryd.prog #[26, 26] 26 (.slice outA outn outc) (.slice (some ⟨g2, 0, none⟩) 2 2) w4 fun lA1 ln1 lc1 w5 =>
  ∃ (xA3 : Option Addr) (xn3 xc3 : Nat), w5.cell? ⟨g1, 1, none⟩ = some (.slice xA3 xn3 xc3) ∧
  AppVC Tryd.prog #[26, 26] 26 (.slice lA1 ln1 lc1) (.slice xA3 xn3 xc3) w5 fun lA2 ln2 lc2 w6 =>
  K58 ((lA2, ln2, lc2), IntKind.i64.wrap (t9_ + 1)) w6)))))
    (LoopVC (S := (Option Addr × Nat × Nat)) (fun s_ w7 K60 => ip4_PutOptions_L60 R s_.1 s_.2.1 s_.2.2 w7 K60) (outA, outn, outc) w1)
set_option maxRecDepth 100000 in
def ip4_PutOptions_VC (lA : Option Addr) (ln : Nat) (_lc : Nat) (w : World) (R : Ending → World → Prop) : Prop :=
  LoopVC (S := (Option Addr × Nat × Nat) × Int) (fun s_ w1 K58 => ip4_PutOptions_L58 R lA ln s_.1.1 s_.1.2.1 s_.1.2.2 s_.2 w1 K58) ((none, 0, 0), 0) w
def ip4_PutOptions_H : Hints := [(58, [(4, .slice), (9, .int .i64)]), (60, [(4, .slice)])]
set_option maxRecDepth 100000 in
theorem ip4_PutOptions_of (lA : Option Addr) (ln : Nat) (lc : Nat) (w : World) (R : Ending → World → Prop) (hvc_ : ip4_PutOptions_VC lA ln lc w R) :
    Calls Tryd.prog 78 #[.slice lA ln lc] w R :=
  calls_of_wpc callOk mixedOk (H := ip4_PutOptions_H) (args := [.slice lA ln lc]) (fn := Tryd.f78) (c := bodyOf Tryd.f78) Tryd.func78 rfl (Nat.le_of_ble_eq_true rfl)
    (Eq.mp (by kernel_rfl : ip4_PutOptions_VC lA ln lc w R = wpc Tryd.prog callF Tryd.f78.ntmps ip4_PutOptions_H 1 (bodyOf Tryd.f78) (argEnv 0 [.slice lA ln lc]) [] w (finish Tryd.prog callF Tryd.f78.results.toList R)) hvc_)

set_option maxRecDepth 100000 in
def ip4_Check_VC (h : Ip4V) (w : World) (R : Ending → World → Prop) : Prop :=
  NewVC w (.cells h.cells.toArray 28) fun g1 w1 =>
  ∃ x : Int, w1.cell? ⟨g1, 0, none⟩ = some (.int .i64 x) ∧
  Calls Tryd.prog 84 #[.int .i64 x, .int .i64 255] w1 (onRet (fun r_ w2 => ∃ x1 : Bool, r_ = .bool x1 ∧
  Br x1
    (R (.returned (.int .i64 68)) w2)
    (∃ x2 : Int, w2.cell? ⟨g1, 1, none⟩ = some (.int .i64 x2) ∧
    Calls Tryd.prog 84 #[.int .i64 x2, .int .i64 65535] w2 (onRet (fun r_1 w3 => ∃ x3 : Bool, r_1 = .bool x3 ∧
    Br x3
      (R (.returned (.int .i64 68)) w3)
      (∃ x4 : Int, w3.cell? ⟨g1, 4, none⟩ = some (.int .i64 x4) ∧
      Calls Tryd.prog 84 #[.int .i64 x4, .int .i64 65528] w3 (onRet (fun r_2 w4 => ∃ x5 : Bool, r_2 = .bool x5 ∧
      Br x5
        (R (.returned (.int .i64 68)) w4)
        (∃ x6 : Int, w4.cell? ⟨g1, 4, none⟩ = some (.int .i64 x6) ∧
        Br (decide (Int.tmod x6 8 ≠ 0))
          (R (.returned (.int .i64 68)) w4)
          (∃ x7 : Int, w4.cell? ⟨g1, 5, none⟩ = some (.int .i64 x7) ∧
          Calls Tryd.prog 84 #[.int .i64 x7, .int .i64 255] w4 (onRet (fun r_3 w5 => ∃ x8 : Bool, r_3 = .bool x8 ∧
          Br x8
            (R (.returned (.int .i64 68)) w5)
            (∃ x9 : Int, w5.cell? ⟨g1, 6, none⟩ = some (.int .i64 x9) ∧
            Calls Tryd.prog 84 #[.int .i64 x9, .int .i64 255] w5 (onRet (fun r_4 w6 => ∃ x10 : Bool, r_4 = .bool x10 ∧
            Br x10
              (R (.returned (.int .i64 68)) w6)
              (IPV.ex fun h1 => CellsAt w6 ⟨g1, 7, none⟩ 0 h1.cells ∧
              Calls Tryd.prog 85 #[h1.val] w6 (onRet (fun r_5 w7 => ∃ x11 : Bool, r_5 = .bool x11 ∧
              Br (!x11)
                (R (.returned (.int .i64 68)) w7)
                (IPV.ex fun h2 => CellsAt w7 ⟨g1, 24, none⟩ 0 h2.cells ∧
                Calls Tryd.prog 85 #[h2.val] w7 (onRet (fun r_6 w8 => ∃ x12 : Bool, r_6 = .bool x12 ∧
                Br (!x12)
    (R (.returned (.int .i64 68)) w8)
    (∃ (xA : Option Addr) (xn xc : Nat), w8.cell? ⟨g1, 41, none⟩ = some (.slice xA xn xc) ∧
  Calls Tryd.prog 78 #[.slice xA xn xc] w8 (onRet (fun r_7 w9 => ∃ (x0A : Option Addr) (x0n x0c : Nat), ∃ x13 : Int, r_7 = .tuple #[.slice x0A x0n x0c, .int .i64 x13] ∧
  Br (decide (x13 ≠ 0))
    (R (.returned (.int .i64 x13)) w9)
    (∃ (xA1 : Option Addr) (xn1 xc1 : Nat), w9.cell? ⟨g1, 42, none⟩ = some (.slice xA1 xn1 xc1) ∧
  Br (decide ((65535 : Int) < IntKind.i64.wrap (IntKind.i64.wrap (20 + (x0n : Int)) + (xn1 : Int))))
    (R (.returned (.int .i64 63)) w9)
    (∃ x14 : Bool, w9.cell? ⟨g1, 3, none⟩ = some (.bool x14) ∧
  ∃ x15 : Int, w9.cell? ⟨g1, 4, none⟩ = some (.int .i64 x15) ∧
  ∃ (xA2 : Option Addr) (xn2 xc2 : Nat), w9.cell? ⟨g1, 42, none⟩ = some (.slice xA2 xn2 xc2) ∧
  Calls Tryd.prog 86 #[.bool x14, .int .i64 x15, .int .i64 (xn2 : Int)] w9 (onRet (fun r_8 w10 => ∃ x16 : Int, r_8 = .int .i64 x16 ∧
  R (.returned (.int .i64 x16)) w10)
    (fun ch8 w10 => R (.panicked ch8) w10)))))
    (fun ch7 w9 => R (.panicked ch7) w9))))
                  (fun ch6 w8 => R (.panicked ch6) w8))))
                (fun ch5 w7 => R (.panicked ch5) w7))))
              (fun ch4 w6 => R (.panicked ch4) w6))))
            (fun ch3 w5 => R (.panicked ch3) w5)))))
        (fun ch2 w4 => R (.panicked ch2) w4))))
      (fun ch1 w3 => R (.panicked ch1) w3))))
    (fun ch w2 => R (.panicked ch) w2))
def ip4_Check_H : Hints := []
set_option maxRecDepth 100000 in
theorem ip4_Check_of (h : Ip4V) (w : World) (R : Ending → World → Prop) (hvc_ : ip4_Check_VC h w R) :
    Calls Tryd.prog 44 #[h.val] w R :=
  calls_of_wpc callOk mixedOk (H := ip4_Check_H) (args := [h.val]) (fn := Tryd.f44) (c := bodyOf Tryd.f44) Tryd.func44 rfl (Nat.le_of_ble_eq_true rfl)
    (Eq.mp (by kernel_rfl : ip4_Check_VC h w R = wpc Tryd.prog callF Tryd.f44.ntmps ip4_Check_H 1 (bodyOf Tryd.f44) (argEnv 0 [h.val]) [] w (finish Tryd.prog callF Tryd.f44.results.toList R)) hvc_)

end N6
end Go.Proofs.YteppichfkeknbaaDoor
/- Chapter 6, writing: options and small functions, both programs. -/
namespace Go.Proofs.YteppichfkeknbaaDoor
namespace N6
open Go.Eng Go.RowKit
section
variable {w : World} {Γ : List Fct}
theorem out4_spec {k hi : Int} : Calls Tryd.prog 84 #[.int .i64 k, .int .i64 hi] w fun e w' => w = w' ∧ e = .returned (.bool (decide (k < 0 ∨ hi < k))) := by
  refine ip4_out_of k hi w _ ?_
  unfold ip4_out_VC
  refine Br.dec (fun h => ⟨rfl, by rw [decide_eq_true (.inl h)]⟩) fun h => ⟨rfl, ?_⟩
  by_cases h2 : hi < k
  · rw [decide_eq_true h2, decide_eq_true (.inr h2)]
  · rw [decide_eq_false h2, decide_eq_false (by omega)]
theorem frag4_spec {mf : Bool} {off : Int} {n : Nat} (ho : 0 ≤ off ∧ off ≤ 65528) (hn : n ≤ 4000000) : Calls Tryd.prog 86 #[.bool mf, .int .i64 off, .int .i64 n] w fun e w' => w = w' ∧ e = .returned (.int .i64 (if frag4 mf off n then 66 else 0)) := by
  refine ip4_fragment_of mf off n w _ ?_
  unfold ip4_fragment_VC
  have e8 : Int.tmod (n : Int) 8 = ((n % 8 : Nat) : Int) := tmod_nat _ 8
  rw [e8, w64 (by omega) (by omega)]
  have yes : frag4 mf off n → (w = w ∧ Ending.returned (.int .i64 66) = .returned (.int .i64 (if frag4 mf off n then 66 else 0))) := fun h => ⟨rfl, by rw [if_pos h]⟩
  have last : ¬ (mf = true ∧ (n = 0 ∨ n % 8 ≠ 0)) → Br (decide ((65515 : Int) < off + n)) (w = w ∧ Ending.returned (.int .i64 66) = .returned (.int .i64 (if frag4 mf off n then 66 else 0))) (w = w ∧ Ending.returned (.int .i64 0) = .returned (.int .i64 (if frag4 mf off n then 66 else 0))) := fun h =>
    Br.dec (fun h2 => yes (.inr h2)) fun h2 => ⟨rfl, by rw [if_neg (fun x => x.elim h h2)]⟩
  cases hm : mf with
  | true =>
    rw [hm] at yes last
    exact Br.t rfl (Br.dec (fun h0 => yes (.inl ⟨rfl, .inl (by omega)⟩)) fun h0 => Br.dec (fun h1 => yes (.inl ⟨rfl, .inr (by omega)⟩)) fun h1 => last fun h => by rcases h.2 with h | h <;> omega)
  | false =>
    rw [hm] at last
    exact Br.f rfl (last fun h => by cases h.1)
theorem four4_spec {p : IPV} : Calls Tryd.prog 85 #[p.val] w fun e w' => Ext w w' ∧ e = .returned (.bool (decide (four4 p))) := by
  refine ip4_four_of p w _ ?_
  unfold ip4_four_VC
  refine NewVC.sep (Sep.start0 w) fun g1 w1 H => NewVC.sep H fun g2 w2 H => DrawVC.sep H (fun _ => True) fun w3 H => ⟨trivial, ?_⟩
  refine ⟨by decide, by decide, by decide, by decide, ?_⟩
  refine CopyVC.sep H 2 Tryd.underlying26 (by kernel_rfl) rfl (xs := [.int .u8 p.a0, .int .u8 p.a1, .int .u8 p.a2, .int .u8 p.a3]) ((Cells.of_blk (H.blk 1 rfl) 1).take 4) rfl (Nat.le_refl 4) (by decide) (by intro v hv; simp at hv; rcases hv with rfl | rfl | rfl | rfl <;> rfl) fun w4 H => ?_
  refine ⟨_, H.cell 1 rfl 0 rfl, Br.dec (fun h4 => ?_) fun h4 => ⟨H.restOf 0 rfl, by rw [decide_eq_false fun x => h4 x.1]⟩⟩
  let a : A16V := ⟨p.a0, p.a1, p.a2, p.a3, p.a4, p.a5, p.a6, p.a7, p.a8, p.a9, p.a10, p.a11, p.a12, p.a13, p.a14, p.a15⟩
  let b : A16V := ⟨p.a0, p.a1, p.a2, p.a3, 0, 0, 0, 0, 0, 0, 0, 0, 0, 0, 0, 0⟩
  have hb1 := H.blk 1 rfl
  refine A16V.of a ⟨⟨hb1.cell 1, hb1.cell 2, hb1.cell 3, hb1.cell 4, hb1.cell 5, hb1.cell 6, hb1.cell 7, hb1.cell 8, hb1.cell 9, hb1.cell 10, hb1.cell 11, hb1.cell 12, hb1.cell 13, hb1.cell 14, hb1.cell 15, hb1.cell 16, trivial⟩, A16V.of b ⟨H.at 2 rfl, H.restOf 0 rfl, ?_⟩⟩
  have : A16V.beq a b = decide (four4 p) := by
    unfold A16V.beq four4
    rw [Bool.eq_iff_iff]
    simp [a, b, h4]
  rw [this]
/-- The zeros behind the options, one by one. -/
theorem pad_step {n k : Nat} (hk : k ≤ pad4 n) : (n + k) % 4 = 0 ↔ k = pad4 n := by unfold pad4 at *; omega
set_option maxHeartbeats 1000000 in
theorem putOpts4_spec {s : Sl} {rs : List OptR} (hO : OptsAt w s rs) : Calls Tryd.prog 78 #[.slice s.A s.n s.k] w (Made w (putOpts4 (rs.map OptR.d))) := by
  refine ip4_PutOptions_of s.A s.n s.k w _ ?_
  unfold ip4_PutOptions_VC
  have hsmall := hO.small
  have hl : (rs.map OptR.d).length = s.n := by simp [hO.len]
  refine LoopVC.of (fun st w' => ∃ (i : Nat) (out : List Int), st.2 = i ∧ i ≤ s.n ∧ opt4F (rs.map OptR.d) i = some out ∧ out.length ≤ 40 ∧ Sep [Fct.rest w None, ownB w.heap.size (.slice st.1.1 st.1.2.1 st.1.2.2) st.1.2.1 out] w') (fun st _ => ((s.n : Int) - st.2).toNat)
    ⟨0, [], rfl, Nat.zero_le _, rfl, Nat.zero_le _, (Sep.start0 w).nil _ _ _⟩ ?_
  rintro ⟨⟨A1, n1, c1⟩, _⟩ w1 ⟨i, out, rfl, hi, hf, hlen, H⟩
  simp only at H
  show ip4_PutOptions_L58 _ s.A s.n A1 n1 c1 (i : Int) w1 _
  unfold ip4_PutOptions_L58
  have hn1 := ownB_len H 1 rfl
  refine Br.dec (fun hlt => ?_) fun hge => ?_
  · have hlt : i < s.n := by omega
    refine (hO.ext (H.restOf 0 rfl)).idx rfl hlt fun a r hr hc _ => ?_
    have hB := hO.each r (List.mem_of_getElem? hr)
    have hds := hB.small
    have hdl := hB.len
    have hrd : (rs.map OptR.d)[i]? = some r.d := by rw [List.getElem?_map, hr]; rfl
    refine OptV.of r.v ⟨hc, ?_⟩
    refine NewVC.sep H fun g1 w2 H => ?_
    refine Stores.sep H 2 rfl r.v.one (Nat.le_refl 2) (splice_all rfl) fun w3 H => ?_
    have bad : opt4B r.d = none → Made w (putOpts4 (rs.map OptR.d)) (.returned (.tuple #[.slice none 0 0, .int .i64 65])) w3 := fun hb => Made.err (H.restOf 0 rfl) (putOpts4_none hf hrd hb)
    have hb0 : (r.v.kind < 2 ∨ 255 < r.v.kind ∨ 38 < r.v.data.n) → opt4B r.d = none := fun h => by
      unfold opt4B; rw [if_pos (show r.d.kind < 2 ∨ 255 < r.d.kind ∨ 38 < r.d.data.length from (show r.v.kind < 2 ∨ 255 < r.v.kind ∨ 38 < r.data.length by omega))]
    refine ⟨_, H.cell 2 rfl 0 rfl, Br.dec (fun h1 => bad (hb0 (by omega))) fun h1 => ⟨_, H.cell 2 rfl 0 rfl, Br.dec (fun h2 => bad (hb0 (by omega))) fun h2 => ⟨_, _, _, H.cell 2 rfl 1 rfl, Br.dec (fun h3 => bad (hb0 (by omega))) fun h3 => ⟨_, _, _, H.cell 2 rfl 1 rfl, ?_⟩⟩⟩⟩
    have hf1 : opt4F (rs.map OptR.d) (i + 1) = some (out ++ (r.v.kind :: ((r.v.data.n + 2 : Nat) : Int) :: r.data)) := by
      rw [opt4F_step hf hrd]
      unfold opt4B
      rw [if_neg (show ¬ (r.d.kind < 2 ∨ 255 < r.d.kind ∨ 38 < r.d.data.length) from (show ¬ (r.v.kind < 2 ∨ 255 < r.v.kind ∨ 38 < r.data.length) by omega))]
      show some (out ++ (r.v.kind :: ((r.data.length + 2 : Nat) : Int) :: r.data)) = _
      rw [hdl]
    rw [w64 (n := (n1 : Int) + 2) (by omega) (by omega), w64 (by omega) (by omega)]
    refine Br.dec (fun h4 => Made.err (H.restOf 0 rfl) (putOpts4_long hf1 (by omega) (by simp; omega))) fun h4 => ⟨_, H.cell 2 rfl 0 rfl, _, _, _, H.cell 2 rfl 1 rfl, ?_⟩
    rw [wu8 (n := r.v.kind) (by omega) (by omega), w64 (by omega) (by omega), wu8 (by omega) (by omega)]
    refine NewVC.sep H fun g2 w4 H => ?_
    refine appB H 1 rfl (m := 2) (ys := [r.v.kind, 2 + (r.v.data.n : Int)]) (by simpa using Cells.of_blk (H.blk 3 rfl) 0) rfl (by omega) (H.restOf 0 rfl).size fun A2 c2 w5 H _ => ⟨_, _, _, H.cell 2 rfl 1 rfl, ?_⟩
    refine appB H 1 rfl (ys := r.data) (hB.ext (H.restOf 0 rfl)).cells hdl (by omega) (H.restOf 0 rfl).size fun A3 c3 w6 H _ => ?_
    rw [w64 (by omega) (by omega)]
    refine ⟨⟨i + 1, (out ++ [r.v.kind, 2 + (r.v.data.n : Int)]) ++ r.data, by show (i : Int) + 1 = _; omega, by omega, ?_, by simp; omega, H.take 2⟩, by show ((s.n : Int) - ((i : Int) + 1)).toNat < ((s.n : Int) - (i : Int)).toNat; omega⟩
    rw [hf1]
    simp
    omega
  · have hin : i = s.n := by omega
    subst hin
    have hpo : putOpts4 (rs.map OptR.d) = (out ++ List.replicate (pad4 n1) 0, 0) := by
      unfold putOpts4; rw [hl, hf]; simp only; rw [if_neg (by omega), hn1]
    refine LoopVC.of (fun st w' => ∃ k : Nat, k ≤ pad4 n1 ∧ st.2.1 = n1 + k ∧ Sep [Fct.rest w None, ownB w.heap.size (.slice st.1 st.2.1 st.2.2) st.2.1 (out ++ List.replicate k 0)] w') (fun st _ => n1 + pad4 n1 - st.2.1) ⟨0, Nat.zero_le _, rfl, by simpa using H⟩ ?_
    rintro ⟨A2, n2, c2⟩ w7 ⟨k, hk, hn2, H⟩
    simp only at hn2 H
    subst hn2
    show ip4_PutOptions_L60 _ A2 (n1 + k) c2 w7 _
    unfold ip4_PutOptions_L60
    have hp := pad4_lt n1
    have e4 : Int.tmod ((n1 + k : Nat) : Int) 4 = (((n1 + k) % 4 : Nat) : Int) := tmod_nat _ 4
    rw [e4]
    have hps := pad_step hk
    refine Br.dec (fun hlt => ?_) fun hge => ?_
    · refine NewVC.sep H fun g3 w8 H => ?_
      refine appB H 1 rfl (m := 1) (ys := [0]) (by simpa using Cells.of_blk (H.blk 2 rfl) 0) rfl (by omega) (H.restOf 0 rfl).size fun A3 c3 w9 H _ => ?_
      refine ⟨⟨k + 1, by omega, rfl, ?_⟩, by show n1 + pad4 n1 - (n1 + k + 1) < n1 + pad4 n1 - (n1 + k); omega⟩
      have H := H.take 2
      rw [List.replicate_succ', ← List.append_assoc]
      exact H
    · have : k = pad4 n1 := hps.1 (by omega)
      rw [this] at H ⊢
      exact Made.ok hpo H
end
end N6
end Go.Proofs.YteppichfkeknbaaDoor
/- Chapter 6, writing: Check and Serialise, both programs. -/
namespace Go.Eng
open Go Go.RowKit
section
variable {w0 w : World} {Γ : List Fct}
theorem Sep.fresh {g t : Nat} {cs : List Value} (H : Sep Γ w) (j i : Nat) (hne : j ≠ i) (hj : Γ[j]? = some (Fct.rest w0 None)) (hi : Γ[i]? = some (Fct.blk g t cs)) : w0.heap.size ≤ g :=
  Nat.le_of_not_lt fun hlt => H.apart j i _ _ hne hj hi g ⟨hlt, id⟩ rfl
/-- A block of the call's own as a row. -/
theorem Sep.blkOwn {g e b n c : Nat} {cs : List Value} (H : Sep Γ w) (i : Nat) (hi : Γ[i]? = some (Fct.blk g e cs)) (hb : b ≤ g) (hc : cs.length = c) (hn : n ≤ c) (hm : c ≤ maxLen) : Sep (Γ.set i (Fct.own b e 1 (.slice (some ⟨g, 0, none⟩) n c) n (cs.take n))) w :=
  H.weaken i hi (own_of_blk (H.blk i hi) hb hc hn hm) fun k hk => by
    have hk : (Value.slice (some ⟨g, 0, none⟩) n c).ownBlock = some k := hk
    simp [Value.ownBlock] at hk
    exact hk.symm
end
end Go.Eng
namespace Go.Proofs.YteppichfkeknbaaDoor
namespace N6
open Go.Eng Go.RowKit
section
variable {w : World} {Γ : List Fct} {b n c m : Nat} {A : Option Addr} {xs : List Int}
def Wd (w : World) : Prop := CellsAt w ⟨0, 0, none⟩ 0 (ws4.map (.int .i64))
theorem Wd.ext {w w' : World} (h : Wd w) (hE : Ext w w') : Wd w' := CellsAt.ext hE h
section
variable {h : Ip4V} {os : List OptR} {data : List Int}
theorem ip4_src {g : Nat} {w' : World} (hb : Blk w' g 28 h.cells) : CellsAt w' ⟨g, 7, none⟩ 0 h.src.cells := ⟨hb.cell 7, hb.cell 8, hb.cell 9, hb.cell 10, hb.cell 11, hb.cell 12, hb.cell 13, hb.cell 14, hb.cell 15, hb.cell 16, hb.cell 17, hb.cell 18, hb.cell 19, hb.cell 20, hb.cell 21, hb.cell 22, hb.cell 23, trivial⟩
theorem ip4_dst {g : Nat} {w' : World} (hb : Blk w' g 28 h.cells) : CellsAt w' ⟨g, 24, none⟩ 0 h.dst.cells := ⟨hb.cell 24, hb.cell 25, hb.cell 26, hb.cell 27, hb.cell 28, hb.cell 29, hb.cell 30, hb.cell 31, hb.cell 32, hb.cell 33, hb.cell 34, hb.cell 35, hb.cell 36, hb.cell 37, hb.cell 38, hb.cell 39, hb.cell 40, trivial⟩
theorem bad4_iff : bad4 (h.d os data) ↔ (h.tos < 0 ∨ 255 < h.tos ∨ h.id < 0 ∨ 65535 < h.id ∨ h.off < 0 ∨ 65528 < h.off ∨ h.off % 8 ≠ 0 ∨ h.ttl < 0 ∨ 255 < h.ttl ∨ h.proto < 0 ∨ 255 < h.proto ∨ ¬ four4 h.src ∨ ¬ four4 h.dst) := Iff.rfl
set_option maxHeartbeats 2000000 in
theorem check4_spec (hA : Ip4At w h os data) : Calls Tryd.prog 44 #[h.val] w fun e w' => Ext w w' ∧ e = .returned (.int .i64 (check4S (h.d os data))) := by
  refine ip4_Check_of h w _ ?_
  unfold ip4_Check_VC
  have hD := hA.data
  have hdl := hD.len
  have hds := hD.small
  have fb := bad4_iff (h := h) (os := os) (data := data)
  obtain ⟨d, hd⟩ : ∃ d, h.d os data = d := ⟨_, rfl⟩
  have e_opts : d.opts = os.map OptR.d := by rw [← hd]; rfl
  have e_data : d.data = data := by rw [← hd]; rfl
  have e_mf : d.mf = h.mf := by rw [← hd]; rfl
  have e_off : d.off = h.off := by rw [← hd]; rfl
  rw [hd] at fb ⊢
  have bad : bad4 d → ∀ {w'}, Ext w w' → (Ext w w' ∧ Ending.returned (.int .i64 68) = .returned (.int .i64 (check4S d))) := fun hb w' hE => ⟨hE, by unfold check4S; rw [if_pos hb]⟩
  refine NewVC.sep (Sep.start0 w) fun g1 w1 H => ⟨_, H.cell 1 rfl 0 rfl, ?_⟩
  refine out4_spec.mono ?_
  rintro _ _ ⟨rfl, rfl⟩
  refine ⟨_, rfl, Br.dec (fun h1 => bad (fb.2 (by omega)) (H.restOf 0 rfl)) fun h1 => ⟨_, H.cell 1 rfl 1 rfl, ?_⟩⟩
  refine out4_spec.mono ?_
  rintro _ _ ⟨rfl, rfl⟩
  refine ⟨_, rfl, Br.dec (fun h2 => bad (fb.2 (by omega)) (H.restOf 0 rfl)) fun h2 => ⟨_, H.cell 1 rfl 4 rfl, ?_⟩⟩
  refine out4_spec.mono ?_
  rintro _ _ ⟨rfl, rfl⟩
  refine ⟨_, rfl, Br.dec (fun h3 => bad (fb.2 (by omega)) (H.restOf 0 rfl)) fun h3 => ⟨_, H.cell 1 rfl 4 rfl, ?_⟩⟩
  rw [Int.tmod_eq_emod_of_nonneg (by omega)]
  refine Br.dec (fun h4 => bad (fb.2 (by omega)) (H.restOf 0 rfl)) fun h4 => ⟨_, H.cell 1 rfl 5 rfl, ?_⟩
  refine out4_spec.mono ?_
  rintro _ _ ⟨rfl, rfl⟩
  refine ⟨_, rfl, Br.dec (fun h5 => bad (fb.2 (by omega)) (H.restOf 0 rfl)) fun h5 => ⟨_, H.cell 1 rfl 6 rfl, ?_⟩⟩
  refine out4_spec.mono ?_
  rintro _ _ ⟨rfl, rfl⟩
  refine ⟨_, rfl, Br.dec (fun h6 => bad (fb.2 (by omega)) (H.restOf 0 rfl)) fun h6 => IPV.of h.src ⟨ip4_src (H.blk 1 rfl), ?_⟩⟩
  refine four4_spec.mono ?_
  rintro _ w7 ⟨hE7, rfl⟩
  have H := H.ext hE7
  refine ⟨_, rfl, ?_⟩
  by_cases h7 : four4 h.src
  case neg => rw [decide_eq_false h7]; exact Br.t rfl (bad (fb.2 (by simp [h7])) (H.restOf 0 rfl))
  rw [decide_eq_true h7]
  refine Br.f rfl (IPV.of h.dst ⟨ip4_dst (H.blk 1 rfl), ?_⟩)
  refine four4_spec.mono ?_
  rintro _ w8 ⟨hE8, rfl⟩
  have H := H.ext hE8
  refine ⟨_, rfl, ?_⟩
  by_cases h8 : four4 h.dst
  case neg => rw [decide_eq_false h8]; exact Br.t rfl (bad (fb.2 (by simp [h8])) (H.restOf 0 rfl))
  rw [decide_eq_true h8]
  have hok : ¬ bad4 d := fun x => by have := fb.1 x; simp only [h7, h8, not_true, or_false] at this; omega
  refine Br.f rfl ⟨_, _, _, H.cell 1 rfl 41 rfl, ?_⟩
  refine (putOpts4_spec (hA.opts.ext (H.restOf 0 rfl))).mono ?_
  rintro _ w9 ⟨PA, pc, rfl, H9⟩
  have H := H.made H9
  rw [← e_opts] at H ⊢
  have hpl := putOpts4_len d.opts
  refine ⟨_, _, _, _, rfl, Br.dec (fun hne => ⟨H.restOf 0 rfl, by unfold check4S; rw [if_neg hok, if_pos hne]⟩) fun heq => ⟨_, _, _, H.cell 1 rfl 42 rfl, ?_⟩⟩
  rw [w64 (n := 20 + (((putOpts4 d.opts).1.length : Nat) : Int)) (by omega) (by omega), w64 (by omega) (by omega)]
  refine Br.dec (fun hbig => ⟨H.restOf 0 rfl, by unfold check4S; rw [if_neg hok, if_neg heq, if_pos (by rw [e_data]; omega)]⟩) fun hsm => ⟨_, H.cell 1 rfl 3 rfl, _, H.cell 1 rfl 4 rfl, _, _, _, H.cell 1 rfl 42 rfl, ?_⟩
  refine (frag4_spec (by omega) hds).mono ?_
  rintro _ _ ⟨rfl, rfl⟩
  have hck : check4S d = if frag4 h.mf h.off h.data.n then 66 else 0 := by
    unfold check4S
    rw [if_neg hok, if_neg heq, if_neg (show ¬ (65535 < 20 + (putOpts4 d.opts).1.length + d.data.length) by rw [e_data]; omega), e_mf, e_off, e_data, hdl]
  rw [hck]
  exact ⟨_, rfl, H.restOf 0 rfl, rfl⟩
end
end
end N6
end Go.Proofs.YteppichfkeknbaaDoor
/- Chapter 6, writing: Serialise, both programs. -/
namespace Go.Proofs.YteppichfkeknbaaDoor
namespace N6
open Go.Eng Go.RowKit
section
variable {w : World} {Γ : List Fct} {b n c m : Nat} {A : Option Addr} {xs : List Int} {h : Ip4V} {os : List OptR} {data : List Int}
structure Ok4 (h : Ip4V) (os : List OptR) (data : List Int) : Prop where
  tos : 0 ≤ h.tos ∧ h.tos ≤ 255
  id : 0 ≤ h.id ∧ h.id ≤ 65535
  off : 0 ≤ h.off ∧ h.off ≤ 65528
  off8 : h.off % 8 = 0
  ttl : 0 ≤ h.ttl ∧ h.ttl ≤ 255
  proto : 0 ≤ h.proto ∧ h.proto ≤ 255
  src : four4 h.src
  dst : four4 h.dst
  opts : (putOpts4 (os.map OptR.d)).2 = 0
  tot : tot4 (h.d os data) ≤ 65535
theorem Ok4.of (hc : check4S (h.d os data) = 0) : Ok4 h os data := by
  obtain ⟨h1, h2, h3, -⟩ := check4S_ok hc
  rw [bad4_iff] at h1
  exact ⟨by omega, by omega, by omega, by omega, by omega, by omega, Classical.byContradiction fun e => h1 (by simp [e]), Classical.byContradiction fun e => h1 (by simp [e]), h2, h3⟩
end
end N6
end Go.Proofs.YteppichfkeknbaaDoor
