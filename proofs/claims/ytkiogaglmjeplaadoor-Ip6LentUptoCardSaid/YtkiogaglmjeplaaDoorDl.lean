/- WRITTEN BY a program of this session (vc.py): for each Go function the condition that is enough for its contract, and the theorem that it is. -/
import Derived.Test.YtkiogaglmjeplaaDoorProg
import Derived.Test.YtkiogaglmjeplaaDoorBq
import Derived.Test.YtkiogaglmjeplaaDoorBt
import Derived.Test.YtkiogaglmjeplaaDoorBe
import Derived.Test.YtkiogaglmjeplaaDoorDk
import Derived.Test.YtkiogaglmjeplaaDoorBi
import Derived.Test.YtkiogaglmjeplaaDoorBu
import Derived.Test.YtkiogaglmjeplaaDoorBv
import Derived.Test.YtkiogaglmjeplaaDoorBp
namespace Go.Proofs.YtkiogaglmjeplaaDoor
open Go.Eng
namespace N6

set_option maxRecDepth 100000 in
def weirlaw7_tail_L28 (R : Ending → World → Prop) (i : Int) (n : Int) (lA : Option Addr) (ln : Nat) (lc : Nat) (w1 : World) (K28 : ((Option Addr × Nat × Nat) → World → Prop)) : Prop :=
  Br (decide ((ln : Int) < n))
    (NewVC w1 (.cells #[.int .u8 (IntKind.u8.wrap (IntKind.i64.wrap (251 + Int.tmod i 5)))] 5) fun g1 w2 =>
  AppVC Tryd.prog #[22, 22] 22 (.slice lA ln lc) (.slice (some ⟨g1, 0, none⟩) 1 1) w2 fun lA1 ln1 lc1 w3 =>
  K28 (lA1, ln1, lc1) w3)
    (R (.returned (.slice lA ln lc)) w1)
set_option maxRecDepth 100000 in
def weirlaw7_tail_VC (i : Int) (n : Int) (w : World) (R : Ending → World → Prop) : Prop :=
  LoopVC (S := (Option Addr × Nat × Nat)) (fun s_ w1 K28 => weirlaw7_tail_L28 R i n s_.1 s_.2.1 s_.2.2 w1 K28) (none, 0, 0) w
def weirlaw7_tail_H : Hints := [(28, [(5, .slice)])]
set_option maxRecDepth 100000 in
theorem weirlaw7_tail_of (i : Int) (n : Int) (w : World) (R : Ending → World → Prop) (hvc_ : weirlaw7_tail_VC i n w R) :
    Calls Tryd.prog 58 #[.int .i64 i, .int .i64 n] w R :=
  calls_of_wpc callOk mixedOk (H := weirlaw7_tail_H) (args := [.int .i64 i, .int .i64 n]) (fn := Tryd.f58) (c := bodyOf Tryd.f58) Tryd.func58 rfl (Nat.le_of_ble_eq_true rfl)
    (Eq.mp (by kernel_rfl : weirlaw7_tail_VC i n w R = wpc Tryd.prog callF Tryd.f58.ntmps weirlaw7_tail_H 1 (bodyOf Tryd.f58) (argEnv 0 [.int .i64 i, .int .i64 n]) [] w (finish Tryd.prog callF Tryd.f58.results.toList R)) hvc_)

set_option maxRecDepth 100000 in
def weirlaw7_filled_L1682 (lA : Option Addr) (ln : Nat) (i : Int) (K26 : (Int → World → Prop)) (j : Int) (w2 : World) (K1682 : (Int → World → Prop)) : Prop :=
  IdxVC lA ln 1 i fun a =>
  ∃ (xA : Option Addr) (xn xc : Nat), w2.cell? a = some (.slice xA xn xc) ∧
  Br (decide (j < (xn : Int)))
    (IdxVC lA ln 1 i fun a1 =>
  ∃ (xA1 : Option Addr) (xn1 xc1 : Nat), w2.cell? a1 = some (.slice xA1 xn1 xc1) ∧
  IdxVC xA1 xn1 1 j fun a2 =>
  SetVC w2 a2 (.int .u8 (IntKind.u8.wrap (IntKind.i64.wrap (1 + Int.tmod i 250)))) fun w3 =>
  K1682 (IntKind.i64.wrap (j + 1)) w3)
    (K26 (IntKind.i64.wrap (i + 1)) w2)
set_option maxRecDepth 100000 in
def weirlaw7_filled_L125242 (R : Ending → World → Prop) (moreA : Option Addr) (moren : Nat) (morec : Nat) (i1 : Int) (K122 : ((Option Addr × Nat × Nat) × Int → World → Prop)) (lA1 : Option Addr) (ln1 : Nat) (lc1 : Nat) (lA2 : Option Addr) (ln2 : Nat) (lc2 : Nat) (g3A : Option Addr) (g3n : Nat) (g3c : Nat) (k : Int) (w11 : World) (K125242 : ((Option Addr × Nat × Nat) × Int → World → Prop)) : Prop :=
  Br (decide (k < 70))
    (Calls Tryd.prog 58 #[.int .i64 i1, .int .i64 1] w11 (onRet (fun r_2 w12 => ∃ (xA7 : Option Addr) (xn7 xc7 : Nat), r_2 = .slice xA7 xn7 xc7 ∧
  AppVC Tryd.prog #[22, 22] 22 (.slice g3A g3n g3c) (.slice xA7 xn7 xc7) w12 fun lA3 ln3 lc3 w13 =>
  K125242 ((lA3, ln3, lc3), IntKind.i64.wrap (k + 1)) w13)
    (fun ch2 w12 => R (.panicked ch2) w12)))
    (NewVC w11 (.cells #[.slice lA1 ln1 lc1, .slice lA2 ln2 lc2, .slice g3A g3n g3c] 22) fun g1 w14 =>
  AppVC Tryd.prog #[60, 60] 60 (.slice moreA moren morec) (.slice (some ⟨g1, 0, none⟩) 3 3) w14 fun lA4 ln4 lc4 w15 =>
  K122 ((lA4, ln4, lc4), IntKind.i64.wrap (i1 + 1)) w15)
set_option maxRecDepth 100000 in
def weirlaw7_filled_L122 (R : Ending → World → Prop) (lA : Option Addr) (ln : Nat) (moreA : Option Addr) (moren : Nat) (morec : Nat) (i1 : Int) (w4 : World) (K122 : ((Option Addr × Nat × Nat) × Int → World → Prop)) : Prop :=
  Br (decide (i1 < (ln : Int)))
    (DrawVC w4 fun S1 w5 =>
  IdxVC lA ln 1 i1 fun a3 =>
  ∃ (xA2 : Option Addr) (xn2 xc2 : Nat), (∀ w' : World, S1 w' → w'.cell? a3 = some (.slice xA2 xn2 xc2)) ∧
  Calls Tryd.prog 58 #[.int .i64 i1, .int .i64 1] w5 (onRet (fun r_ w6 => ∃ (xA3 : Option Addr) (xn3 xc3 : Nat), r_ = .slice xA3 xn3 xc3 ∧
  S1 w6 ∧
  AppVC Tryd.prog #[22, 22] 22 (.slice xA2 xn2 xc2) (.slice xA3 xn3 xc3) w6 fun lA1 ln1 lc1 w7 =>
  S1 w7 ∧
  DrawVC w7 fun S2 w8 =>
  IdxVC lA ln 1 i1 fun a4 =>
  ∃ (xA4 : Option Addr) (xn4 xc4 : Nat), (∀ w' : World, S2 w' → w'.cell? a4 = some (.slice xA4 xn4 xc4)) ∧
  Calls Tryd.prog 58 #[.int .i64 i1, .int .i64 2] w8 (onRet (fun r_1 w9 => ∃ (xA5 : Option Addr) (xn5 xc5 : Nat), r_1 = .slice xA5 xn5 xc5 ∧
  S2 w9 ∧
  AppVC Tryd.prog #[22, 22] 22 (.slice xA4 xn4 xc4) (.slice xA5 xn5 xc5) w9 fun lA2 ln2 lc2 w10 =>
  S2 w10 ∧
  IdxVC lA ln 1 i1 fun a5 =>
  ∃ (xA6 : Option Addr) (xn6 xc6 : Nat), w10.cell? a5 = some (.slice xA6 xn6 xc6) ∧
  LoopVC (S := (Option Addr × Nat × Nat) × Int) (fun s_ w11 K125242 => weirlaw7_filled_L125242 R moreA moren morec i1 K122 lA1 ln1 lc1 lA2 ln2 lc2 s_.1.1 s_.1.2.1 s_.1.2.2 s_.2 w11 K125242) ((xA6, xn6, xc6), 0) w10)
    (fun _ _ => False)))
    (fun _ _ => False)))
    (R (.returned (.slice moreA moren morec)) w4)
set_option maxRecDepth 100000 in
def weirlaw7_filled_L26 (R : Ending → World → Prop) (lA : Option Addr) (ln : Nat) (i : Int) (w1 : World) (K26 : (Int → World → Prop)) : Prop :=
  Br (decide (i < (ln : Int)))
    (LoopVC (S := Int) (fun s_ w2 K1682 => weirlaw7_filled_L1682 lA ln i K26 s_ w2 K1682) 0 w1)
    (LoopVC (S := (Option Addr × Nat × Nat) × Int) (fun s_ w4 K122 => weirlaw7_filled_L122 R lA ln s_.1.1 s_.1.2.1 s_.1.2.2 s_.2 w4 K122) ((none, 0, 0), 0) w1)
set_option maxRecDepth 100000 in
def weirlaw7_filled_VC (lA : Option Addr) (ln : Nat) (_lc : Nat) (w : World) (R : Ending → World → Prop) : Prop :=
  LoopVC (S := Int) (fun s_ w1 K26 => weirlaw7_filled_L26 R lA ln s_ w1 K26) 0 w
def weirlaw7_filled_H : Hints := [(26, [(3, .int .i64)]), (1682, [(4, .int .i64)]), (122, [(5, .slice), (6, .int .i64)]), (125242, [(9, .slice), (10, .int .i64)])]
set_option maxRecDepth 100000 in
theorem weirlaw7_filled_of (lA : Option Addr) (ln : Nat) (lc : Nat) (w : World) (R : Ending → World → Prop) (hvc_ : weirlaw7_filled_VC lA ln lc w R) :
    Calls Tryd.prog 30 #[.slice lA ln lc] w R :=
  calls_of_wpc callOk mixedOk (H := weirlaw7_filled_H) (args := [.slice lA ln lc]) (fn := Tryd.f30) (c := bodyOf Tryd.f30) Tryd.func30 rfl (Nat.le_of_ble_eq_true rfl)
    (Eq.mp (by kernel_rfl : weirlaw7_filled_VC lA ln lc w R = wpc Tryd.prog callF Tryd.f30.ntmps weirlaw7_filled_H 1 (bodyOf Tryd.f30) (argEnv 0 [.slice lA ln lc]) [] w (finish Tryd.prog callF Tryd.f30.results.toList R)) hvc_)

set_option maxRecDepth 100000 in
def weirlaw7_stand_J13791817 (R : Ending → World → Prop) (lA : Option Addr) (ln : Nat) (moreA : Option Addr) (moren : Nat) (i : Int) (xn : Nat) (k : Int) (j : Int) (K430994 : (Int → World → Prop)) (m : Int) (w4 : World) : Prop :=
  IdxVC moreA moren 1 k fun a5 =>
  ∃ (xA5 : Option Addr) (xn5 xc5 : Nat), w4.cell? a5 = some (.slice xA5 xn5 xc5) ∧
  IdxVC xA5 xn5 1 j fun a6 =>
  ∃ x : Int, w4.cell? a6 = some (.int .u8 x) ∧
  Br (decide (x ≠ m))
    (R (.returned (.bool false)) w4)
    (Br (decide (j < (xn : Int)))
      (IdxVC lA ln 1 i fun a7 =>
      ∃ (xA6 : Option Addr) (xn6 xc6 : Nat), w4.cell? a7 = some (.slice xA6 xn6 xc6) ∧
      IdxVC xA6 xn6 1 j fun a8 =>
      ∃ x1 : Int, w4.cell? a8 = some (.int .u8 x1) ∧
      Br (decide (x1 ≠ m))
    (R (.returned (.bool false)) w4)
    (K430994 (IntKind.i64.wrap (j + 1)) w4))
      (K430994 (IntKind.i64.wrap (j + 1)) w4))
set_option maxRecDepth 100000 in
def weirlaw7_stand_L430994 (R : Ending → World → Prop) (lA : Option Addr) (ln : Nat) (moreA : Option Addr) (moren : Nat) (i : Int) (xn : Nat) (k : Int) (K6734 : (Int → World → Prop)) (j : Int) (w3 : World) (K430994 : (Int → World → Prop)) : Prop :=
  IdxVC moreA moren 1 k fun a4 =>
  ∃ (xA4 : Option Addr) (xn4 xc4 : Nat), w3.cell? a4 = some (.slice xA4 xn4 xc4) ∧
  Br (decide (j < (xn4 : Int)))
    (JoinVC (S := Int) (fun J13791817 =>
      Br (decide ((xn : Int) ≤ j))
        (J13791817 (IntKind.u8.wrap (IntKind.i64.wrap (251 + Int.tmod i 5))) w3)
        (J13791817 (IntKind.u8.wrap (IntKind.i64.wrap (1 + Int.tmod i 250))) w3))
    (fun s_ w4 => weirlaw7_stand_J13791817 R lA ln moreA moren i xn k j K430994 s_ w4))
    (K6734 (IntKind.i64.wrap (k + 1)) w3)
set_option maxRecDepth 100000 in
def weirlaw7_stand_L6734 (R : Ending → World → Prop) (lA : Option Addr) (ln : Nat) (moreA : Option Addr) (moren : Nat) (i : Int) (K26 : (Int → World → Prop)) (xn : Nat) (k : Int) (w2 : World) (K6734 : (Int → World → Prop)) : Prop :=
  Br (decide (k < IntKind.i64.wrap (IntKind.i64.wrap (3 * i) + 3)))
    (LoopVC (S := Int) (fun s_ w3 K430994 => weirlaw7_stand_L430994 R lA ln moreA moren i xn k K6734 s_ w3 K430994) 0 w2)
    (K26 (IntKind.i64.wrap (i + 1)) w2)
set_option maxRecDepth 100000 in
def weirlaw7_stand_L26 (R : Ending → World → Prop) (lA : Option Addr) (ln : Nat) (moreA : Option Addr) (moren : Nat) (i : Int) (w1 : World) (K26 : (Int → World → Prop)) : Prop :=
  Br (decide (i < (ln : Int)))
    (IdxVC lA ln 1 i fun a =>
  ∃ (xA : Option Addr) (xn xc : Nat), w1.cell? a = some (.slice xA xn xc) ∧
  IdxVC moreA moren 1 (IntKind.i64.wrap (3 * i)) fun a1 =>
  ∃ (xA1 : Option Addr) (xn1 xc1 : Nat), w1.cell? a1 = some (.slice xA1 xn1 xc1) ∧
  Br (decide ((xn1 : Int) ≠ IntKind.i64.wrap ((xn : Int) + 1)))
    (R (.returned (.bool false)) w1)
    (IdxVC moreA moren 1 (IntKind.i64.wrap (IntKind.i64.wrap (3 * i) + 1)) fun a2 =>
    ∃ (xA2 : Option Addr) (xn2 xc2 : Nat), w1.cell? a2 = some (.slice xA2 xn2 xc2) ∧
    Br (decide ((xn2 : Int) ≠ IntKind.i64.wrap ((xn : Int) + 2)))
      (R (.returned (.bool false)) w1)
      (IdxVC moreA moren 1 (IntKind.i64.wrap (IntKind.i64.wrap (3 * i) + 2)) fun a3 =>
      ∃ (xA3 : Option Addr) (xn3 xc3 : Nat), w1.cell? a3 = some (.slice xA3 xn3 xc3) ∧
      Br (decide ((xn3 : Int) ≠ IntKind.i64.wrap ((xn : Int) + 70)))
    (R (.returned (.bool false)) w1)
    (LoopVC (S := Int) (fun s_ w2 K6734 => weirlaw7_stand_L6734 R lA ln moreA moren i K26 xn s_ w2 K6734) (IntKind.i64.wrap (3 * i)) w1))))
    (R (.returned (.bool true)) w1)
set_option maxRecDepth 100000 in
def weirlaw7_stand_VC (lA : Option Addr) (ln : Nat) (_lc : Nat) (moreA : Option Addr) (moren : Nat) (_morec : Nat) (w : World) (R : Ending → World → Prop) : Prop :=
  LoopVC (S := Int) (fun s_ w1 K26 => weirlaw7_stand_L26 R lA ln moreA moren s_ w1 K26) 0 w
def weirlaw7_stand_H : Hints := [(26, [(5, .int .i64)]), (6734, [(7, .int .i64)]), (430994, [(8, .int .i64)]), (13791817, [(9, .int .u8)])]
set_option maxRecDepth 100000 in
theorem weirlaw7_stand_of (lA : Option Addr) (ln : Nat) (lc : Nat) (moreA : Option Addr) (moren : Nat) (morec : Nat) (w : World) (R : Ending → World → Prop) (hvc_ : weirlaw7_stand_VC lA ln lc moreA moren morec w R) :
    Calls Tryd.prog 31 #[.slice lA ln lc, .slice moreA moren morec] w R :=
  calls_of_wpc callOk mixedOk (H := weirlaw7_stand_H) (args := [.slice lA ln lc, .slice moreA moren morec]) (fn := Tryd.f31) (c := bodyOf Tryd.f31) Tryd.func31 rfl (Nat.le_of_ble_eq_true rfl)
    (Eq.mp (by kernel_rfl : weirlaw7_stand_VC lA ln lc moreA moren morec w R = wpc Tryd.prog callF Tryd.f31.ntmps weirlaw7_stand_H 1 (bodyOf Tryd.f31) (argEnv 0 [.slice lA ln lc, .slice moreA moren morec]) [] w (finish Tryd.prog callF Tryd.f31.results.toList R)) hvc_)

end N6
end Go.Proofs.YtkiogaglmjeplaaDoor
/- Lists of bytes that were handed out: written full, each with a mark of its own, lengthened by one, two and seventy; that they stand. -/
namespace Go.Eng
open Go Go.RowKit
def mkI (i : Nat) : Int := ((1 + i % 250 : Nat) : Int)
def tlI (i : Nat) : Int := ((251 + i % 5 : Nat) : Int)
def mkB (i : Nat) : List Value := [.int .u8 (mkI i)]
def tlB (i : Nat) : List Value := [.int .u8 (tlI i)]
def tC : Nat → Nat | 0 => 1 | 1 => 2 | _ => 70
/-- What the lists read, once they are lengthened. -/
def ReadsB (w : World) (rows gs : List GR) : Prop :=
  ∀ (j : Nat) (r : GR), rows[j]? = some r → Cells w r.A (reps r.n (mkB j)) ∧ ∀ d, d < 3 → ∃ g : GR, gs[3 * j + d]? = some g ∧ g.n = r.n + tC d ∧ Cells w g.A (reps r.n (mkB j) ++ reps (tC d) (tlB j))
def StoodB (rows gs : List GR) (D : List Fct) (n : Nat) : Prop := ∀ w2, (∀ f ∈ D, f.φ w2) → ∀ (j : Nat) (r : GR), j < n → rows[j]? = some r → Cells w2 r.A (reps r.n (mkB j)) ∧ ∀ d, d < 3 → ∃ g : GR, gs[3 * j + d]? = some g ∧ g.n = r.n + tC d ∧ Cells w2 g.A (reps r.n (mkB j) ++ reps (tC d) (tlB j))
theorem mk_val {i : Nat} (h : i ≤ 4000000000000) : IntKind.u8.wrap (IntKind.i64.wrap (1 + Int.tmod (i : Int) 250)) = mkI i := by
  have e : Int.tmod (i : Int) 250 = ((i % 250 : Nat) : Int) := by rw [Int.tmod_eq_emod_of_nonneg (by omega)]; omega
  unfold mkI
  rw [e, w64 (by omega) (by omega), wu8 (by omega) (by omega)]; omega
theorem tl_val {i : Nat} (h : i ≤ 4000000000000) : IntKind.u8.wrap (IntKind.i64.wrap (251 + Int.tmod (i : Int) 5)) = tlI i := by
  have e : Int.tmod (i : Int) 5 = ((i % 5 : Nat) : Int) := by rw [Int.tmod_eq_emod_of_nonneg (by omega)]; omega
  unfold tlI
  rw [e, w64 (by omega) (by omega), wu8 (by omega) (by omega)]; omega
end Go.Eng
namespace Go.Proofs.YtkiogaglmjeplaaDoor
namespace N6
open Go.Eng Go.RowKit
theorem tSl : TypeIs Tryd.prog 22 (.slice none 0 0) 1 24 := .of (by kernel_rfl)
section
variable {w w0 : World} {Γ0 : List Fct} {b ln lc : Nat} {lA : Option Addr} {rows : List GR}
theorem tail_spec {i n : Nat} (hi : i ≤ 4000000000000) (hn : n ≤ 70) : Calls Tryd.prog 58 #[.int .i64 (i : Int), .int .i64 (n : Int)] w fun e w' => ∃ A c, e = .returned (.slice A n c) ∧ Sep [Fct.rest w None, Fct.own w.heap.size 5 1 (.slice A n c) n (reps n (tlB i))] w' := by
  refine weirlaw7_tail_of (i : Int) (n : Int) w _ ?_
  unfold weirlaw7_tail_VC
  refine LoopVC.of (fun st w' => st.2.1 ≤ n ∧ Sep [Fct.rest w None, Fct.own w.heap.size 5 1 (.slice st.1 st.2.1 st.2.2) st.2.1 (reps st.2.1 (tlB i))] w') (fun st _ => n - st.2.1) ⟨Nat.zero_le _, (Sep.start0 w).nil _ _ _⟩ ?_
  rintro ⟨A1, n1, c1⟩ w1 ⟨h1, H⟩
  simp only at h1
  show weirlaw7_tail_L28 _ (i : Int) (n : Int) A1 n1 c1 w1 _
  unfold weirlaw7_tail_L28
  rw [tl_val hi]
  refine Br.dec (fun hlt => ?_) fun hge => ?_
  · refine NewVC.sep H fun g1 w2 H => ?_
    have hz := (H.restOf 0 rfl).size
    refine AppVC.sep H 1 Tryd.underlying22 tB rfl (by decide) rfl (Cells.blk0 (H.blk 2 rfl)) rfl (fun v hv => by simp at hv; subst hv; rfl) (show (n1 + 1) * 1 ≤ 140737488355328 by omega) (by decide) hz fun A2 c2 w3 H _ => ?_
    refine ⟨⟨by show n1 + 1 ≤ n; omega, ?_⟩, by show n - (n1 + 1) < n - n1; omega⟩
    have H := H.take 2
    show Sep [_, Fct.own _ _ 1 (.slice A2 (n1 + 1) c2) (n1 + 1) (reps (n1 + 1) (tlB i))] w3
    rw [reps_add, reps_one]
    exact H
  · have : n1 = n := by omega
    subst this
    exact ⟨A1, c1, rfl, H⟩
set_option maxHeartbeats 8000000 in
theorem filled_spec (H : Sep (Γ0 ++ rows.map (rawR b 5 1)) w) (h0 : Γ0[0]? = some (Fct.rest w0 None)) (hb : b ≤ w0.heap.size) (hl : ∀ w', (∀ f ∈ Γ0, f.φ w') → Cells w' lA (rows.map GR.val)) (hlen : rows.length = ln) (hsm : ln ≤ 1900000000000) (hn : ∀ r ∈ rows, r.n ≤ 4000000) :
    Calls Tryd.prog 30 #[.slice lA ln lc] w fun e w' => ∃ (MA : Option Addr) (mc : Nat) (gs : List GR) (D : List Fct), e = .returned (.slice MA (3 * ln) mc) ∧ gs.length = 3 * ln ∧ StoodB rows gs D ln ∧ Sep (Fct.own b 22 1 (.slice MA (3 * ln) mc) (3 * ln) (gs.map GR.val) :: (Γ0 ++ D)) w' := by
  refine weirlaw7_filled_of lA ln lc w _ ?_
  unfold weirlaw7_filled_VC
  have hin : ∀ {i : Nat} {r : GR}, rows[i]? = some r → r.n ≤ 4000000 := fun h => hn _ (List.mem_of_getElem? h)
  have hget : ∀ i, i < ln → ∃ r, rows[i]? = some r := fun i hi => ⟨_, List.getElem?_eq_getElem (by omega)⟩
  have hrest : ∀ {Y : List Fct} {w' : World}, Sep (Γ0 ++ Y) w' → w0.heap.size ≤ w'.heap.size := fun H => (H.restOf 0 (by
    rw [List.getElem?_append_left (List.getElem?_eq_some_iff.1 h0).1]; exact h0)).size
  refine LoopVC.of (fun st w' => ∃ i : Nat, st = (i : Int) ∧ i ≤ ln ∧ Sep (Γ0 ++ (mapI (fullR b 5 1 mkB) 0 (rows.take i) ++ (rows.drop i).map (rawR b 5 1))) w') (fun st _ => ((ln : Int) - st).toNat)
    ⟨0, rfl, Nat.zero_le _, H⟩ ?_
  rintro _ w1 ⟨i, rfl, hi, H⟩
  show weirlaw7_filled_L26 _ lA ln (i : Int) w1 _
  unfold weirlaw7_filled_L26
  refine Br.dec (fun hlt => ?_) fun hge => ?_
  · obtain ⟨r, hr⟩ := hget i (by omega)
    have hrn := hin hr
    have hmk := mk_val (i := i) (by omega)
    have e1 : IntKind.i64.wrap ((i : Int) + 1) = ((i + 1 : Nat) : Int) := by rw [w64 (by omega) (by omega)]; omega
    rw [drop_consA hr, List.map_cons] at H
    obtain ⟨D, hD⟩ : ∃ D, D = mapI (fullR b 5 1 mkB) 0 (rows.take i) := ⟨_, rfl⟩
    obtain ⟨T, hT⟩ : ∃ T, T = (rows.drop (i + 1)).map (rawR b 5 1) := ⟨_, rfl⟩
    rw [← hD, ← hT] at H
    have H := H.focus
    refine LoopVC.of (fun st w' => ∃ (k : Nat) (ys : List Value), st = (k : Int) ∧ k ≤ r.n ∧ ys.length = r.n ∧ (∀ j, j < k → ys[j]? = some (.int .u8 (mkI i))) ∧ Sep (Fct.row b 5 1 r.A r.c r.n ys :: (Γ0 ++ (D ++ T))) w') (fun st _ => ((r.n : Int) - st).toNat)
      ⟨0, r.xs, rfl, Nat.zero_le _, by have := (H.row 0 rfl).1; omega, fun j hj => absurd hj (by omega), H⟩ ?_
    rintro _ w2 ⟨k, ys, rfl, hk, hyl, hy, H⟩
    show weirlaw7_filled_L1682 lA ln (i : Int) _ (k : Int) w2 _
    unfold weirlaw7_filled_L1682
    have hl2 := hl w2 fun f hf => H.mem (List.mem_cons_of_mem _ (List.mem_append_left _ hf))
    refine idx_rows hl2 hr hlen fun a ha => ⟨_, _, _, ha, Br.dec (fun hk1 => ?_) fun hk1 => ?_⟩
    · refine idx_rows hl2 hr hlen fun a ha => ⟨_, _, _, ha, ?_⟩
      rw [hmk]
      have e2 : IntKind.i64.wrap ((k : Int) + 1) = ((k + 1 : Nat) : Int) := by rw [w64 (by omega) (by omega)]; omega
      refine IdxVC.rowSet H 0 rfl (by omega) (by omega) fun a ha => ha _ _ rfl fun w3 H3 => ?_
      refine ⟨⟨k + 1, _, e2, by omega, by simpa using hyl, fun j hj => ?_, H3⟩, by rw [e2]; omega⟩
      by_cases e : j = k
      · subst e; rw [List.getElem?_set_self (by omega)]
      · rw [List.getElem?_set_ne (Ne.symm e)]; exact hy j (by omega)
    · have hkn : k = r.n := by omega
      have hys := full_cells hyl fun j hj => hy j (by omega)
      subst hys
      refine ⟨⟨i + 1, e1, by omega, ?_⟩, by rw [e1]; omega⟩
      rw [take_snocA hr, mapI_snoc, ← hD, ← hT]
      have hli : 0 + (rows.take i).length = i := by rw [List.length_take]; omega
      rw [hli]
      exact H.perm (perm_unfocus (Z := []))
  have hin' : i = ln := by omega
  subst hin'
  rw [List.take_of_length_le (by omega), List.drop_of_length_le (by omega), List.map_nil, List.append_nil] at H
  refine LoopVC.of (fun st w' => ∃ (j : Nat) (D : List Fct) (gs : List GR), st.2 = (j : Int) ∧ j ≤ i ∧ gs.length = 3 * j ∧ st.1.2.1 = 3 * j ∧ StoodB rows gs D j ∧
      Sep (Fct.own b 22 1 (.slice st.1.1 st.1.2.1 st.1.2.2) st.1.2.1 (gs.map GR.val) :: (Γ0 ++ (D ++ mapI (fullR b 5 1 mkB) j (rows.drop j)))) w') (fun st _ => ((i : Int) - st.2).toNat)
    ⟨0, [], [], rfl, Nat.zero_le _, rfl, rfl, (fun w2 _ j r hj => absurd hj (by omega)), (H.nil b 22 1).front⟩ ?_
  rintro ⟨⟨LA, Ln, Lc⟩, _⟩ w4 ⟨j, D, gs, rfl, hj, hgl, hLn, hst, H⟩
  simp only at hLn
  subst hLn
  have H : Sep (Fct.own b 22 1 (.slice LA (3 * j) Lc) (3 * j) (gs.map GR.val) :: (Γ0 ++ (D ++ mapI (fullR b 5 1 mkB) j (rows.drop j)))) w4 := H
  show weirlaw7_filled_L122 _ lA i LA (3 * j) Lc (j : Int) w4 _
  unfold weirlaw7_filled_L122
  refine Br.dec (fun hlt => ?_) fun hge => ?_
  rotate_left
  · have hjn : j = i := by omega
    subst hjn
    rw [List.drop_of_length_le (by omega)] at H
    exact ⟨LA, Lc, gs, D, rfl, hgl, hst, by simpa [mapI] using H⟩
  obtain ⟨r, hr⟩ := hget j (by omega)
  have hrn := hin hr
  have e1 : IntKind.i64.wrap ((j : Int) + 1) = ((j + 1 : Nat) : Int) := by rw [w64 (by omega) (by omega)]; omega
  rw [drop_consA hr] at H
  obtain ⟨R, hR⟩ : ∃ R, R = mapI (fullR b 5 1 mkB) (j + 1) (rows.drop (j + 1)) := ⟨_, rfl⟩
  have H : Sep ((Fct.own b 22 1 (.slice LA (3 * j) Lc) (3 * j) (gs.map GR.val) :: Γ0) ++ (D ++ fullR b 5 1 mkB j r :: R)) w4 := by rw [hR]; exact H
  have H := H.focus
  obtain ⟨Γ1, hΓ1⟩ : ∃ Γ1, Γ1 = Fct.own b 22 1 (.slice LA (3 * j) Lc) (3 * j) (gs.map GR.val) :: (Γ0 ++ (D ++ R)) := ⟨_, rfl⟩
  obtain ⟨bs, hbs⟩ : ∃ bs : Nat → Fct, bs = fun k => baseR b 5 1 r.A r.c r.n (reps r.n (mkB j)) (tlB j) k := ⟨_, rfl⟩
  have H : Sep (bs 0 :: Γ1) w4 := by
    rw [hΓ1, hbs]
    have e : baseR b 5 1 r.A r.c r.n (reps r.n (mkB j)) (tlB j) 0 = fullR b 5 1 mkB j r := by unfold baseR fullR; rw [reps_zero, List.append_nil]; rfl
    simp only
    rw [e]; exact H
  have inΓ : ∀ {Y : List Fct} {w' : World}, Sep (Y ++ Γ1) w' → w0.heap.size ≤ w'.heap.size ∧ Cells w' lA (rows.map GR.val) := fun {Y w'} H => by
    rw [hΓ1] at H
    have H := H.perm (List.perm_append_comm)
    have H : Sep (_ :: (Γ0 ++ (D ++ R)) ++ Y) w' := H
    rw [List.cons_append, List.append_assoc] at H
    exact ⟨hrest H.tail, hl w' fun f hf => H.mem (List.mem_cons_of_mem _ (List.mem_append_left _ hf))⟩
  /- one append of m tails, behind the a of a list -/
  have step : ∀ (k a m : Nat) (Ag : Option Addr) (cg : Nat) (X Y : List Fct) (w2 w3 : World) (A' : Option Addr) (c' b2 : Nat) (F : Option Addr → Nat → Nat → World → Prop), 0 < m → m ≤ 70 → a ≤ 70 → Grown b 5 1 r.A r.c r.n (reps r.n (mkB j)) (tlB j) k a Ag cg X → Sep (bs k :: (X ++ (Y ++ Γ1))) w2 → w2.heap.size ≤ b2 →
      Sep [Fct.rest w2 None, Fct.own b2 5 1 (.slice A' m c') m (reps m (tlB j))] w3 →
      (∀ (k' : Nat) (A2 : Option Addr) (c2 : Nat) (X' : List Fct) (w' : World), k ≤ k' → Grown b 5 1 r.A r.c r.n (reps r.n (mkB j)) (tlB j) k' (a + m) A2 c2 X' → Sep (bs k' :: (X' ++ (Y ++ Γ1))) w' → F A2 (r.n + (a + m)) c2 w') →
      AppVC Tryd.prog #[22, 22] 22 (.slice Ag (r.n + a) cg) (.slice A' m c') w3 F := by
    intro k a m Ag cg X Y w2 w3 A' c' b2 F hm hm70 ha hG H _ Ht hF
    have H3 := H.mades Ht
    have hz3 : b ≤ w3.heap.size := by
      have h1 := inΓ (Y := bs k :: (X ++ Y)) (w' := w2) (by rw [List.cons_append, List.append_assoc]; exact H)
      have h2 := (Ht.restOf 0 rfl).size
      omega
    have H3 : Sep (bs k :: (X ++ ((Y ++ Γ1) ++ [Fct.own b2 5 1 (.slice A' m c') m (reps m (tlB j))]))) w3 := by
      rw [List.cons_append, List.append_assoc] at H3
      exact H3
    rw [hbs] at H3
    refine AppVC.grown hG H3 Tryd.underlying22 tB rfl (by decide) (by rw [reps_len]; rfl) rfl (fun v hv => by simp [tlB] at hv; subst hv; rfl) (own_cells (Ht.own 1 rfl)) hm (by omega) (by decide) hz3 fun k' A2 c2 X' w7 hk' hG' H7 => ?_
    refine hF k' A2 c2 X' w7 hk' hG' ?_
    have H7 : Sep ((bs k' :: (X' ++ (Y ++ Γ1))) ++ [Fct.own b2 5 1 (.slice A' m c') m (reps m (tlB j))]) w7 := by
      rw [List.cons_append, List.append_assoc, hbs]; exact H7
    exact H7.dropEnd
  have hjj : j ≤ 4000000000000 := by omega
  refine DrawVC.sep H (fun w' => Cells w' lA (rows.map GR.val)) fun w5 H => ?_
  have hS := (inΓ (Y := [bs 0]) H).2
  refine ⟨hS, idx_rowsD (S := fun w' => Cells w' lA (rows.map GR.val)) hS (fun w' h => h) hr hlen fun a ha => ⟨_, _, _, ha, ?_⟩⟩
  refine (tail_spec (n := 1) hjj (by decide)).mono ?_
  rintro _ w6 ⟨T1, t1, rfl, Ht1⟩
  refine ⟨_, _, _, rfl, (inΓ (Y := [bs 0]) (H.ext (Ht1.restOf 0 rfl))).2, ?_⟩
  refine step 0 0 1 r.A r.c [] [] w5 w6 T1 t1 _ _ (by decide) (by decide) (by decide) (.base (Nat.le_refl _)) H (Nat.le_refl _) Ht1 fun k1 A1 c1 X1 w7 _ hG1 H => ?_
  have H : Sep (bs k1 :: (X1 ++ Γ1)) w7 := H
  refine ⟨(inΓ (Y := bs k1 :: X1) H).2, DrawVC.sep H (fun w' => Cells w' lA (rows.map GR.val)) fun w8 H => ?_⟩
  have hS := (inΓ (Y := bs k1 :: X1) H).2
  refine ⟨hS, idx_rowsD (S := fun w' => Cells w' lA (rows.map GR.val)) hS (fun w' h => h) hr hlen fun a ha => ⟨_, _, _, ha, ?_⟩⟩
  refine (tail_spec (n := 2) hjj (by decide)).mono ?_
  rintro _ w9 ⟨T2, t2, rfl, Ht2⟩
  refine ⟨_, _, _, rfl, (inΓ (Y := bs k1 :: X1) (H.ext (Ht2.restOf 0 rfl))).2, ?_⟩
  refine step k1 0 2 r.A r.c [] X1 w8 w9 T2 t2 _ _ (by decide) (by decide) (by decide) (.base (Nat.zero_le _)) H (Nat.le_refl _) Ht2 fun k2 A2 c2 X2 w10 hk2 hG2 H => ?_
  have H : Sep (bs k2 :: ([] ++ ((X2 ++ X1) ++ Γ1))) w10 := by rw [List.append_assoc]; exact H
  have hS := (inΓ (Y := bs k2 :: (X2 ++ X1)) H).2
  refine ⟨hS, idx_rows hS hr hlen fun a ha => ⟨_, _, _, ha, ?_⟩⟩
  refine LoopVC.of (fun st w' => ∃ (a k : Nat) (X : List Fct), st.2 = (a : Int) ∧ a ≤ 70 ∧ k2 ≤ k ∧ st.1.2.1 = r.n + a ∧ Grown b 5 1 r.A r.c r.n (reps r.n (mkB j)) (tlB j) k a st.1.1 st.1.2.2 X ∧ Sep (bs k :: (X ++ ((X2 ++ X1) ++ Γ1))) w') (fun st _ => ((70 : Int) - st.2).toNat)
    ⟨0, k2, [], rfl, by decide, Nat.le_refl _, rfl, .base (Nat.zero_le _), H⟩ ?_
  rintro ⟨⟨gA, gn, gc⟩, _⟩ w11 ⟨a, k, X, rfl, haT, hk, hgn, hG, H⟩
  simp only at hgn hG
  subst hgn
  show weirlaw7_filled_L125242 _ LA (3 * j) Lc (j : Int) _ A1 (r.n + (0 + 1)) c1 A2 (r.n + (0 + 2)) c2 gA (r.n + a) gc (a : Int) w11 _
  unfold weirlaw7_filled_L125242
  refine Br.dec (fun ha1 => ?_) fun ha1 => ?_
  · have e2 : IntKind.i64.wrap ((a : Int) + 1) = ((a + 1 : Nat) : Int) := by rw [w64 (by omega) (by omega)]; omega
    refine (tail_spec (n := 1) hjj (by decide)).mono ?_
    rintro _ w12 ⟨T3, t3, rfl, Ht3⟩
    refine ⟨_, _, _, rfl, ?_⟩
    rw [e2]
    refine step k a 1 gA gc X (X2 ++ X1) w11 w12 T3 t3 _ _ (by decide) (by decide) haT hG H (Nat.le_refl _) Ht3 fun k' A3 c3 X' w13 hk' hG' H => ?_
    exact ⟨⟨a + 1, k', X', rfl, by omega, by omega, rfl, hG', H⟩, by simp only; omega⟩
  · have haT' : a = 70 := by omega
    subst haT'
    refine NewVC.sep H fun g1 w14 H => ?_
    obtain ⟨news, hnews⟩ : ∃ news : List GR, news = [⟨A1, r.n + 1, c1, []⟩, ⟨A2, r.n + 2, c2, []⟩, ⟨gA, r.n + 70, gc, []⟩] := ⟨_, rfl⟩
    have hz14 : w0.heap.size ≤ w14.heap.size := (inΓ (Y := bs k :: (X ++ (X2 ++ X1))) (w' := w14) (by
      have := H.dropEnd
      rw [List.cons_append, List.append_assoc]; exact this)).1
    have H : Sep ((bs k :: (X ++ (X2 ++ X1))) ++ Fct.own b 22 1 (.slice LA (3 * j) Lc) (3 * j) (gs.map GR.val) :: ((Γ0 ++ (D ++ R)) ++ [Fct.blk g1 22 (news.map GR.val)])) w14 := by
      have e : (bs k :: (X ++ (X2 ++ X1))) ++ Fct.own b 22 1 (.slice LA (3 * j) Lc) (3 * j) (gs.map GR.val) :: ((Γ0 ++ (D ++ R)) ++ [Fct.blk g1 22 (news.map GR.val)]) = (bs k :: (X ++ ((X2 ++ X1) ++ Γ1))) ++ [Fct.blk g1 22 (news.map GR.val)] := by
        rw [hΓ1]; simp
      rw [e, hnews]; exact H
    have H := H.mid
    have hsrc : Cells w14 (some ⟨g1, 0, none⟩) (news.map GR.val) := Cells.blk0 (H.mem (f := Fct.blk g1 22 (news.map GR.val)) (by simp))
    have hone : ∀ v ∈ news.map GR.val, v.oneCell' = true := fun v hv => by obtain ⟨g, _, rfl⟩ := List.mem_map.1 hv; rfl
    refine AppVC.sep (m := 3) H 0 Tryd.underlying60 tSl rfl (by decide) rfl hsrc (by rw [hnews]; rfl) hone (by omega) (by decide) (by omega) fun A4 c4 w15 H9 _ => ?_
    have H9 : Sep (Fct.own b 22 1 (.slice A4 (3 * j + 3) c4) (3 * j + 3) (gs.map GR.val ++ news.map GR.val) :: ((bs k :: (X ++ (X2 ++ X1))) ++ ((Γ0 ++ (D ++ R)) ++ [Fct.blk g1 22 (news.map GR.val)]))) w15 := H9
    rw [← List.append_assoc, ← List.cons_append] at H9
    have H9 := H9.dropEnd
    refine ⟨⟨j + 1, D ++ (bs k :: (X ++ (X2 ++ X1))), gs ++ news, e1, by omega, by rw [hnews]; simp [hgl]; omega, rfl, ?_, ?_⟩, by simp only [e1]; omega⟩
    · intro w2 hf q r' hq hr'
      rcases Nat.lt_or_ge q j with hqj | hqj
      · obtain ⟨h1, h2⟩ := hst w2 (fun f hf' => hf f (List.mem_append_left _ hf')) q r' hqj hr'
        refine ⟨h1, fun d hd => ?_⟩
        obtain ⟨g, hg, r2⟩ := h2 d hd
        exact ⟨g, by rw [List.getElem?_append_left (by omega)]; exact hg, r2⟩
      · have hqj : q = j := by omega
        subst hqj
        rw [hr] at hr'; injection hr' with hr'; subst hr'
        have hbase : (baseR b 5 1 r.A r.c r.n (reps r.n (mkB q)) (tlB q) k).φ w2 := by
          have := hf _ (List.mem_append_right D (List.mem_cons_self (a := bs k) (l := X ++ (X2 ++ X1))))
          rw [hbs] at this; exact this
        have hX : ∀ f ∈ X ++ (X2 ++ X1), f.φ w2 := fun f hfX => hf f (List.mem_append_right _ (List.mem_cons_of_mem _ hfX))
        refine ⟨?_, fun d hd => ?_⟩
        · have := base_cells (m := 0) hbase (Nat.zero_le _)
          rwa [reps_zero, List.append_nil] at this
        · have hgd : (gs ++ news)[3 * q + d]? = news[d]? := by rw [List.getElem?_append_right (by omega), hgl]; congr 1; omega
          rw [hgd, hnews]
          match d, hd with
          | 0, _ => exact ⟨_, rfl, rfl, (hG1.more (by omega)).cells hbase fun f hf => hX f (List.mem_append_right _ (List.mem_append_right _ hf))⟩
          | 1, _ => exact ⟨_, rfl, rfl, (hG2.more (by omega)).cells hbase fun f hf => hX f (List.mem_append_right _ (List.mem_append_left _ hf))⟩
          | 2, _ => exact ⟨_, rfl, rfl, hG.cells hbase fun f hf => hX f (List.mem_append_left _ hf)⟩
    · rw [List.map_append]
      refine H9.perm (.cons _ ?_)
      rw [← hR]
      exact perm_unfocus
/-- What lies at a place of a list that was lengthened. -/
theorem reads_at {A : Option Addr} {n t i j m : Nat} (h : Cells w A (reps n (mkB i) ++ reps t (tlB i))) (hm : n + t = m) (hj : j < m) {F : Addr → Prop} (hF : ∀ a, w.cell? a = some (.int .u8 (if n ≤ j then tlI i else mkI i)) → F a) : IdxVC A m 1 (j : Int) F := by
  have e : reps n (mkB i) ++ reps t (tlB i) = (List.replicate n (mkI i) ++ List.replicate t (tlI i)).map (Value.int .u8) := by
    rw [List.map_append]; unfold mkB tlB; rw [reps_map, reps_map]
  rw [e] at h
  refine IdxVC.int h (by omega) (by omega) (by simp [hm]) fun a ha => hF a ?_
  rw [ha, Int.toNat_natCast, List.getD_eq_getElem?_getD]
  by_cases hjn : n ≤ j
  · rw [if_pos hjn, List.getElem?_append_right (by simpa using hjn), List.getElem?_replicate, if_pos (by simp; omega)]; rfl
  · rw [if_neg hjn, List.getElem?_append_left (by simp; omega), List.getElem?_replicate, if_pos (by omega)]; rfl
set_option maxHeartbeats 4000000 in
theorem stand_spec {MA : Option Addr} {mn mc : Nat} {gs : List GR} (hl : Cells w lA (rows.map GR.val)) (hm : Cells w MA (gs.map GR.val)) (hlen : rows.length = ln) (hml : gs.length = mn) (hsm : ln ≤ 1900000000000) (hn : ∀ r ∈ rows, r.n ≤ 4000000) (hS : ReadsB w rows gs) :
    Calls Tryd.prog 31 #[.slice lA ln lc, .slice MA mn mc] w fun e w' => w' = w ∧ e = .returned (.bool true) := by
  refine weirlaw7_stand_of lA ln lc MA mn mc w _ ?_
  unfold weirlaw7_stand_VC
  refine LoopVC.of (fun st w' => w' = w ∧ ∃ i : Nat, st = (i : Int) ∧ i ≤ ln) (fun st _ => ((ln : Int) - st).toNat) ⟨rfl, 0, rfl, Nat.zero_le _⟩ ?_
  rintro _ w1 ⟨hw, i, rfl, hi⟩
  subst w1
  show weirlaw7_stand_L26 _ lA ln MA mn (i : Int) w _
  unfold weirlaw7_stand_L26
  refine Br.dec (fun hlt => ?_) fun hge => ⟨rfl, rfl⟩
  obtain ⟨r, hr⟩ : ∃ r, rows[i]? = some r := ⟨_, List.getElem?_eq_getElem (by omega)⟩
  have hrn := hn _ (List.mem_of_getElem? hr)
  obtain ⟨hb, hd⟩ := hS i r hr
  obtain ⟨q0, hq0, n0, c0⟩ := hd 0 (by decide)
  obtain ⟨q1, hq1, n1, c1⟩ := hd 1 (by decide)
  obtain ⟨q2, hq2, n2, c2⟩ := hd 2 (by decide)
  have e3 : IntKind.i64.wrap (3 * (i : Int)) = ((3 * i + 0 : Nat) : Int) := by rw [w64 (by omega) (by omega)]; omega
  have e31 : IntKind.i64.wrap (((3 * i + 0 : Nat) : Int) + 1) = ((3 * i + 1 : Nat) : Int) := by rw [w64 (by omega) (by omega)]; omega
  have e32 : IntKind.i64.wrap (((3 * i + 0 : Nat) : Int) + 2) = ((3 * i + 2 : Nat) : Int) := by rw [w64 (by omega) (by omega)]; omega
  have e33 : IntKind.i64.wrap (((3 * i + 0 : Nat) : Int) + 3) = ((3 * i + 3 : Nat) : Int) := by rw [w64 (by omega) (by omega)]; omega
  have er : ∀ d : Nat, d ≤ 70 → IntKind.i64.wrap ((r.n : Int) + (d : Int)) = ((r.n + d : Nat) : Int) := fun d hd => by rw [w64 (by omega) (by omega)]; omega
  have e1 : IntKind.i64.wrap ((i : Int) + 1) = ((i + 1 : Nat) : Int) := by rw [w64 (by omega) (by omega)]; omega
  rw [e3, e31, e32]
  refine idx_rows hl hr hlen fun a ha => ⟨_, _, _, ha, ?_⟩
  refine idx_rows hm hq0 hml fun a ha => ⟨_, _, _, ha, Br.no (fun x => x (by rw [n0]; exact (er 1 (by decide)).symm)) ?_⟩
  refine idx_rows hm hq1 hml fun a ha => ⟨_, _, _, ha, Br.no (fun x => x (by rw [n1]; exact (er 2 (by decide)).symm)) ?_⟩
  refine idx_rows hm hq2 hml fun a ha => ⟨_, _, _, ha, Br.no (fun x => x (by rw [n2]; exact (er 70 (by decide)).symm)) ?_⟩
  refine LoopVC.of (fun st w' => w' = w ∧ ∃ d : Nat, st = ((3 * i + d : Nat) : Int) ∧ d ≤ 3) (fun st _ => ((3 * i + 3 : Nat) - st : Int).toNat) ⟨rfl, 0, rfl, by decide⟩ ?_
  rintro _ w2 ⟨hw, d, rfl, hd3⟩
  subst w2
  show weirlaw7_stand_L6734 _ lA ln MA mn (i : Int) _ r.n ((3 * i + d : Nat) : Int) w _
  unfold weirlaw7_stand_L6734
  rw [e3, e33]
  refine Br.dec (fun hk => ?_) fun hk => ?_
  rotate_left
  · rw [e1]
    exact ⟨⟨rfl, i + 1, rfl, by omega⟩, by omega⟩
  obtain ⟨g, hg, hgn, hgc⟩ := hd d (by omega)
  have htc : tC d ≤ 70 := by unfold tC; split <;> decide
  have ek : IntKind.i64.wrap (((3 * i + d : Nat) : Int) + 1) = ((3 * i + (d + 1) : Nat) : Int) := by rw [w64 (by omega) (by omega)]; omega
  refine LoopVC.of (fun st w' => w' = w ∧ ∃ j : Nat, st = (j : Int) ∧ j ≤ g.n) (fun st _ => ((g.n : Int) - st).toNat) ⟨rfl, 0, rfl, Nat.zero_le _⟩ ?_
  rintro _ w3 ⟨hw, j, rfl, hj⟩
  subst w3
  show weirlaw7_stand_L430994 _ lA ln MA mn (i : Int) r.n ((3 * i + d : Nat) : Int) _ (j : Int) w _
  unfold weirlaw7_stand_L430994
  rw [tl_val (i := i) (by omega), mk_val (i := i) (by omega)]
  refine idx_rows hm hg hml fun a ha => ⟨_, _, _, ha, Br.dec (fun hjn => ?_) fun hjn => ?_⟩
  rotate_left
  · rw [ek]
    exact ⟨⟨rfl, d + 1, rfl, by omega⟩, by omega⟩
  have ej : IntKind.i64.wrap ((j : Int) + 1) = ((j + 1 : Nat) : Int) := by rw [w64 (by omega) (by omega)]; omega
  refine JoinVC.of (fun m w' => w' = w ∧ m = if r.n ≤ j then tlI i else mkI i) ?_ ?_
  · exact Br.dec (fun h => ⟨rfl, by rw [if_pos (by omega)]⟩) fun h => ⟨rfl, by rw [if_neg (by omega)]⟩
  rintro m w4 ⟨hw, hmv⟩
  subst w4
  unfold weirlaw7_stand_J13791817
  refine idx_rows hm hg hml fun a ha => ⟨_, _, _, ha, ?_⟩
  refine reads_at hgc hgn.symm (by omega) fun a ha => ⟨_, ha, Br.no (fun x => x hmv.symm) ?_⟩
  rw [ej]
  refine Br.dec (fun hjr => ?_) fun hjr => ⟨⟨rfl, j + 1, rfl, by omega⟩, by omega⟩
  refine idx_rows hl hr hlen fun a ha => ⟨_, _, _, ha, ?_⟩
  refine reads_at (t := 0) (by rw [reps_zero, List.append_nil]; exact hb) (Nat.add_zero _) (by omega) fun a ha => ⟨_, ha, Br.no (fun x => x ?_) ⟨⟨rfl, j + 1, rfl, by omega⟩, by omega⟩⟩
  exact hmv.symm
end
end N6
end Go.Proofs.YtkiogaglmjeplaaDoor
/- Layer 7: what Parse hands out, its memory in parts; the runs of padding. -/
namespace Go.Eng
open Go Go.RowKit
def grB (s : Sl) (l : List Int) : GR := ⟨s.A, s.n, s.k, l.map (.int .u8)⟩
def padO (l : List OptR) : List GR := (l.filter fun o => decide (o.v.kind = 0)).map fun o => grB o.v.data o.data
def padG (xs : List ExtR) : List GR := xs.flatMap fun x => padO x.opts
end Go.Eng
namespace Go.Proofs.YtkiogaglmjeplaaDoor
namespace N6
open Go.Eng Go.RowKit
section
variable {w : World} {Γ : List Fct} {b : Nat} {s : Sl} {l : List Int}
theorem bytes_raw (s : Sl) (l : List Int) : (∀ w, (rowB b s l).φ w → (rawR b 5 1 (grB s l)).φ w) ∧ ∀ k, (rawR b 5 1 (grB s l)).R k → (rowB b s l).R k := own_le_row (A := s.A) (n := s.n) (c := s.k) (Nat.le_refl b)
theorem opts_raw (s : Sl) (rs : List OptR) : (∀ w, (rowO b s rs).φ w → (rawR b 65 2 ⟨s.A, s.n, s.k, (rs.map fun r => r.v.cells).flatten⟩).φ w) ∧ ∀ k, (rawR b 65 2 ⟨s.A, s.n, s.k, (rs.map fun r => r.v.cells).flatten⟩).R k → (rowO b s rs).R k := own_le_row (A := s.A) (n := s.n) (c := s.k) (Nat.le_refl b)
theorem pads_one : ∀ (l : List OptR) {Γ : List Fct}, Sep (Γ ++ l.map (padF b)) w → Sep (Γ ++ (padO l).map (rawR b 5 1)) w
  | [], _, H => H
  | o :: l, Γ, H => by
    have H : Sep (Γ ++ (padF b o :: l.map (padF b))) w := H
    have H := pads_one l (Γ := Γ ++ [padF b o]) (by rw [List.append_assoc]; exact H)
    by_cases hk : o.v.kind = 0
    · have e : padO (o :: l) = grB o.v.data o.data :: padO l := by unfold padO; simp [hk]
      have e2 : padF b o = rowB b o.v.data o.data := by unfold padF; rw [if_pos hk]
      rw [e, List.map_cons]
      rw [e2] at H
      have H := (((AllLe.refl Γ).append (.cons (bytes_raw o.v.data o.data).1 (bytes_raw o.v.data o.data).2 .nil)).append (AllLe.refl _)).sep H
      rw [List.append_assoc] at H
      exact H
    · have e : padO (o :: l) = padO l := by unfold padO; simp [hk]
      rw [e]
      exact H.sub ((List.sublist_append_left Γ _).append (List.Sublist.refl _))
def famO7 (b : Nat) (xs : List ExtR) : List Fct := xs.map fun x => rawR b 65 2 ⟨x.v.opts.A, x.v.opts.n, x.v.opts.k, (x.opts.map fun r => r.v.cells).flatten⟩
theorem read_pads : ∀ (xs : List ExtR) {Γ : List Fct}, Sep (Γ ++ xs.flatMap (readX1 b)) w → Sep (Γ ++ (famO7 b xs ++ (padG xs).map (rawR b 5 1))) w
  | [], _, H => H
  | x :: xs, Γ, H => by
    have H : Sep (Γ ++ (rowO b x.v.opts x.opts :: x.opts.map (padF b) ++ xs.flatMap (readX1 b))) w := H
    obtain ⟨F, hF⟩ : ∃ F, F = xs.flatMap (readX1 b) := ⟨_, rfl⟩
    rw [← hF] at H
    have H := pads_one (b := b) x.opts (Γ := Γ ++ (F ++ [rowO b x.v.opts x.opts])) (H.perm (perm_cnt fun c o h1 h2 h3 => by simp only [h1, h2, h3]; omega))
    have H := ((((AllLe.refl Γ).append ((AllLe.refl F).append (.cons (opts_raw x.v.opts x.opts).1 (opts_raw x.v.opts x.opts).2 .nil)))).append (AllLe.refl _)).sep H
    obtain ⟨O, hO⟩ : ∃ O, O = rawR b 65 2 ⟨x.v.opts.A, x.v.opts.n, x.v.opts.k, (x.opts.map fun r => r.v.cells).flatten⟩ := ⟨_, rfl⟩
    obtain ⟨Y, hY⟩ : ∃ Y, Y = (padO x.opts).map (rawR b 5 1) := ⟨_, rfl⟩
    rw [← hO, ← hY] at H
    have H := read_pads xs (Γ := Γ ++ (O :: Y)) (by
      rw [← hF]
      exact H.perm (perm_cnt fun c o h1 h2 h3 => by simp only [h1, h2, h3]; omega))
    have e1 : famO7 b (x :: xs) = O :: famO7 b xs := by rw [hO]; rfl
    have e2 : (padG (x :: xs)).map (rawR b 5 1) = Y ++ (padG xs).map (rawR b 5 1) := by
      rw [hY]
      show (padO x.opts ++ padG xs).map _ = _
      rw [List.map_append]
    rw [e1, e2]
    exact H.perm (perm_cnt fun c o h1 h2 h3 => by simp only [h1, h2]; omega)
/-- What Parse hands back, and its memory. -/
theorem ParseRead.parts (hB : BytesAt w s l) (hb : b ≤ w.heap.size) (H0 : Sep Γ w) {e : Ending} {w' : World} (h : ParseRead w s l e w') : ∃ (h : Ip6V) (xs : List ExtR) (data : List Int), e = .returned (.tuple #[h.val, .int .i64 (parsed l).2]) ∧ h.d xs data = (parsed l).1 ∧
    Sep (Γ ++ readX b h.exts xs) w' ∧ h.exts.n = xs.length ∧ xs.length ≤ 8 ∧ ∀ w'', BytesAt w'' s l → (∀ f ∈ readX b h.exts xs, f.φ w'') → Ip6At w'' h xs data := by
  obtain ⟨h, xs, H, hn, hm⟩ := h
  have H1 := H0.mades ((AllLe.append (AllLe.refl [Fct.rest w None]) (readX_less hb)).sep H)
  unfold parsed
  cases hp : parseS l with
  | error er =>
    rw [hp] at hm
    obtain ⟨rfl, rfl, rfl, he⟩ := hm
    exact ⟨Ip6V.z, [], [], rfl, rfl, H1, rfl, Nat.zero_le _, fun w'' _ _ => Ip6At.z _⟩
  | ok t =>
    rw [hp] at hm
    obtain ⟨rfl, h40, hA, hd, h1, h2, h3, h4, h5, h6, h7⟩ := hm
    have hwl : (bpart l 40 (lenP l)).length = lenP l := bpart_len h40
    have hp' : walkS (bpart l 40 (lenP l)) (l.getD 6 0) false = .ok t := by
      unfold parseS at hp
      split at hp
      · cases hp
      · split at hp
        · cases hp
        · split at hp
          · cases hp
          · split at hp
            · cases hp
            · exact hp
    obtain ⟨i1, i2, i3, i4⟩ := walkS_inside (hB.win (p := 40) (n := lenP l) h40).bts (getD_byte hB.bts 6) hp'
    have hdl : bpart (bpart l 40 (lenP l)) t.p (lenP l - t.p) = (bpart l 40 (lenP l)).drop t.p := by
      have := bpart_end i2
      rwa [hwl] at this
    have hal := hA.len
    refine ⟨h, xs, (bpart l 40 (lenP l)).drop t.p, rfl, ?_, H1, hn, by omega, fun w'' hB'' hf => ⟨?_, ?_, ?_, ?_⟩⟩
    · unfold Ip6V.d Tail6.d
      rw [hA.map_eq fun x r h => h.d, h1, h2, h3, h4, h5, h6, h7]
      rfl
    · exact extsAt_read hf (hB''.win (p := 40) (n := lenP l) h40) hA i1 hn.symm (by omega)
    · have hdata := (hB''.win (p := 40) (n := lenP l) h40).win (p := t.p) (n := lenP l - t.p) (by omega)
      rw [hdl] at hdata
      rw [hd]; exact hdata
    · rw [h4]; intro x hx
      have e := ipOf_back (v := 6) (l := bpart l 8 16) (bpart_len (by omega))
      rw [e] at hx
      exact (hB.bts.drop _).take _ x hx
    · rw [h5]; intro x hx
      have e := ipOf_back (v := 6) (l := bpart l 24 16) (bpart_len (by omega))
      rw [e] at hx
      exact (hB.bts.drop _).take _ x hx
end
end N6
end Go.Proofs.YtkiogaglmjeplaaDoor
/- Ip6Own: what is no window is the caller's own. -/
namespace Go.Eng
open Go Go.RowKit
section
variable {w w' : World} {M : Nat → Prop}
end
/-- The headers and the lists of options, as they are changed. -/
structure Bend (vs : List ExtV) (os : List GR) (n : Nat) : Prop where
  lv : vs.length = n
  lo : os.length = n
  at_ : ∀ (j : Nat) (v : ExtV) (o : GR), vs[j]? = some v → os[j]? = some o → o.A = v.opts.A ∧ o.n = v.opts.n ∧ o.c = v.opts.k
  small : ∀ v ∈ vs, v.opts.n ≤ 4000000
theorem Bend.next {vs : List ExtV} {os : List GR} {n i : Nat} {v : ExtV} {o o' : GR} {k : Int} (h : Bend vs os n) (hv : vs[i]? = some v) (ho : os[i]? = some o) (e : o'.A = o.A ∧ o'.n = o.n ∧ o'.c = o.c) : Bend (vs.set i { v with kind := k }) (os.set i o') n := by
  refine ⟨by rw [List.length_set]; exact h.lv, by rw [List.length_set]; exact h.lo, fun j u q hu hq => ?_, fun u hu => ?_⟩
  · have hvi := (List.getElem?_eq_some_iff.1 hv).1
    have hoi := (List.getElem?_eq_some_iff.1 ho).1
    obtain ⟨a1, a2, a3⟩ := h.at_ i v o hv ho
    by_cases hj : i = j
    · subst hj
      rw [List.getElem?_set_self hvi] at hu
      rw [List.getElem?_set_self hoi] at hq
      injection hu with hu
      injection hq with hq
      subst hu; subst hq
      exact ⟨e.1.trans a1, e.2.1.trans a2, e.2.2.trans a3⟩
    · rw [List.getElem?_set_ne hj] at hu hq
      exact h.at_ j u q hu hq
  · rcases List.mem_or_eq_of_mem_set hu with hu | hu
    · exact h.small u hu
    · subst hu; exact h.small v (List.mem_of_getElem? hv)
end Go.Eng
namespace Go.Proofs.YtkiogaglmjeplaaDoor
namespace N6
open Go.Eng Go.RowKit
section
variable {w w' : World} {Γ : List Fct} {b : Nat} {s : Sl} {l : List Int}
theorem row_less {b' e size n c : Nat} {A : Option Addr} {xs : List Value} (h : b' ≤ b) : (∀ w, (Fct.row b e size A c n xs).φ w → (Fct.row b' e size A c n xs).φ w) ∧ ∀ k, (Fct.row b' e size A c n xs).R k → (Fct.row b e size A c n xs).R k := ⟨fun _ h' => Row.low h' h, fun _ h => h⟩
theorem Made.more {r : List Int × Int} {e : Ending} (H : Sep Γ w) (hb : b ≤ w.heap.size) (h : Made w r e w') : ∃ A c, e = .returned (.tuple #[.slice A r.1.length c, .int .i64 r.2]) ∧ Sep (Γ ++ [rawR b 5 1 (grB ⟨A, r.1.length, c⟩ r.1)]) w' := by
  obtain ⟨A, c, rfl, H'⟩ := h
  have H' := (AllLe.append (AllLe.refl [Fct.rest w None]) (.cons (row_less hb).1 (row_less hb).2 .nil)).sep (H'.ownRow 1 rfl)
  exact ⟨A, c, rfl, H.mades H'⟩
theorem MadeW.more {r : List Int × Int} {e : Ending} (H : Sep Γ w) (hb : b ≤ w.heap.size) (h : MadeW w r e w') : ∃ A c, e = .returned (.tuple #[.slice A r.1.length c, .int .i64 r.2]) ∧ Sep (Γ ++ [rawR b 5 1 (grB ⟨A, r.1.length, c⟩ r.1)]) w' := by
  obtain ⟨A, c, rfl, H'⟩ := h
  have H' := (AllLe.append (AllLe.refl [Fct.rest w None]) (.cons (row_less hb).1 (row_less hb).2 .nil)).sep (H'.winRow 1 rfl)
  exact ⟨A, c, rfl, H.mades H'⟩
theorem bytesAt_raw (h : (rawR b 5 1 (grB s l)).φ w) (hl : l.length = s.n) (hs : s.n ≤ 4000000) (hB : Bts l) : BytesAt w s l := ⟨hl, Row.le h, hs, hB, Row.cells h⟩
/-- Bytes are copied into new memory. -/
theorem copy_new {w0 : World} (H : Sep (Fct.rest w0 None :: Γ) w) (hb : b ≤ w0.heap.size) (hB : BytesAt w s l) {F : Option Addr → Nat → Nat → World → Prop} (hF : ∀ A c w', Sep (Fct.rest w0 None :: (Γ ++ [rowB b ⟨A, s.n, c⟩ l])) w' → F A s.n c w') :
    NewVC w (.cells #[] 5) fun g w1 => AppVC Tryd.prog #[22, 22] 22 (.slice (some ⟨g, 0, none⟩) 0 0) (.slice s.A s.n s.k) w1 F := by
  refine NewVC.sepE (cs := []) H fun g w1 hE H => ?_
  have H := H.front
  have hz := (H.restOf 1 rfl).size
  have hg := H.fresh 1 0 (by decide) rfl rfl
  have H := H.blkOwn 0 rfl (b := b) (n := 0) (c := 0) (Nat.le_trans hb hg) rfl (Nat.le_refl _) (by decide)
  have hs := hB.small
  refine appB (m := s.n) (xs := []) (ys := l) H 0 rfl (hB.ext hE).cells hB.len (by omega) (by omega) fun A2 c2 w8 H hc2 => ?_
  rw [Nat.zero_add] at H ⊢
  have H : Sep (rowB b ⟨A2, s.n, c2⟩ l :: Fct.rest w0 None :: Γ) w8 := H
  exact hF A2 c2 w8 (H.perm (perm_cnt fun c o h1 h2 h3 => by simp only [h1, h2, h3]; omega))
end
end N6
end Go.Proofs.YtkiogaglmjeplaaDoor
/- Ip6Own: the law. -/
namespace Go.Proofs.YtkiogaglmjeplaaDoor
namespace N6
open Go.Eng Go.RowKit
section
variable {w : World}
theorem clone_more {Γ : List Fct} {b : Nat} {w1 w' : World} {r : Ip6R} (H : Sep Γ w1) (hb : b ≤ w1.heap.size) (H' : Sep (Fct.rest w1 None :: rowB w1.heap.size r.v.data r.data :: extFs w1.heap.size r.v.exts r.exts) w') : Sep (Γ ++ (rowB b r.v.data r.data :: extFs b r.v.exts r.exts)) w' :=
  H.mades ((AllLe.append (AllLe.refl [Fct.rest w1 None]) (AllLe.cons (own_less hb).1 (own_less hb).2 (extFs_less hb))).sep H')
theorem clone_at {b : Nat} {w' : World} {r : Ip6R} (hf : Ip6Fine r) (h : ∀ f ∈ rowB b r.v.data r.data :: extFs b r.v.exts r.exts, f.φ w') : Ip6At w' r.v r.exts r.data :=
  ⟨extsAt_of (b := b) (fun f hm => h f (List.mem_cons_of_mem _ hm)) hf.exts, bytesAt_of (b := b) (h _ List.mem_cons_self) hf.data, hf.src, hf.dst⟩
end
end N6
end Go.Proofs.YtkiogaglmjeplaaDoor
