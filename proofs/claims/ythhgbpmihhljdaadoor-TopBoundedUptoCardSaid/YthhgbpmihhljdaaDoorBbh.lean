/- WRITTEN BY a program of this session (vc.py): for each Go function the condition that is enough for its contract, and the theorem that it is. -/
import Derived.Test.YthhgbpmihhljdaaDoorProg
import Derived.Test.YthhgbpmihhljdaaDoorBae
import Derived.Test.YthhgbpmihhljdaaDoorBbc
import Derived.Test.YthhgbpmihhljdaaDoorBag
import Derived.Test.YthhgbpmihhljdaaDoorBbg
import Derived.Test.YthhgbpmihhljdaaDoorRows
import Derived.WalkKit
import Derived.ProofKit
import Derived.OpenShut
import Derived.JoinedCond
import Derived.WideKeyArgs
import Derived.Test.YthhgbpmihhljdaaDoorBaf
import Derived.Test.YthhgbpmihhljdaaDoorBah
namespace Go.Proofs.YthhgbpmihhljdaaDoor
open Go.Eng
namespace N6

set_option maxRecDepth 100000 in
def weirtop_TopBounded_L16378 (R : Ending → World → Prop) (ticks : Int) (x0 : Option Addr) (g2 : Nat) (i2 : Int) (w16 : World) (K16378 : (Int → World → Prop)) : Prop :=
  Br (decide (i2 < ticks))
    (SetVC w16 ⟨g2, 4, none⟩ (.int .i64 (IntKind.i64.wrap (8 * i2))) fun w17 =>
  Ip4V.ex fun h2 => CellsAt w17 ⟨g2, 0, none⟩ 0 h2.cells ∧
  Calls Tryd.prog 5 #[.pointer x0, h2.val] w17 (onRet (fun r_8 w18 => Ip4V.ex fun h3 => ∃ x12 : Int, ∃ x21 : Int, r_8 = .tuple #[h3.val, .int .i64 x12, .int .i64 x21] ∧
  NewVC w18 (.cells (Ip4V.z : Ip4V).cells.toArray 35) fun g4 w19 =>
  Stores ⟨g4, 0, none⟩ 0 h3.cells w19 fun w20 =>
  Br (decide (x21 ≠ 0))
    (R (.returned (.bool false)) w20)
    (Br (decide (x12 ≠ 2))
      (R (.returned (.bool false)) w20)
      (Calls Tryd.prog 6 #[.pointer x0] w20 (onRet (fun r_9 w21 => ∃ x7 : Int, r_9 = .int .i64 x7 ∧
      Br (decide (x7 ≠ 1))
    (R (.returned (.bool false)) w21)
    (Calls Tryd.prog 9 #[.pointer x0] w21 (onRet (fun r_10 w22 => ∃ (xA1 : Option Addr) (xn1 xc1 : Nat), r_10 = .slice xA1 xn1 xc1 ∧
  K16378 (IntKind.i64.wrap (i2 + 1)) w22)
    (fun ch10 w22 => R (.panicked ch10) w22))))
        (fun ch9 w21 => R (.panicked ch9) w21)))))
    (fun ch8 w18 => R (.panicked ch8) w18)))
    (Calls Tryd.prog 6 #[.pointer x0] w16 (onRet (fun r_11 w23 => ∃ x8 : Int, r_11 = .int .i64 x8 ∧
  Br (decide (x8 = 0))
    (Calls Tryd.prog 7 #[.pointer x0] w23 (onRet (fun r_12 w24 => ∃ x9 : Int, r_12 = .int .i64 x9 ∧
    R (.returned (.bool (decide (x9 = 0)))) w24)
      (fun ch12 w24 => R (.panicked ch12) w24)))
    (R (.returned (.bool false)) w23))
    (fun ch11 w23 => R (.panicked ch11) w23)))
set_option maxRecDepth 100000 in
def weirtop_TopBounded_L4090 (R : Ending → World → Prop) (ticks : Int) (x0 : Option Addr) (g2 : Nat) (i1 : Int) (w11 : World) (K4090 : (Int → World → Prop)) : Prop :=
  Br (decide (i1 < ticks))
    (Calls Tryd.prog 9 #[.pointer x0] w11 (onRet (fun r_4 w12 => ∃ (xA : Option Addr) (xn xc : Nat), r_4 = .slice xA xn xc ∧
  K4090 (IntKind.i64.wrap (i1 + 1)) w12)
    (fun ch4 w12 => R (.panicked ch4) w12)))
    (Calls Tryd.prog 6 #[.pointer x0] w11 (onRet (fun r_5 w13 => ∃ x4 : Int, r_5 = .int .i64 x4 ∧
  Br (decide (x4 ≠ 0))
    (R (.returned (.bool false)) w13)
    (Calls Tryd.prog 7 #[.pointer x0] w13 (onRet (fun r_6 w14 => ∃ x5 : Int, r_6 = .int .i64 x5 ∧
    Br (decide (x5 ≠ 0))
      (R (.returned (.bool false)) w14)
      (Calls Tryd.prog 10 #[.pointer x0] w14 (onRet (fun r_7 w15 => ∃ x6 : Int, r_7 = .int .i64 x6 ∧
      Br (decide (x6 ≠ 0))
    (R (.returned (.bool false)) w15)
    (LoopVC (S := Int) (fun s_ w16 K16378 => weirtop_TopBounded_L16378 R ticks x0 g2 s_ w16 K16378) 0 w15))
        (fun ch7 w15 => R (.panicked ch7) w15))))
      (fun ch6 w14 => R (.panicked ch6) w14))))
    (fun ch5 w13 => R (.panicked ch5) w13)))
set_option maxRecDepth 100000 in
def weirtop_TopBounded_L4182634 (R : Ending → World → Prop) (gapsA : Option Addr) (gapsn : Nat) (x0 : Option Addr) (i : Int) (J130707 : (Unit → World → Prop)) (k : Int) (w31 : World) (K4182634 : (Int → World → Prop)) : Prop :=
  IdxVC gapsA gapsn 1 i fun a4 =>
  ∃ x16 : Int, w31.cell? a4 = some (.int .i64 x16) ∧
  Br (decide (k < x16))
    (Calls Tryd.prog 9 #[.pointer x0] w31 (onRet (fun r_15 w32 => ∃ (xA2 : Option Addr) (xn2 xc2 : Nat), r_15 = .slice xA2 xn2 xc2 ∧
  K4182634 (IntKind.i64.wrap (k + 1)) w32)
    (fun ch15 w32 => R (.panicked ch15) w32)))
    (J130707 () w31)
set_option maxRecDepth 100000 in
def weirtop_TopBounded_J261414 (R : Ending → World → Prop) (gapsA : Option Addr) (gapsn : Nat) (x0 : Option Addr) (i : Int) (J130707 : (Unit → World → Prop)) (t128_ : Bool) (w30 : World) : Prop :=
  Br t128_
    (LoopVC (S := Int) (fun s_ w31 K4182634 => weirtop_TopBounded_L4182634 R gapsA gapsn x0 i J130707 s_ w31 K4182634) 0 w30)
    (J130707 () w30)
set_option maxRecDepth 100000 in
def weirtop_TopBounded_J130707 (R : Ending → World → Prop) (max : Int) (x0 : Option Addr) (i : Int) (K2042 : (Int → World → Prop))  (w33 : World) : Prop :=
  Calls Tryd.prog 6 #[.pointer x0] w33 (onRet (fun r_16 w34 => ∃ x17 : Int, r_16 = .int .i64 x17 ∧
  Br (decide (max < x17))
    (R (.returned (.bool false)) w34)
    (Calls Tryd.prog 6 #[.pointer x0] w34 (onRet (fun r_17 w35 => ∃ x18 : Int, r_17 = .int .i64 x18 ∧
    Br (decide (x18 < 0))
      (R (.returned (.bool false)) w35)
      (Calls Tryd.prog 7 #[.pointer x0] w35 (onRet (fun r_18 w36 => ∃ x19 : Int, r_18 = .int .i64 x19 ∧
      Br (decide (x19 < 0))
        (R (.returned (.bool false)) w36)
        (Calls Tryd.prog 10 #[.pointer x0] w36 (onRet (fun r_19 w37 => ∃ x20 : Int, r_19 = .int .i64 x20 ∧
        Calls Tryd.prog 6 #[.pointer x0] w37 (onRet (fun r_20 w38 => ∃ x24 : Int, r_20 = .int .i64 x24 ∧
        Br (decide (x24 < x20))
    (R (.returned (.bool false)) w38)
    (K2042 (IntKind.i64.wrap (i + 1)) w38))
          (fun ch20 w38 => R (.panicked ch20) w38)))
          (fun ch19 w37 => R (.panicked ch19) w37))))
        (fun ch18 w36 => R (.panicked ch18) w36))))
      (fun ch17 w35 => R (.panicked ch17) w35))))
    (fun ch16 w34 => R (.panicked ch16) w34))
set_option maxRecDepth 100000 in
def weirtop_TopBounded_J65353 (R : Ending → World → Prop) (max : Int) (gapsA : Option Addr) (gapsn : Nat) (x0 : Option Addr) (i : Int) (K2042 : (Int → World → Prop))  (w29 : World) : Prop :=
  JoinVC (S := Unit) (fun J130707 =>
      JoinVC (S := Bool) (fun J261414 =>
          Br (decide (i < (gapsn : Int)))
            (IdxVC gapsA gapsn 1 i fun a2 =>
            ∃ x10 : Int, w29.cell? a2 = some (.int .i64 x10) ∧
            Br (decide ((0 : Int) < x10))
              (IdxVC gapsA gapsn 1 i fun a3 =>
              ∃ x15 : Int, w29.cell? a3 = some (.int .i64 x15) ∧
              J261414 (decide (x15 < 5)) w29)
              (J261414 false w29))
            (J261414 false w29))
        (fun s_ w30 => weirtop_TopBounded_J261414 R gapsA gapsn x0 i J130707 s_ w30))
    (fun _ w33 => weirtop_TopBounded_J130707 R max x0 i K2042 w33)
set_option maxRecDepth 100000 in
def weirtop_TopBounded_J32676 (R : Ending → World → Prop) (max : Int) (sixA : Option Addr) (sixn : Nat) (gapsA : Option Addr) (gapsn : Nat) (x0 : Option Addr) (i : Int) (K2042 : (Int → World → Prop))  (w27 : World) : Prop :=
  JoinVC (S := Unit) (fun J65353 =>
      Br (decide (i < (sixn : Int)))
        (IdxVC sixA sixn 44 i fun a1 =>
        Ip6V.ex fun h6 => CellsAt w27 a1 0 h6.cells ∧
        Calls Tryd.prog 8 #[.pointer x0, h6.val] w27 (onRet (fun r_14 w28 => Ip6V.ex fun h7 => ∃ x14 : Int, ∃ x23 : Int, ∃ x31 : Int, r_14 = .tuple #[h7.val, .int .i64 x14, .int .i64 x23, .int .i64 x31] ∧
        J65353 () w28)
          (fun ch14 w28 => R (.panicked ch14) w28)))
        (J65353 () w27))
    (fun _ w29 => weirtop_TopBounded_J65353 R max gapsA gapsn x0 i K2042 w29)
set_option maxRecDepth 100000 in
def weirtop_TopBounded_J4084 (R : Ending → World → Prop) (max : Int) (fourA : Option Addr) (fourn : Nat) (sixA : Option Addr) (sixn : Nat) (gapsA : Option Addr) (gapsn : Nat) (x0 : Option Addr) (i : Int) (K2042 : (Int → World → Prop))  (w25 : World) : Prop :=
  JoinVC (S := Unit) (fun J32676 =>
      Br (decide (i < (fourn : Int)))
        (IdxVC fourA fourn 43 i fun a =>
        Ip4V.ex fun h4 => CellsAt w25 a 0 h4.cells ∧
        Calls Tryd.prog 5 #[.pointer x0, h4.val] w25 (onRet (fun r_13 w26 => Ip4V.ex fun h5 => ∃ x13 : Int, ∃ x22 : Int, r_13 = .tuple #[h5.val, .int .i64 x13, .int .i64 x22] ∧
        J32676 () w26)
          (fun ch13 w26 => R (.panicked ch13) w26)))
        (J32676 () w25))
    (fun _ w27 => weirtop_TopBounded_J32676 R max sixA sixn gapsA gapsn x0 i K2042 w27)
set_option maxRecDepth 100000 in
def weirtop_TopBounded_L2042 (R : Ending → World → Prop) (max : Int) (ticks : Int) (fourA : Option Addr) (fourn : Nat) (sixA : Option Addr) (sixn : Nat) (gapsA : Option Addr) (gapsn : Nat) (x0 : Option Addr) (g2 : Nat) (i : Int) (w10 : World) (K2042 : (Int → World → Prop)) : Prop :=
  JoinVC (S := Unit) (fun J4084 =>
      Br (decide (i < (fourn : Int)))
        (J4084 () w10)
        (Br (decide (i < (sixn : Int)))
        (J4084 () w10)
        (LoopVC (S := Int) (fun s_ w11 K4090 => weirtop_TopBounded_L4090 R ticks x0 g2 s_ w11 K4090) 0 w10)))
    (fun _ w25 => weirtop_TopBounded_J4084 R max fourA fourn sixA sixn gapsA gapsn x0 i K2042 w25)
set_option maxRecDepth 100000 in
def weirtop_TopBounded_VC (max : Int) (ticks : Int) (fourA : Option Addr) (fourn : Nat) (_fourc : Nat) (sixA : Option Addr) (sixn : Nat) (_sixc : Nat) (gapsA : Option Addr) (gapsn : Nat) (_gapsc : Nat) (w : World) (R : Ending → World → Prop) : Prop :=
  Br (decide (max < 1))
    (R (.returned (.bool true)) w)
    (Br (decide ((256 : Int) < max))
      (R (.returned (.bool true)) w)
      (Br (decide (ticks < 1))
        (R (.returned (.bool true)) w)
        (Br (decide ((200 : Int) < ticks))
    (R (.returned (.bool true)) w)
    (Calls Tryd.prog 4 #[.int .i64 max, .int .i64 ticks] w (onRet (fun r_ w1 => ∃ x0 : Option Addr, ∃ x1 : Int, r_ = .tuple #[.pointer x0, .int .i64 x1] ∧
  Br (decide (x1 ≠ 0))
    (R (.returned (.bool false)) w1)
    (Br x0.isNone
    (R (.returned (.bool false)) w1)
    (MakeVC w1 5 1 [.int .u8 0] 8 8 fun g1 w2 =>
  NewVC w2 (.cells (Ip4V.z : Ip4V).cells.toArray 35) fun g2 w3 =>
  Stores ⟨g2, 0, none⟩ 0 (⟨0, 65535, false, true, 0, 9, 253, (⟨4, 192, 0, 2, 1, 0, 0, 0, 0, 0, 0, 0, 0, 0, 0, 0, 0⟩ : IPV), (⟨4, 192, 0, 2, 2, 0, 0, 0, 0, 0, 0, 0, 0, 0, 0, 0, 0⟩ : IPV), ⟨none, 0, 0⟩, ⟨(some ⟨g1, 0, none⟩), 8, 8⟩⟩ : Ip4V).cells w3 fun w4 =>
  Ip4V.ex fun h => CellsAt w4 ⟨g2, 0, none⟩ 0 h.cells ∧
  Calls Tryd.prog 5 #[.pointer x0, h.val] w4 (onRet (fun r_1 w5 => Ip4V.ex fun h1 => ∃ x11 : Int, ∃ x2 : Int, r_1 = .tuple #[h1.val, .int .i64 x11, .int .i64 x2] ∧
  NewVC w5 (.cells (Ip4V.z : Ip4V).cells.toArray 35) fun g3 w6 =>
  Stores ⟨g3, 0, none⟩ 0 h1.cells w6 fun w7 =>
  Br (decide (x2 ≠ 0))
    (R (.returned (.bool false)) w7)
    (Br (decide (x11 ≠ 2))
      (R (.returned (.bool false)) w7)
      (Calls Tryd.prog 6 #[.pointer x0] w7 (onRet (fun r_2 w8 => ∃ x : Int, r_2 = .int .i64 x ∧
      Br (decide (x ≠ 1))
        (R (.returned (.bool false)) w8)
        (Calls Tryd.prog 7 #[.pointer x0] w8 (onRet (fun r_3 w9 => ∃ x3 : Int, r_3 = .int .i64 x3 ∧
        Br (decide (x3 ≠ 1))
    (R (.returned (.bool false)) w9)
    (LoopVC (S := Int) (fun s_ w10 K2042 => weirtop_TopBounded_L2042 R max ticks fourA fourn sixA sixn gapsA gapsn x0 g2 s_ w10 K2042) 0 w9))
          (fun ch3 w9 => R (.panicked ch3) w9))))
        (fun ch2 w8 => R (.panicked ch2) w8)))))
    (fun ch1 w5 => R (.panicked ch1) w5)))))
    (fun ch w1 => R (.panicked ch) w1))))))
def weirtop_TopBounded_H : Hints := [(2042, [(17, .int .i64)]), (4090, [(19, .int .i64)]), (16378, [(20, .int .i64)]), (4084, []), (32676, []), (65353, []), (261414, [(128, .bool)]), (4182634, [(18, .int .i64)]), (130707, [])]
set_option maxRecDepth 100000 in
theorem weirtop_TopBounded_of (max : Int) (ticks : Int) (fourA : Option Addr) (fourn : Nat) (fourc : Nat) (sixA : Option Addr) (sixn : Nat) (sixc : Nat) (gapsA : Option Addr) (gapsn : Nat) (gapsc : Nat) (w : World) (R : Ending → World → Prop) (hvc_ : weirtop_TopBounded_VC max ticks fourA fourn fourc sixA sixn sixc gapsA gapsn gapsc w R) :
    Calls Tryd.prog 3 #[.int .i64 max, .int .i64 ticks, .slice fourA fourn fourc, .slice sixA sixn sixc, .slice gapsA gapsn gapsc] w R :=
  calls_of_wpc callOk mixedOk (H := weirtop_TopBounded_H) (args := [.int .i64 max, .int .i64 ticks, .slice fourA fourn fourc, .slice sixA sixn sixc, .slice gapsA gapsn gapsc]) (fn := Tryd.f3) (c := bodyOf Tryd.f3) Tryd.func3 rfl (Nat.le_of_ble_eq_true rfl)
    (Eq.mp (by kernel_rfl : weirtop_TopBounded_VC max ticks fourA fourn fourc sixA sixn sixc gapsA gapsn gapsc w R = wpc Tryd.prog callF Tryd.f3.ntmps weirtop_TopBounded_H 1 (bodyOf Tryd.f3) (argEnv 0 [.int .i64 max, .int .i64 ticks, .slice fourA fourn fourc, .slice sixA sixn sixc, .slice gapsA gapsn gapsc]) [] w (finish Tryd.prog callF Tryd.f3.results.toList R)) hvc_)
end N6
end Go.Proofs.YthhgbpmihhljdaaDoor
/- TopBounded. -/
namespace Go.Proofs.YthhgbpmihhljdaaDoor
namespace N6
open Go Go.Eng Go.RowKit
section
variable {w : World} {T : TabR}
abbrev Γb (w : World) (g1 g2 : Nat) (off : Int) : List Fct := [Fct.rest w None, Fct.blk g1 5 (zs8.map (.int .u8)), Fct.blk g2 35 (fstV g1 off).cells]
theorem fst_at {g1 g2 : Nat} {off : Int} {w' : World} (H : Sep (Γb w g1 g2 off) w') : Ip4At w' (fstV g1 off) [] zs8 :=
  ⟨⟨rfl, Nat.le_refl _, Nat.zero_le _, fun i cs h => by simp at h, fun r hr => by cases hr⟩, ⟨rfl, Nat.le_refl _, (by decide : (8 : Nat) ≤ 4000000), bts8, Cells.blk0 (H.blk 1 rfl)⟩,
    fun x hx => by simp [fstV, IPV.bytes] at hx; omega, fun x hx => by simp [fstV, IPV.bytes] at hx; omega⟩
theorem sel_live (T : TabR) : (T.cs.filter (selS 1)).length ≤ T.cs.length := List.length_filter_le _ _
theorem held_zero (h : T.cs = []) : (T.cs.map (·.v.frags)).sum = 0 := by rw [h]; rfl
theorem held_pos (hT : TabOk T) : 0 ≤ (T.cs.map (·.v.frags)).sum := by
  have : ∀ l : List CtxR, (∀ c ∈ l, 0 ≤ c.v.frags) → 0 ≤ (l.map (·.v.frags)).sum := by
    intro l
    induction l with
    | nil => intro _; exact Int.le_refl _
    | cons c l ih =>
      intro h
      have h1 := ih fun x hx => h x (List.mem_cons_of_mem _ hx)
      have h2 := h c (List.mem_cons_self ..)
      simp only [List.map_cons, List.sum_cons]; omega
  exact this _ fun c hc => (hT.ctx c hc).1.frags.1
set_option maxHeartbeats 2000000 in
theorem phase3 {w0 : World} {ticks : Int} {g1 g2 : Nat} {R : Ending → World → Prop} {off : Int} (ht1 : 1 ≤ ticks) (ht2 : ticks ≤ 200) (hT : TabOk T) (hti : T.ticks = ticks) (h0 : T.cs = []) (hb : T.begun ≤ 100000000)
    (H : Sep (Γb w0 g1 g2 off ++ tabFs T) w) (hR : ∀ w', Ext w0 w' → R (.returned (.bool true)) w') :
    LoopVC (S := Int) (fun s_ w16 K16378 => weirtop_TopBounded_L16378 R ticks (some ⟨T.g, 0, none⟩) g2 s_ w16 K16378) 0 w := by
  have hT2 := hT.t2
  refine LoopVC.of (fun s w' => ∃ (i : Nat) (T' : TabR) (off : Int), s = i ∧ (i : Int) ≤ ticks ∧ TabOk T' ∧ T'.g = T.g ∧ T'.ticks = ticks ∧ T'.begun ≤ 100000000 + i ∧
      ((i = 0 ∨ (i : Int) = ticks) ∧ T'.cs = [] ∨ 0 < i ∧ (i : Int) < ticks ∧ ∃ c, Mid g1 T' i c ∧ c.v.left = ticks - i) ∧ Sep (Γb w0 g1 g2 off ++ tabFs T') w') (fun s _ => ticks.toNat - s.toNat)
    ⟨0, T, off, rfl, by show (0 : Int) ≤ _; omega, hT, rfl, hti, by omega, .inl ⟨.inl rfl, h0⟩, H⟩ ?_
  rintro _ w2 ⟨i, T', off, rfl, hi, hT', hg, htk, hb', hst, H⟩
  unfold weirtop_TopBounded_L16378
  rw [← hg]
  refine Br.dec (fun hlt => ?_) fun hge => ?_
  · have hw : IntKind.i64.wrap (8 * (i : Int)) = 8 * (i : Int) := w64 (by omega) (by omega)
    rw [hw]
    refine SetVC.sep H 2 (k := 4) rfl (show 4 < 43 by decide) fun w3 H3 => ?_
    have H3 : Sep (Γb w0 g1 g2 (8 * (i : Int)) ++ tabFs T') w3 := H3
    refine Ip4V.of (fstV g1 (8 * (i : Int))) ⟨H3.at 2 rfl, ?_⟩
    refine (step4 (os := []) (d := zs8) H3 hT' (by omega) fun w' H => fst_at H).mono ?_
    rintro _ w4 ⟨T2, res, o, er, rfl, ho, H4⟩
    obtain ⟨hT2', q1, q2, q3, q4, q5, q6⟩ := (ho.step hT' (fst_at (H4.take 3)).src (fst_at (H4.take 3)).dst).ok hT'
    have hout : o = 2 ∧ er = 0 ∧ ∃ c, Mid g1 T2 (i + 1) c ∧ c.v.left = ticks - i := by
      rcases hst with ⟨h0 | hit, hcs⟩ | ⟨h0, _, c, hm, hl⟩
      · subst h0
        obtain ⟨a1, a2, c, hm, hl⟩ := first_new hT' hcs ho
        exact ⟨a1, a2, c, hm, by rw [hl, htk]; simp⟩
      · omega
      · obtain ⟨a1, a2, c', hm', hl'⟩ := first_old hm (by omega) (by omega) ho
        exact ⟨a1, a2, c', hm', by rw [hl', hl]⟩
    obtain ⟨rfl, rfl, c, hm, hl⟩ := hout
    refine onRet_at (Ip4V.of res ⟨_, _, rfl, NewVC.sep H4 fun g4 w5 H5 => Stores.sep H5.front 0 rfl (Ip4V.one _) (Nat.le_refl _) (splice_all rfl) fun w6 H6 => ?_⟩)
    have H6 := H6.tail
    refine Br.f rfl (Br.f rfl ?_)
    rw [← q1]
    refine (stepL H6).mono ?_
    rintro _ _ ⟨rfl, rfl⟩
    refine ⟨_, rfl, Br.f (by rw [hm.cs]; rfl) ?_⟩
    refine (stepT H6 hT2' (by omega)).mono ?_
    rintro _ w7 ⟨s, cs, rfl, hp, hT3, H7⟩
    have hwi : IntKind.i64.wrap ((i : Int) + 1) = ((i + 1 : Nat) : Int) := by rw [w64 (by omega) (by omega)]; omega
    refine ⟨s.A, s.n, s.k, rfl, ?_⟩
    rw [hwi]
    refine ⟨⟨i + 1, { T2 with cs := cs }, _, rfl, by omega, hT3, rfl, q4.trans htk, by show T2.begun ≤ _; omega, ?_, H7⟩, by simp only [Int.toNat_natCast]; omega⟩
    rw [hm.cs] at hp
    by_cases hlast : ((i + 1 : Nat) : Int) = ticks
    · refine .inl ⟨.inr hlast, ?_⟩
      have : dec c = none := by unfold dec; rw [if_neg (by omega)]
      simp [this] at hp
      exact hp
    · refine .inr ⟨by omega, by omega, { c with v := { c.v with left := c.v.left - 1 } }, ?_, by show c.v.left - 1 = _; omega⟩
      have : dec c = some { c with v := { c.v with left := c.v.left - 1 } } := by unfold dec; rw [if_pos (by omega)]
      simp only [List.filterMap_cons, this, List.filterMap_nil] at hp
      exact ⟨perm_one hp, hm.key, hm.st, hm.frags, hm.hole⟩
  · have hcs : T'.cs = [] := by
      rcases hst with ⟨_, h⟩ | ⟨_, h, _⟩
      · exact h
      · exact absurd h hge
    refine (stepL H).mono ?_
    rintro _ _ ⟨rfl, rfl⟩
    refine ⟨_, rfl, Br.t (by rw [hcs]; rfl) ?_⟩
    refine (stepH H hT').mono ?_
    rintro _ w3 ⟨rfl, H3⟩
    refine ⟨_, rfl, ?_⟩
    rw [held_zero hcs]
    exact hR w3 (H3.restOf 0 rfl)
theorem dec_left {c c' : CtxR} (h : dec c = some c') : c'.v.left = c.v.left - 1 := by
  unfold dec at h
  split at h
  · cases h; rfl
  · cases h
set_option maxHeartbeats 2000000 in
theorem phase2 {w0 : World} {ticks : Int} {g1 g2 : Nat} {R : Ending → World → Prop} {off : Int} (ht1 : 1 ≤ ticks) (ht2 : ticks ≤ 200) (hT : TabOk T) (hti : T.ticks = ticks) (hb : T.begun ≤ 100000000)
    (H : Sep (Γb w0 g1 g2 off ++ tabFs T) w) (hR : ∀ w', Ext w0 w' → R (.returned (.bool true)) w') :
    LoopVC (S := Int) (fun s_ w11 K4090 => weirtop_TopBounded_L4090 R ticks (some ⟨T.g, 0, none⟩) g2 s_ w11 K4090) 0 w := by
  refine LoopVC.of (fun s w' => ∃ (i : Nat) (T' : TabR), s = i ∧ (i : Int) ≤ ticks ∧ TabOk T' ∧ T'.g = T.g ∧ T'.ticks = ticks ∧ T'.begun ≤ 100000000 ∧ (∀ c ∈ T'.cs, c.v.left ≤ ticks - i) ∧ Sep (Γb w0 g1 g2 off ++ tabFs T') w') (fun s _ => ticks.toNat - s.toNat)
    ⟨0, T, rfl, by show (0 : Int) ≤ _; omega, hT, rfl, hti, hb, fun c hc => by have := (hT.ctx c hc).2.2.1; simp; omega, H⟩ ?_
  rintro _ w2 ⟨i, T', rfl, hi, hT', hg, htk, hb', hst, H⟩
  unfold weirtop_TopBounded_L4090
  rw [← hg]
  refine Br.dec (fun hlt => ?_) fun hge => ?_
  · refine (stepT H hT' (by omega)).mono ?_
    rintro _ w7 ⟨s, cs, rfl, hp, hT3, H7⟩
    have hwi : IntKind.i64.wrap ((i : Int) + 1) = ((i + 1 : Nat) : Int) := by rw [w64 (by omega) (by omega)]; omega
    refine ⟨s.A, s.n, s.k, rfl, ?_⟩
    rw [hwi]
    refine ⟨⟨i + 1, { T' with cs := cs }, rfl, by omega, hT3, rfl, htk, hb', fun c hc => ?_, H7⟩, by simp only [Int.toNat_natCast]; omega⟩
    obtain ⟨x, hx, hd⟩ := List.mem_filterMap.1 (hp.subset hc)
    have := hst x hx
    rw [dec_left hd]
    omega
  · have hcs : T'.cs = [] := by
      cases h : T'.cs with
      | nil => rfl
      | cons c l =>
        have h1 := hst c (by rw [h]; exact List.mem_cons_self ..)
        have h2 := (hT'.ctx c (by rw [h]; exact List.mem_cons_self ..)).2.1
        omega
    refine (stepL H).mono ?_
    rintro _ _ ⟨rfl, rfl⟩
    refine ⟨_, rfl, Br.f (by rw [hcs]; rfl) ?_⟩
    refine (stepH H hT').mono ?_
    rintro _ w3 ⟨rfl, H3⟩
    refine ⟨_, rfl, Br.f (by rw [held_zero hcs]; rfl) ?_⟩
    refine (stepF H3 hT' (by omega)).mono ?_
    rintro _ w4 ⟨rfl, H4⟩
    refine ⟨_, rfl, Br.f (by rw [hcs]; rfl) ?_⟩
    exact phase3 ht1 ht2 hT' htk hcs hb' H4 hR
end
end N6
end Go.Proofs.YthhgbpmihhljdaaDoor
/- TopBounded, whole. -/
namespace Go.Proofs.YthhgbpmihhljdaaDoor
namespace N6
open Go Go.Eng Go.RowKit
theorem L4At.ext {w w' : World} {s : Sl} {rs : List R4} (h : L4At w s rs) (hE : Ext w w') : L4At w' s rs := { h with recs := h.recs.ext hE, each := fun r hr => (h.each r hr).ext hE }
theorem L6At.ext {w w' : World} {s : Sl} {rs : List R6} (h : L6At w s rs) (hE : Ext w w') : L6At w' s rs := { h with recs := h.recs.ext hE, each := fun r hr => (h.each r hr).ext hE }
section
variable {w w0 : World} {T : TabR} {max ticks : Int} {g g1 g2 : Nat} {R : Ending → World → Prop} {off : Int}
/-- How the table stands in the course of the play. -/
structure In (w0 : World) (g g1 g2 : Nat) (off max ticks B : Int) (T : TabR) (w : World) : Prop where
  ok : TabOk T
  g : T.g = g
  max : T.max = max
  ticks : T.ticks = ticks
  begun : T.begun ≤ B
  sep : Sep (Γb w0 g1 g2 off ++ tabFs T) w
theorem In.more {B B' : Int} (h : In w0 g g1 g2 off max ticks B T w) (hb : B ≤ B') : In w0 g g1 g2 off max ticks B' T w := { h with begun := by have := h.begun; omega }
theorem In.ext {B : Int} (h : In w0 g g1 g2 off max ticks B T w) : Ext w0 w := h.sep.restOf 0 rfl
theorem In.after {T' : TabR} {B : Int} {k : KeyV} {w' : World} (h : In w0 g g1 g2 off max ticks B T w) (hs : Step T k T') (H : Sep (Γb w0 g1 g2 off ++ tabFs T') w') : In w0 g g1 g2 off max ticks (B + 1) T' w' := by
  obtain ⟨q0, q1, q2, q3, q4, q5, q6⟩ := hs.ok h.ok
  exact ⟨q0, q1.trans h.g, q3.trans h.max, q4.trans h.ticks, by have := h.begun; omega, H⟩
set_option maxHeartbeats 2000000 in
theorem main_end {i : Int} {B : Int} {K : Int → World → Prop} (hT : In w0 g g1 g2 off max ticks B T w) (hB : B ≤ 100000000) (hK : ∀ w', In w0 g g1 g2 off max ticks B T w' → K (IntKind.i64.wrap (i + 1)) w') :
    weirtop_TopBounded_J130707 R max (some ⟨g, 0, none⟩) i K w := by
  unfold weirtop_TopBounded_J130707
  have hlen := hT.ok.len
  have hmx := hT.max
  have hbg := hT.begun
  have hg := hT.g
  rw [← hg]
  refine (stepL hT.sep).mono ?_
  rintro _ _ ⟨rfl, rfl⟩
  refine ⟨_, rfl, Br.f (decide_eq_false (by omega)) ((stepL hT.sep).mono ?_)⟩
  rintro _ _ ⟨rfl, rfl⟩
  refine ⟨_, rfl, Br.f (decide_eq_false (by omega)) ((stepH hT.sep hT.ok).mono ?_)⟩
  rintro _ w1 ⟨rfl, H1⟩
  have hp := held_pos hT.ok
  refine ⟨_, rfl, Br.f (decide_eq_false (by omega)) ((stepF H1 hT.ok (by omega)).mono ?_)⟩
  rintro _ w2 ⟨rfl, H2⟩
  refine ⟨_, rfl, (stepL H2).mono ?_⟩
  rintro _ _ ⟨rfl, rfl⟩
  have hs := sel_live T
  refine ⟨_, rfl, Br.f (decide_eq_false (by omega)) (hK _ ⟨hT.ok, hg, hmx, hT.ticks, hbg, H2⟩)⟩
set_option maxHeartbeats 2000000 in
theorem main_gaps {i : Nat} {B : Int} {sg : Sl} {zs : List Int} {K : Int → World → Prop} (hg : Cells w0 sg.A (zs.map (.int .i64))) (hgl : zs.length = sg.n) (hT : In w0 g g1 g2 off max ticks B T w) (hB : B ≤ 100000000)
    (hK : ∀ T' w', In w0 g g1 g2 off max ticks B T' w' → K (IntKind.i64.wrap ((i : Int) + 1)) w') : weirtop_TopBounded_J65353 R max sg.A sg.n (some ⟨g, 0, none⟩) i K w := by
  unfold weirtop_TopBounded_J65353
  refine JoinVC.of (fun _ w' => ∃ T', In w0 g g1 g2 off max ticks B T' w') ?_ fun _ w' ⟨T', hT'⟩ => main_end hT' hB fun w'' h => hK T' w'' h
  refine JoinVC.of (fun b w' => w' = w ∧ (b = true → i < sg.n ∧ zs.getD i 0 < 5)) ?_ ?_
  · refine Br.dec (fun hlt => ?_) fun _ => ⟨rfl, fun h => by cases h⟩
    have hlt : i < sg.n := by omega
    refine IdxVC.int (hg.ext hT.ext) (by omega) (by omega) hgl fun a ha => ⟨_, ha, Br.dec (fun h0 => ?_) fun _ => ⟨rfl, fun h => by cases h⟩⟩
    refine IdxVC.int (hg.ext hT.ext) (by omega) (by omega) hgl fun a ha => ⟨_, ha, rfl, fun h => ⟨hlt, ?_⟩⟩
    have := of_decide_eq_true h
    simpa using this
  rintro b _ ⟨rfl, hb⟩
  unfold weirtop_TopBounded_J261414
  cases b with
  | false => exact Br.f rfl ⟨T, hT⟩
  | true =>
    obtain ⟨hlt, h5⟩ := hb rfl
    refine Br.t rfl (LoopVC.of (fun s w' => 0 ≤ s ∧ s ≤ 5 ∧ ∃ T', In w0 g g1 g2 off max ticks B T' w') (fun s _ => 5 - s.toNat) ⟨by omega, by omega, T, hT⟩ ?_)
    rintro k w2 ⟨hk0, hk5, T', hT'⟩
    unfold weirtop_TopBounded_L4182634
    have hg' := hT'.g
    have hbg := hT'.begun
    refine IdxVC.int (hg.ext hT'.ext) (by omega) (by omega) hgl fun a ha => ⟨_, ha, Br.dec (fun hkx => ?_) fun _ => ⟨T', hT'⟩⟩
    rw [← hg']
    refine (stepT hT'.sep hT'.ok (by omega)).mono ?_
    rintro _ w3 ⟨s, cs, rfl, hp, hT3, H3⟩
    have hz : zs.getD i 0 = zs.getD (i : Int).toNat 0 := by rw [Int.toNat_natCast]
    have hw : IntKind.i64.wrap (k + 1) = k + 1 := w64 (by omega) (by omega)
    refine ⟨s.A, s.n, s.k, rfl, ?_⟩
    rw [hw]
    exact ⟨⟨by omega, by omega, _, hT3, rfl, hT'.max, hT'.ticks, hbg, H3⟩, by omega⟩
set_option maxHeartbeats 2000000 in
theorem main_loop {s4 s6 sg : Sl} {rs4 : List R4} {rs6 : List R6} {zs : List Int} (h4 : L4At w0 s4 rs4) (h6 : L6At w0 s6 rs6) (hg : Cells w0 sg.A (zs.map (.int .i64))) (hgl : zs.length = sg.n) (hK : Kn w0) (ht1 : 1 ≤ ticks) (ht2 : ticks ≤ 200)
    (hT : In w0 g g1 g2 off max ticks 10 T w) (hR : ∀ w', Ext w0 w' → R (.returned (.bool true)) w') :
    LoopVC (S := Int) (fun s_ w10 K2042 => weirtop_TopBounded_L2042 R max ticks s4.A s4.n s6.A s6.n sg.A sg.n (some ⟨g, 0, none⟩) g2 s_ w10 K2042) 0 w := by
  have hs4 := h4.small
  have hs6 := h6.small
  refine LoopVC.of (fun s w' => ∃ (i : Nat) (T' : TabR), s = i ∧ i ≤ 4000000 ∧ In w0 g g1 g2 off max ticks (10 + 2 * i) T' w') (fun s _ => 4000001 - s.toNat) ⟨0, T, rfl, by omega, hT.more (by omega)⟩ ?_
  rintro _ w2 ⟨i, T', rfl, hi, hT'⟩
  unfold weirtop_TopBounded_L2042
  refine JoinVC.of (fun _ w' => w' = w2 ∧ (i < s4.n ∨ i < s6.n)) ?_ ?_
  · refine Br.dec (fun h => ⟨rfl, .inl (by omega)⟩) fun h => Br.dec (fun h => ⟨rfl, .inr (by omega)⟩) fun h => ?_
    have := phase2 (R := R) ht1 ht2 hT'.ok hT'.ticks (by have := hT'.begun; omega) hT'.sep hR
    rw [hT'.g] at this
    exact this
  rintro _ _ ⟨rfl, hlt⟩
  have hwi : IntKind.i64.wrap ((i : Int) + 1) = ((i + 1 : Nat) : Int) := by rw [w64 (by omega) (by omega)]; omega
  unfold weirtop_TopBounded_J4084
  refine JoinVC.of (fun _ w' => ∃ T2, In w0 g g1 g2 off max ticks (10 + 2 * i + 1) T2 w') ?_ ?_
  · refine Br.dec (fun h => ?_) fun _ => ⟨T', hT'.more (by omega)⟩
    have hl : i < rs4.length := by have := h4.len; omega
    obtain ⟨r, hr⟩ : ∃ r, rs4[i]? = some r := ⟨_, List.getElem?_eq_getElem hl⟩
    have h4' := h4.ext hT'.ext
    refine IdxVC.rec h4'.recs (by omega) (by omega) (by rw [List.length_map]; exact h4.len) fun a ha => ?_
    have e : (rs4.map fun r => r.v.cells).getD (i : Int).toNat [] = r.v.cells := by rw [Int.toNat_natCast, List.getD_eq_getElem?_getD, List.getElem?_map, hr]; rfl
    rw [e] at ha
    refine Ip4V.of r.v ⟨ha, ?_⟩
    have hat : ∀ {w' : World}, Ext w0 w' → Ip4At w' r.v r.opts r.data := fun hE => (h4.each r (List.mem_of_getElem? hr)).ext hE
    rw [← hT'.g]
    refine (step4 hT'.sep hT'.ok (by have := hT'.begun; omega) fun w' H => hat (H.restOf 0 rfl)).mono ?_
    rintro _ w3 ⟨T2, res, o, er, rfl, ho, H3⟩
    have hE0 := hT'.ext
    refine onRet_at (Ip4V.of res ⟨_, _, rfl, T2, ?_⟩)
    have := hT'.after (ho.step hT'.ok (hat hE0).src (hat hE0).dst) H3
    rw [hT'.g]
    exact this
  rintro _ w3 ⟨T2, hT2⟩
  unfold weirtop_TopBounded_J32676
  refine JoinVC.of (fun _ w' => ∃ T3, In w0 g g1 g2 off max ticks (10 + 2 * i + 1 + 1) T3 w') ?_ ?_
  · refine Br.dec (fun h => ?_) fun _ => ⟨T2, hT2.more (by omega)⟩
    have hl : i < rs6.length := by have := h6.len; omega
    obtain ⟨r, hr⟩ : ∃ r, rs6[i]? = some r := ⟨_, List.getElem?_eq_getElem hl⟩
    have h6' := h6.ext hT2.ext
    refine IdxVC.rec h6'.recs (by omega) (by omega) (by rw [List.length_map]; exact h6.len) fun a ha => ?_
    have e : (rs6.map fun r => r.v.cells).getD (i : Int).toNat [] = r.v.cells := by rw [Int.toNat_natCast, List.getD_eq_getElem?_getD, List.getElem?_map, hr]; rfl
    rw [e] at ha
    refine Ip6V.of r.v ⟨ha, ?_⟩
    have hat : ∀ {w' : World}, Ext w0 w' → Ip6At w' r.v r.exts r.data := fun hE => (h6.each r (List.mem_of_getElem? hr)).ext hE
    rw [← hT2.g]
    refine (step6 hT2.sep hT2.ok (by have := hT2.begun; omega) (fun w' H => hat (H.restOf 0 rfl)) fun w' H => hK.ext (H.restOf 0 rfl)).mono ?_
    rintro _ w4 ⟨T3, res, n, o, er, od, rfl, ho, H4, _, hfs⟩
    have hE0 := hT2.ext
    refine onRet_at (Ip6V.of res ⟨_, _, _, rfl, T3, ?_⟩)
    have := hT2.after (ho.weak hfs hT2.ok (hat hE0).src (hat hE0).dst) H4
    rw [hT2.g]
    exact this
  rintro _ w4 ⟨T3, hT3⟩
  refine main_gaps hg hgl hT3 (by omega) fun T4 w' hT4 => ?_
  rw [hwi]
  exact ⟨⟨i + 1, T4, rfl, by omega, hT4.more (by omega)⟩, by simp only [Int.toNat_natCast]; omega⟩
set_option maxHeartbeats 2000000 in
theorem bounded_law {s4 s6 sg : Sl} {rs4 : List R4} {rs6 : List R6} {zs : List Int} (h4 : L4At w s4 rs4) (h6 : L6At w s6 rs6) (hg : Cells w sg.A (zs.map (.int .i64))) (hgl : zs.length = sg.n) (hK : Kn w) :
    Calls Tryd.prog 3 #[.int .i64 max, .int .i64 ticks, s4.val, s6.val, sg.val] w fun e w' => e = .returned (.bool true) ∧ Ext w w' := by
  refine weirtop_TopBounded_of max ticks s4.A s4.n s4.k s6.A s6.n s6.k sg.A sg.n sg.k w _ ?_
  unfold weirtop_TopBounded_VC
  have skip : (Ending.returned (.bool true) = .returned (.bool true)) ∧ Ext w w := ⟨rfl, Mod.refl _ _⟩
  refine Br.dec (fun _ => skip) fun m1 => Br.dec (fun _ => skip) fun m2 => Br.dec (fun _ => skip) fun t1 => Br.dec (fun _ => skip) fun t2 => ?_
  refine (new_spec (by omega) (by omega) (by omega) (by omega)).mono ?_
  rintro _ w1 ⟨g, m, rfl, H1⟩
  have hT0 : TabOk ⟨g, m, max, ticks, 0, []⟩ := new_ok (by omega) (by omega) (by omega) (by omega)
  refine ⟨_, _, rfl, Br.f rfl (Br.f rfl ?_)⟩
  refine MakeVC.sep H1 (by decide) (by decide) (by decide) fun g1 w2 H2 => NewVC.sep H2 fun g2 w3 H3 => ?_
  have H3 : Sep (Fct.rest w None :: (tabFs ⟨g, m, max, ticks, 0, []⟩ ++ [Fct.blk g1 5 (zs8.map (.int .u8))] ++ [Fct.blk g2 35 (Ip4V.z : Ip4V).cells])) w3 := H3
  have H3 : Sep ([Fct.rest w None, Fct.blk g1 5 (zs8.map (.int .u8)), Fct.blk g2 35 (Ip4V.z : Ip4V).cells] ++ tabFs ⟨g, m, max, ticks, 0, []⟩) w3 := by
    generalize tabFs ⟨g, m, max, ticks, 0, []⟩ = Z at H3 ⊢
    exact H3.perm (perm_cn fun c o h1 h2 h3 => by simp only [h1, h2, h3]; omega)
  refine Stores.sep H3 2 (cs' := (fstV g1 0).cells) rfl (Ip4V.one _) (Nat.le_refl _) (splice_all rfl) fun w4 H4 => ?_
  have H4 : Sep (Γb w g1 g2 0 ++ tabFs ⟨g, m, max, ticks, 0, []⟩) w4 := H4
  refine Ip4V.of (fstV g1 0) ⟨H4.at 2 rfl, ?_⟩
  refine (step4 (os := []) (d := zs8) H4 hT0 (by show (0 : Int) ≤ _; omega) fun w' H => fst_at H).mono ?_
  rintro _ w5 ⟨T1, res, o, er, rfl, ho, H5⟩
  have hin : In w g g1 g2 0 max ticks 0 ⟨g, m, max, ticks, 0, []⟩ w4 := ⟨hT0, rfl, rfl, rfl, Int.le_refl _, H4⟩
  have hin1 := hin.after (ho.step hT0 (fst_at (H5.take 3)).src (fst_at (H5.take 3)).dst) H5
  obtain ⟨rfl, rfl, c, hm, hl⟩ := first_new hT0 rfl ho
  refine onRet_at (Ip4V.of res ⟨_, _, rfl, NewVC.sep H5 fun g4 w6 H6 => Stores.sep H6.front 0 rfl (Ip4V.one _) (Nat.le_refl _) (splice_all rfl) fun w7 H7 => ?_⟩)
  have H7 := H7.tail
  refine Br.f rfl (Br.f rfl ?_)
  rw [← hin1.g]
  refine (stepL H7).mono ?_
  rintro _ _ ⟨rfl, rfl⟩
  refine ⟨_, rfl, Br.f (by rw [hm.cs]; rfl) ?_⟩
  refine (stepH H7 hin1.ok).mono ?_
  rintro _ w8 ⟨rfl, H8⟩
  have hsum : (T1.cs.map (·.v.frags)).sum = 1 := by rw [hm.cs]; show c.v.frags + 0 = 1; rw [hm.frags]; rfl
  refine ⟨_, rfl, Br.f (by rw [hsum]; rfl) ?_⟩
  have hin2 : In w g g1 g2 0 max ticks 10 T1 w8 := ⟨hin1.ok, hin1.g, hin1.max, hin1.ticks, by have := hin1.begun; omega, H8⟩
  have := main_loop (R := fun e w' => e = .returned (.bool true) ∧ Ext w w') h4 h6 hg hgl hK (by omega) (by omega) hin2 fun w' hE => ⟨rfl, hE⟩
  rw [hin1.g]
  exact this
end
end N6
end Go.Proofs.YthhgbpmihhljdaaDoor
/- How a law's walk becomes its row: arguments opened to cells, the bound, what the row asks behind a call that left all as it was. It speaks of any law that says yes. -/
namespace Go.Proofs.YthhgbpmihhljdaaDoor
open Go Go.ChangeShapes Go.WideShapes Go.ChangeAt Go.RowKit Go.Eng

theorem own_knob : ownKnob Tryd.prog.godebug = none := by kernel_rfl
theorem laid_out : laidOutB Tryd.prog = true := by kernel_rfl
theorem cells_byte : Tryd.prog.cellsOf 5 = 1 := by kernel_rfl

theorem bulk_one {H : Type} (d : DataW H) : 1 ≤ Rows.uptoBulk d := by
  cases d with
  | lit l => cases l <;> simp [Rows.uptoBulk]
  | nil => simp [Rows.uptoBulk]
  | ptr d => simp [Rows.uptoBulk]
  | slice elems spare => simp [Rows.uptoBulk]
  | agg parts => simp [Rows.uptoBulk]
  | iface t d => simp [Rows.uptoBulk]
  | map entries => simp [Rows.uptoBulk]
  | held h => simp [Rows.uptoBulk]
theorem bulk_part {H : Type} {d : DataW H} : ∀ {l : List (DataW H)}, d ∈ l → Rows.uptoBulk d ≤ Rows.uptoBulkAll l
  | x :: r, h => by
    simp only [Rows.uptoBulkAll]
    rcases List.mem_cons.1 h with e | e
    · subst e; omega
    · have := bulk_part e; omega
theorem bulk_length {H : Type} : ∀ l : List (DataW H), l.length ≤ Rows.uptoBulkAll l
  | [] => by simp
  | x :: r => by have := bulk_one x; have := bulk_length r; simp only [Rows.uptoBulkAll, List.length_cons]; omega
theorem bulk_slice {H : Type} (elems spare : List (DataW H)) : elems.length + spare.length + 1 ≤ Rows.uptoBulk (.slice elems spare) := by
  have h1 := bulk_length elems
  have h2 := bulk_length spare
  simp only [Rows.uptoBulk]
  omega
theorem small_part {H : Type} {d : DataW H} {l : List (DataW H)} (hk : Rows.uptoSmall H l = true) (h : d ∈ l) : Rows.uptoBulk d ≤ 1048576 := by
  have h1 : Rows.uptoBulkAll l ≤ 1048576 := of_decide_eq_true hk
  exact Nat.le_trans (bulk_part h) h1

section
variable {H : Type} {enc : TypeId × Value → H} {P : Program}
theorem trodAll_stays (hl : laidOutB P = true) {W W' : World} {sp : Nat → Bool} : ∀ {ts : List TypeId} {vs : List Value} {ds : List (DataW H)} {ps : List MemPlace},
    ts.all (fun t => P.readableRec t && decide (t < P.types.size)) = true → DataW.TrodAll enc P W 0 (fun _ => true) true ts vs ds ps →
    (∀ p ∈ ps, W.sameAt W' p) → (∀ p ∈ ps, sp p.block = true) → DataW.TrodAll enc P W' 0 sp true ts vs ds ps
  | [], _, _, _, _, h, _, _ => by
    obtain ⟨rfl, rfl, rfl⟩ := trodAll_nil h
    exact trodAll_mk0
  | t :: ts, _, _, _, hr, h, hs, hp => by
    obtain ⟨v, vs', d, ds', p, q, rfl, rfl, rfl, h1, h2⟩ := trodAll_cons h
    simp only [List.all_cons, Bool.and_eq_true, decide_eq_true_eq] at hr
    refine ⟨p, q, WideElems.Trod_stays hl hr.1.1 hr.1.2 h1 (fun x hx => hs x (List.mem_append_left _ hx)) (fun x hx => hp x (List.mem_append_left _ hx)), ?_, rfl⟩
    exact trodAll_stays hl (by simpa [List.all_eq_true] using hr.2) h2 (fun x hx => hs x (List.mem_append_right _ hx)) (fun x hx => hp x (List.mem_append_right _ hx))
theorem trodAll_len {w : World} {base : Nat} {spare : Nat → Bool} {held : Bool} : ∀ {ts : List TypeId} {vs : List Value} {ds : List (DataW H)} {ps : List MemPlace}, DataW.TrodAll enc P w base spare held ts vs ds ps → ds.length = ts.length
  | [], _, _, _, h => by
    obtain ⟨rfl, rfl, rfl⟩ := trodAll_nil h
    rfl
  | t :: ts, _, _, _, h => by
    obtain ⟨v, vs', d, ds', p, q, rfl, rfl, rfl, h1, h2⟩ := trodAll_cons h
    simp [trodAll_len h2]
/-- Behind a call that said yes and left all as it was. -/
theorem post_yes {f : Func} {s : ChangeSpec} {tb : TypeId} {apart fresh handsOn again : Bool} {W W' : World} {args : Array Value} {ds gs : List (DataW H)} {before : List MemPlace}
    (hl : laidOutB P = true) (hr : f.params.toList.all (fun t => P.readableRec t && decide (t < P.types.size)) = true)
    (hrt : f.resultTypes = #[tb]) (hb : P.underlying tb = some .bool) (hv : s.vars = [])
    (hs : ∀ ds' : List (DataW H), ds'.length = f.params.toList.length → s.fn H ds' = { results := [.lit (.bool true)], args := ds' })
    (hW : DataW.Whole enc P f.params.toList s.vars apart W args.toList ds gs before) (hx : Ext W W') :
    s.post enc P f apart fresh handsOn again W args (.bool true) W' := by
  have hW' := hW
  obtain ⟨p, q, hA, hV, rfl, _, _⟩ := hW
  rw [hv] at hV
  obtain ⟨rfl, rfl⟩ := trodVars_none hV
  have e := hs ds (trodAll_len hA)
  have hlt := DataW.TrodAll.lt hA
  have hB := Mod.below hx
  have hold : ∀ x ∈ p, (fun b => decide (b < W.heap.size)) x.block = true := fun x hx => by simpa using hlt x hx
  have hargs : ∀ sp : Nat → Bool, (∀ x ∈ p, sp x.block = true) → DataW.TrodAll enc P W' 0 sp true f.params.toList args.toList (s.fn H (ds ++ [])).args p := fun sp hsp => by
    rw [List.append_nil, e]
    exact trodAll_stays hl hr hA (fun x hx => hB.same (hlt x hx)) hsp
  have hres : ∀ (b : Nat) (sp : Nat → Bool) (hd : Bool), DataW.TrodAll enc P W' b sp hd f.resultTypes.toList ((Value.bool true).resultList f.resultTypes.size) (s.fn H (ds ++ [])).results [] := fun b sp hd => by
    rw [List.append_nil, e, hrt]
    exact trodAll_mk1 (shut_bool hb _)
  have hvars : ∀ sp : Nat → Bool, DataW.TrodVars enc P W' sp s.vars (s.fn H (ds ++ [])).vars [] := fun sp => by
    rw [List.append_nil, e, hv]; rfl
  refine ⟨ds, [], p ++ [], [], p, [], hW', hres _ _ _, hargs _ (fun x hx => by simpa using hlt x hx), hvars _, World.keptBut_mono (fun x hx => hx.elim) (hB.frame fun _ => False), fun _ => ?_⟩
  obtain ⟨_, _, _, _, _, hz, hn⟩ := hW'
  refine ⟨ok_one hrt rfl (okWide_bool_mk hb _), _, _, ([] ++ p) ++ [], ⟨[] ++ p, [], trodAll_append (hargs _ (fun _ _ => rfl)) (hres _ _ _), hvars _, rfl, ?_, ?_⟩, ?_⟩
  · intro b off hp
    have hp' : MemPlace.cell b off ∈ p := by simpa using hp
    have hfz : W'.frozen? ⟨b, off, none⟩ = W.frozen? ⟨b, off, none⟩ := hB.frozen (by simpa [MemPlace.block] using hlt _ hp')
    rw [hfz]
    exact hz b off (by simpa using hp)
  · intro ha
    simpa using hn ha
  · intro x hx _
    simpa using hx
theorem val_at {ps : Array TypeId} {W : World} {base : Nat} {args : Array Value} (hval : ∀ (j : Nat) t v, ps[j]? = some t → args[j]? = some v → Value.okWide P W .any base t v) (j : Nat) {t : TypeId} {v : Value}
    (h1 : ps[j]? = some t) (h2 : args[j]? = some v) : Value.okWide P W .any base t v := hval j t v h1 h2
/-- An argument that is a slice of whole numbers: its room, as cells. -/
theorem arg_ints {t e : TypeId} {k : IntKind} {W : World} {base : Nat} {v : Value} {d : DataW H} {p : List MemPlace} (ht : P.underlying t = some (.slice e)) (he : P.underlying e = some (.int k)) (hc : P.cellsOf e = 1)
    (hval : Value.okWide P W .any base t v) (h : DataW.Trod enc P W 0 (fun _ => true) true t v d p) :
    ∃ (A : Option Addr) (n c : Nat) (zs : List Int), v = .slice A n c ∧ n ≤ c ∧ zs.length = c ∧ Cells W A (zs.map (.int k)) ∧ (∀ z ∈ zs, (Lit.int k z).wf = true) ∧ (A = none → c = 0) ∧ c ≤ Rows.uptoBulk d := by
  obtain ⟨A, n, c, rfl⟩ := okWide_slice ht hval
  obtain ⟨fuel, hf⟩ := h
  rcases open_ints ht he hc hf with ⟨h1, h2⟩ | ⟨a, len, cap, zs, h1, _, hl, _, hz, hd, hcell, hw⟩
  · simp [Value.cells] at h1
    obtain ⟨rfl, rfl, rfl⟩ := h1
    exact ⟨none, 0, 0, [], rfl, Nat.le_refl _, rfl, Cells.nil _ _, (by simp), fun _ => rfl, Nat.zero_le _⟩
  · simp [Value.cells] at h1
    obtain ⟨rfl, rfl, rfl⟩ := h1
    simp only [if_true] at hz
    refine ⟨some a, n, c, zs, rfl, hl, hz, fun i u hu => ⟨a, rfl, ?_⟩, hw, (by simp), ?_⟩
    · rw [List.getElem?_map] at hu
      have hi : i < zs.length := by
        rcases Nat.lt_or_ge i zs.length with h | h
        · exact h
        · rw [List.getElem?_eq_none h] at hu; simp at hu
      rw [hcell i hi]
      simpa [List.getElem?_eq_getElem hi] using hu
    · have e : d = .slice (lits k (zs.take n)) (lits k (zs.drop n)) := congrArg Prod.fst hd
      rw [e]
      have := bulk_slice (H := H) (lits k (zs.take n)) (lits k (zs.drop n))
      simp only [lits, List.length_map, List.length_take, List.length_drop] at this ⊢
      omega
theorem _root_.Go.Eng.Cells.upto {w : World} {A : Option Addr} {k : IntKind} {zs : List Int} (h : Cells w A (zs.map (.int k))) (n : Nat) : Cells w A ((zs.take n).map (.int k)) := by
  rw [List.map_take]; exact h.take n
theorem bts_upto {zs : List Int} (h : ∀ z ∈ zs, (Lit.int .u8 z).wf = true) (n : Nat) : Bts (zs.take n) := by
  intro x hx
  have := h x (List.mem_of_mem_take hx)
  simp [Lit.wf, IntKind.min, IntKind.max, IntKind.signed, IntKind.bits] at this
  omega
end
end Go.Proofs.YthhgbpmihhljdaaDoor
