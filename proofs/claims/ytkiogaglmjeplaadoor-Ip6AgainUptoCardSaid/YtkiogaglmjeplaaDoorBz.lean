/- WRITTEN BY a program of this session (vc.py): for each Go function the condition that is enough for its contract, and the theorem that it is. -/
import Derived.Test.YtkiogaglmjeplaaDoorProg
import Derived.Test.YtkiogaglmjeplaaDoorBq
import Derived.Test.YtkiogaglmjeplaaDoorBt
import Derived.Test.YtkiogaglmjeplaaDoorBe
import Derived.Test.YtkiogaglmjeplaaDoorBv
namespace Go.Proofs.YtkiogaglmjeplaaDoor
open Go.Eng
namespace N6

set_option maxRecDepth 100000 in
def weirlaw7_ofBytes_VC (o : Op7V) (w : World) (R : Ending → World → Prop) : Prop :=
  NewVC w (.cells o.cells.toArray 90) fun g1 w1 =>
  ∃ x : Int, w1.cell? ⟨g1, 0, none⟩ = some (.int .i64 x) ∧
  Br (decide (x = 1))
    (∃ (xA : Option Addr) (xn xc : Nat), w1.cell? ⟨g1, 1, none⟩ = some (.slice xA xn xc) ∧
    Calls Tryd.prog 13 #[.slice xA xn xc] w1 (onRet (fun r_ w2 => Ip6V.ex fun h => ∃ x1 : Int, r_ = .tuple #[h.val, .int .i64 x1] ∧
    NewVC w2 (.cells (Ip6V.z : Ip6V).cells.toArray 30) fun g2 w3 =>
    Stores ⟨g2, 0, none⟩ 0 h.cells w3 fun w4 =>
    ∃ (xA1 : Option Addr) (xn1 xc1 : Nat), w4.cell? ⟨g1, 1, none⟩ = some (.slice xA1 xn1 xc1) ∧
    Calls Tryd.prog 14 #[.slice xA1 xn1 xc1] w4 (onRet (fun r_1 w5 => Ip6V.ex fun h1 => ∃ x11 : Int, r_1 = .tuple #[h1.val, .int .i64 x11] ∧
    NewVC w5 (.cells (Ip6V.z : Ip6V).cells.toArray 30) fun g3 w6 =>
    Stores ⟨g3, 0, none⟩ 0 h1.cells w6 fun w7 =>
    Ip6V.ex fun h2 => CellsAt w7 ⟨g2, 0, none⟩ 0 h2.cells ∧
    Ip6V.ex fun h3 => CellsAt w7 ⟨g3, 0, none⟩ 0 h3.cells ∧
    Calls Tryd.prog 18 #[h2.val, h3.val] w7 (onRet (fun r_2 w8 => ∃ x2 : Bool, r_2 = .bool x2 ∧
    Br x2
      (Calls Tryd.prog 17 #[.int .i64 x1] w8 (onRet (fun r_3 w9 => ∃ x3 : Int, r_3 = .int .i64 x3 ∧
      R (.returned (.bool (decide (x3 = x11)))) w9)
        (fun ch3 w9 => R (.panicked ch3) w9)))
      (R (.returned (.bool false)) w8))
      (fun ch2 w8 => R (.panicked ch2) w8)))
      (fun ch1 w5 => R (.panicked ch1) w5)))
      (fun ch w2 => R (.panicked ch) w2)))
    (Br (decide (x = 2))
      (∃ (xA2 : Option Addr) (xn2 xc2 : Nat), w1.cell? ⟨g1, 1, none⟩ = some (.slice xA2 xn2 xc2) ∧
      Calls Tryd.prog 37 #[.slice xA2 xn2 xc2] w1 (onRet (fun r_4 w10 => ∃ x4 : Bool, r_4 = .bool x4 ∧
      ∃ (xA3 : Option Addr) (xn3 xc3 : Nat), w10.cell? ⟨g1, 1, none⟩ = some (.slice xA3 xn3 xc3) ∧
      Calls Tryd.prog 66 #[.slice xA3 xn3 xc3] w10 (onRet (fun r_5 w11 => ∃ x5 : Bool, r_5 = .bool x5 ∧
      R (.returned (.bool (x4 == x5))) w11)
        (fun ch5 w11 => R (.panicked ch5) w11)))
        (fun ch4 w10 => R (.panicked ch4) w10)))
      (∃ x6 : Int, w1.cell? ⟨g1, 46, none⟩ = some (.int .i64 x6) ∧
  ∃ (xA4 : Option Addr) (xn4 xc4 : Nat), w1.cell? ⟨g1, 1, none⟩ = some (.slice xA4 xn4 xc4) ∧
  Calls Tryd.prog 24 #[.int .i64 x6, .slice xA4 xn4 xc4] w1 (onRet (fun r_6 w12 => ∃ (x0A : Option Addr) (x0n x0c : Nat), ∃ x12 : Int, ∃ (x2A : Option Addr) (x2n x2c : Nat), ∃ x31 : Int, r_6 = .tuple #[.slice x0A x0n x0c, .int .i64 x12, .slice x2A x2n x2c, .int .i64 x31] ∧
  ∃ x7 : Int, w12.cell? ⟨g1, 46, none⟩ = some (.int .i64 x7) ∧
  ∃ (xA5 : Option Addr) (xn5 xc5 : Nat), w12.cell? ⟨g1, 1, none⟩ = some (.slice xA5 xn5 xc5) ∧
  Calls Tryd.prog 67 #[.int .i64 x7, .slice xA5 xn5 xc5] w12 (onRet (fun r_7 w13 => ∃ (x0A1 : Option Addr) (x0n1 x0c1 : Nat), ∃ x13 : Int, ∃ (x2A1 : Option Addr) (x2n1 x2c1 : Nat), ∃ x32 : Int, r_7 = .tuple #[.slice x0A1 x0n1 x0c1, .int .i64 x13, .slice x2A1 x2n1 x2c1, .int .i64 x32] ∧
  Calls Tryd.prog 26 #[.slice x0A x0n x0c, .slice x0A1 x0n1 x0c1] w13 (onRet (fun r_8 w14 => ∃ x8 : Bool, r_8 = .bool x8 ∧
  Br x8
    (Br (decide (x12 = x13))
      (Calls Tryd.prog 20 #[.slice x2A x2n x2c, .slice x2A1 x2n1 x2c1] w14 (onRet (fun r_9 w15 => ∃ x9 : Bool, r_9 = .bool x9 ∧
      Br x9
        (Calls Tryd.prog 17 #[.int .i64 x31] w15 (onRet (fun r_10 w16 => ∃ x10 : Int, r_10 = .int .i64 x10 ∧
        R (.returned (.bool (decide (x10 = x32)))) w16)
          (fun ch10 w16 => R (.panicked ch10) w16)))
        (R (.returned (.bool false)) w15))
        (fun ch9 w15 => R (.panicked ch9) w15)))
      (R (.returned (.bool false)) w14))
    (R (.returned (.bool false)) w14))
    (fun ch8 w14 => R (.panicked ch8) w14)))
    (fun ch7 w13 => R (.panicked ch7) w13)))
    (fun ch6 w12 => R (.panicked ch6) w12))))
def weirlaw7_ofBytes_H : Hints := []
set_option maxRecDepth 100000 in
theorem weirlaw7_ofBytes_of (o : Op7V) (w : World) (R : Ending → World → Prop) (hvc_ : weirlaw7_ofBytes_VC o w R) :
    Calls Tryd.prog 41 #[o.val] w R :=
  calls_of_wpc callOk mixedOk (H := weirlaw7_ofBytes_H) (args := [o.val]) (fn := Tryd.f41) (c := bodyOf Tryd.f41) Tryd.func41 rfl (Nat.le_of_ble_eq_true rfl)
    (Eq.mp (by kernel_rfl : weirlaw7_ofBytes_VC o w R = wpc Tryd.prog callF Tryd.f41.ntmps weirlaw7_ofBytes_H 1 (bodyOf Tryd.f41) (argEnv 0 [o.val]) [] w (finish Tryd.prog callF Tryd.f41.results.toList R)) hvc_)

set_option maxRecDepth 100000 in
def weirlaw7_ofValues_VC (o : Op7V) (w : World) (R : Ending → World → Prop) : Prop :=
  NewVC w (.cells o.cells.toArray 90) fun g1 w1 =>
  ∃ x : Int, w1.cell? ⟨g1, 0, none⟩ = some (.int .i64 x) ∧
  Br (decide (x = 4))
    (Ip6V.ex fun h => CellsAt w1 ⟨g1, 2, none⟩ 0 h.cells ∧
    Calls Tryd.prog 19 #[h.val] w1 (onRet (fun r_ w2 => ∃ (x0A : Option Addr) (x0n x0c : Nat), ∃ x1 : Int, r_ = .tuple #[.slice x0A x0n x0c, .int .i64 x1] ∧
    Ip6V.ex fun h1 => CellsAt w2 ⟨g1, 2, none⟩ 0 h1.cells ∧
    Calls Tryd.prog 33 #[h1.val] w2 (onRet (fun r_1 w3 => ∃ (x0A1 : Option Addr) (x0n1 x0c1 : Nat), ∃ x11 : Int, r_1 = .tuple #[.slice x0A1 x0n1 x0c1, .int .i64 x11] ∧
    Calls Tryd.prog 20 #[.slice x0A x0n x0c, .slice x0A1 x0n1 x0c1] w3 (onRet (fun r_2 w4 => ∃ x2 : Bool, r_2 = .bool x2 ∧
    Br x2
      (Calls Tryd.prog 17 #[.int .i64 x1] w4 (onRet (fun r_3 w5 => ∃ x3 : Int, r_3 = .int .i64 x3 ∧
      R (.returned (.bool (decide (x3 = x11)))) w5)
        (fun ch3 w5 => R (.panicked ch3) w5)))
      (R (.returned (.bool false)) w4))
      (fun ch2 w4 => R (.panicked ch2) w4)))
      (fun ch1 w3 => R (.panicked ch1) w3)))
      (fun ch w2 => R (.panicked ch) w2)))
    (Br (decide (x = 5))
      (Ip6V.ex fun h2 => CellsAt w1 ⟨g1, 2, none⟩ 0 h2.cells ∧
      Calls Tryd.prog 38 #[h2.val] w1 (onRet (fun r_4 w6 => ∃ x4 : Int, r_4 = .int .i64 x4 ∧
      Ip6V.ex fun h3 => CellsAt w6 ⟨g1, 2, none⟩ 0 h3.cells ∧
      Calls Tryd.prog 68 #[h3.val] w6 (onRet (fun r_5 w7 => ∃ x5 : Int, r_5 = .int .i64 x5 ∧
      Calls Tryd.prog 17 #[.int .i64 x4] w7 (onRet (fun r_6 w8 => ∃ x6 : Int, r_6 = .int .i64 x6 ∧
      R (.returned (.bool (decide (x6 = x5)))) w8)
        (fun ch6 w8 => R (.panicked ch6) w8)))
        (fun ch5 w7 => R (.panicked ch5) w7)))
        (fun ch4 w6 => R (.panicked ch4) w6)))
      (Br (decide (x = 6))
        (Ip6V.ex fun h4 => CellsAt w1 ⟨g1, 2, none⟩ 0 h4.cells ∧
        Calls Tryd.prog 39 #[h4.val] w1 (onRet (fun r_7 w9 => ∃ x7 : Int, r_7 = .int .i64 x7 ∧
        Ip6V.ex fun h5 => CellsAt w9 ⟨g1, 2, none⟩ 0 h5.cells ∧
        Calls Tryd.prog 69 #[h5.val] w9 (onRet (fun r_8 w10 => ∃ x8 : Int, r_8 = .int .i64 x8 ∧
        R (.returned (.bool (decide (x7 = x8)))) w10)
          (fun ch8 w10 => R (.panicked ch8) w10)))
          (fun ch7 w9 => R (.panicked ch7) w9)))
        (∃ (xA : Option Addr) (xn xc : Nat), w1.cell? ⟨g1, 39, none⟩ = some (.slice xA xn xc) ∧
  ∃ x9 : Int, w1.cell? ⟨g1, 46, none⟩ = some (.int .i64 x9) ∧
  Calls Tryd.prog 25 #[.slice xA xn xc, .int .i64 x9] w1 (onRet (fun r_9 w11 => ∃ (x0A2 : Option Addr) (x0n2 x0c2 : Nat), ∃ x12 : Int, r_9 = .tuple #[.slice x0A2 x0n2 x0c2, .int .i64 x12] ∧
  ∃ (xA1 : Option Addr) (xn1 xc1 : Nat), w11.cell? ⟨g1, 39, none⟩ = some (.slice xA1 xn1 xc1) ∧
  ∃ x10 : Int, w11.cell? ⟨g1, 46, none⟩ = some (.int .i64 x10) ∧
  Calls Tryd.prog 59 #[.slice xA1 xn1 xc1, .int .i64 x10] w11 (onRet (fun r_10 w12 => ∃ (x0A3 : Option Addr) (x0n3 x0c3 : Nat), ∃ x13 : Int, r_10 = .tuple #[.slice x0A3 x0n3 x0c3, .int .i64 x13] ∧
  Calls Tryd.prog 20 #[.slice x0A2 x0n2 x0c2, .slice x0A3 x0n3 x0c3] w12 (onRet (fun r_11 w13 => ∃ x14 : Bool, r_11 = .bool x14 ∧
  Br x14
    (Calls Tryd.prog 17 #[.int .i64 x12] w13 (onRet (fun r_12 w14 => ∃ x15 : Int, r_12 = .int .i64 x15 ∧
    R (.returned (.bool (decide (x15 = x13)))) w14)
      (fun ch12 w14 => R (.panicked ch12) w14)))
    (R (.returned (.bool false)) w13))
    (fun ch11 w13 => R (.panicked ch11) w13)))
    (fun ch10 w12 => R (.panicked ch10) w12)))
    (fun ch9 w11 => R (.panicked ch9) w11)))))
def weirlaw7_ofValues_H : Hints := []
set_option maxRecDepth 100000 in
theorem weirlaw7_ofValues_of (o : Op7V) (w : World) (R : Ending → World → Prop) (hvc_ : weirlaw7_ofValues_VC o w R) :
    Calls Tryd.prog 42 #[o.val] w R :=
  calls_of_wpc callOk mixedOk (H := weirlaw7_ofValues_H) (args := [o.val]) (fn := Tryd.f42) (c := bodyOf Tryd.f42) Tryd.func42 rfl (Nat.le_of_ble_eq_true rfl)
    (Eq.mp (by kernel_rfl : weirlaw7_ofValues_VC o w R = wpc Tryd.prog callF Tryd.f42.ntmps weirlaw7_ofValues_H 1 (bodyOf Tryd.f42) (argEnv 0 [o.val]) [] w (finish Tryd.prog callF Tryd.f42.results.toList R)) hvc_)
end N6
end Go.Proofs.YtkiogaglmjeplaaDoor
/- Chapter 7's laws: one call against the document's. -/
namespace Go.Proofs.YtkiogaglmjeplaaDoor
namespace N6
open Go.Eng Go.RowKit
/-- A call, as it lies there. -/
structure Op7At (w : World) (o : Op7V) (l : List Int) (es : List ExtR) (data : List Int) : Prop where
  b : BytesAt w o.b l
  h : Ip6At w o.h es data
theorem Op7At.ext {w w' : World} {o : Op7V} {l : List Int} {es : List ExtR} {data : List Int} (h : Op7At w o l es data) (hE : Ext w w') : Op7At w' o l es data := ⟨h.b.ext hE, h.h.ext hE⟩
section
variable {w : World} {o : Op7V} {l : List Int} {es : List ExtR} {data : List Int}
set_option maxHeartbeats 4000000 in
theorem ofBytes_spec (hO : Op7At w o l es data) (hK : Kn w) : Calls Tryd.prog 41 #[o.val] w fun e w' => Ext w w' ∧ e = .returned (.bool true) := by
  refine weirlaw7_ofBytes_of o w _ ?_
  unfold weirlaw7_ofBytes_VC
  refine NewVC.sep (Sep.start0 w) fun g1 w1 H => ⟨_, H.cell 1 rfl 0 rfl, Br.dec (fun _ => ?_) fun _ => Br.dec (fun _ => ?_) fun _ => ?_⟩
  · refine ⟨_, _, _, H.cell 1 rfl 1 rfl, ?_⟩
    refine (parse_at (hO.b.ext (H.restOf 0 rfl)) (hK.ext (H.restOf 0 rfl))).mono ?_
    rintro _ w2 ⟨h, xs, dt, rfl, hd, hA, hE2⟩
    have H := H.ext hE2
    refine onRet_is (Ip6V.of h ⟨_, rfl, NewVC.sep (Sep.start0 w2) fun g2 w3 K => Stores.sep K 1 rfl (Ip6V.one h) (Nat.le_refl _) (splice_all rfl) fun w4 K => ?_⟩)
    have hE4 := K.restOf 0 rfl
    have hg2 := K.blk 1 rfl
    have H := H.ext hE4
    have hA := hA.ext hE4
    refine ⟨_, _, _, H.cell 1 rfl 1 rfl, ?_⟩
    refine (refParse_spec (hO.b.ext (H.restOf 0 rfl))).mono ?_
    rintro _ w5 ⟨h', xs', dt', rfl, hd', hA', hE5⟩
    have H := H.ext hE5
    have hA := hA.ext hE5
    have hg2 := hg2.ext hE5
    refine onRet_is (Ip6V.of h' ⟨_, rfl, NewVC.sep (Sep.start0 w5) fun g3 w6 K => Stores.sep K 1 rfl (Ip6V.one h') (Nat.le_refl _) (splice_all rfl) fun w7 K => ?_⟩)
    have hE7 := K.restOf 0 rfl
    have hg3 := K.blk 1 rfl
    have H := H.ext hE7
    refine Ip6V.of h ⟨CellsAt.blk (hg2.ext hE7), Ip6V.of h' ⟨CellsAt.blk hg3, ?_⟩⟩
    refine (same6_spec (hA.ext hE7) (hA'.ext hE7)).mono ?_
    rintro _ w8 ⟨x, rfl, hx, hE8⟩
    have hxt := hx.2 (hd.trans hd'.symm)
    subst hxt
    refine ⟨_, rfl, Br.t rfl ?_⟩
    refine num7_spec.mono ?_
    rintro _ w9 ⟨hw9, rfl⟩
    subst w9
    exact ⟨_, rfl, (H.restOf 0 rfl).trans hE8, by rw [decide_eq_true rfl]⟩
  · refine ⟨_, _, _, H.cell 1 rfl 1 rfl, ?_⟩
    refine (canonical_spec (hO.b.ext (H.restOf 0 rfl)) (hK.ext (H.restOf 0 rfl))).mono ?_
    rintro _ w10 ⟨hE10, rfl⟩
    have H := H.ext hE10
    refine ⟨_, rfl, _, _, _, H.cell 1 rfl 1 rfl, ?_⟩
    refine (refCanonical_spec (hO.b.ext (H.restOf 0 rfl))).mono ?_
    rintro _ w11 ⟨hE11, rfl⟩
    exact ⟨_, rfl, (H.restOf 0 rfl).trans hE11, by simp⟩
  · refine ⟨_, H.cell 1 rfl 46 rfl, _, _, _, H.cell 1 rfl 1 rfl, ?_⟩
    refine (chain_at (next := o.n) (hO.b.ext (H.restOf 0 rfl)) (hK.ext (H.restOf 0 rfl))).mono ?_
    rintro _ w12 ⟨se, sd, xs, dt, rfl, hx1, hd1, hX1, hD1, hE12⟩
    have H := H.ext hE12
    refine ⟨_, _, _, _, _, _, _, _, rfl, _, H.cell 1 rfl 46 rfl, _, _, _, H.cell 1 rfl 1 rfl, ?_⟩
    refine (refChained_spec (next := o.n) (hO.b.ext (H.restOf 0 rfl))).mono ?_
    rintro _ w13 ⟨se', sd', xs', dt', rfl, hx2, hd2, hX2, hD2, hE13⟩
    have H := H.ext hE13
    refine ⟨_, _, _, _, _, _, _, _, rfl, ?_⟩
    refine (sameExts7_spec (hX1.ext hE13) hX2).mono ?_
    rintro _ w14 ⟨x, rfl, hx, hE14⟩
    have hxt := hx.2 (hx1.trans hx2.symm)
    subst hxt
    have H := H.ext hE14
    refine ⟨_, rfl, Br.t rfl (Br.yes rfl ?_)⟩
    refine (alike7_spec ((hD1.ext hE13).ext hE14) (hD2.ext hE14)).mono ?_
    rintro _ w15 ⟨hw15, rfl⟩
    subst w15
    rw [decide_eq_true (hd1.trans hd2.symm)]
    refine ⟨_, rfl, Br.t rfl ?_⟩
    refine num7_spec.mono ?_
    rintro _ w16 ⟨hw16, rfl⟩
    subst w16
    exact ⟨_, rfl, H.restOf 0 rfl, by rw [decide_eq_true rfl]⟩
theorem op_h {g : Nat} {w1 : World} (hb : Blk w1 g 90 o.cells) : CellsAt w1 ⟨g, 2, none⟩ 0 o.h.cells := by
  refine CellsAt.of o.h.cells 0 fun j v hv => ?_
  rw [addr_add, Nat.zero_add]
  refine (hb.cell (2 + j)).trans ?_
  have hj : j < o.h.cells.length := (List.getElem?_eq_some_iff.1 hv).1
  have e : o.cells = [.int .i64 o.kind, .slice o.b.A o.b.n o.b.k] ++ (o.h.cells ++ [.int .i64 o.n]) := rfl
  rw [e, List.getElem?_append_right (by simp), show 2 + j - [Value.int IntKind.i64 o.kind, Value.slice o.b.A o.b.n o.b.k].length = j by simp, List.getElem?_append_left hj, hv]
set_option maxHeartbeats 4000000 in
theorem ofValues_spec (hO : Op7At w o l es data) (hK : Kn w) : Calls Tryd.prog 42 #[o.val] w fun e w' => Ext w w' ∧ e = .returned (.bool true) := by
  refine weirlaw7_ofValues_of o w _ ?_
  unfold weirlaw7_ofValues_VC
  refine NewVC.sep (Sep.start0 w) fun g1 w1 H => ⟨_, H.cell 1 rfl 0 rfl, Br.dec (fun _ => ?_) fun _ => Br.dec (fun _ => ?_) fun _ => Br.dec (fun _ => ?_) fun _ => ?_⟩
  · refine Ip6V.of o.h ⟨op_h (H.blk 1 rfl), ?_⟩
    refine (ser_at (hO.h.ext (H.restOf 0 rfl)) (hK.ext (H.restOf 0 rfl))).mono ?_
    rintro _ w2 ⟨s1, rfl, hs1, hE2⟩
    have H := H.ext hE2
    refine ⟨_, _, _, _, rfl, Ip6V.of o.h ⟨op_h (H.blk 1 rfl), ?_⟩⟩
    refine (refSer_at (hO.h.ext (H.restOf 0 rfl))).mono ?_
    rintro _ w3 ⟨s2, rfl, hs2, hE3⟩
    have H := H.ext hE3
    refine ⟨_, _, _, _, rfl, ?_⟩
    refine (alike7_spec (hs1.ext hE3) hs2).mono ?_
    rintro _ w4 ⟨hw4, rfl⟩
    subst w4
    rw [decide_eq_true rfl]
    refine ⟨_, rfl, Br.t rfl ?_⟩
    refine num7_spec.mono ?_
    rintro _ w5 ⟨hw5, rfl⟩
    subst w5
    exact ⟨_, rfl, H.restOf 0 rfl, by rw [decide_eq_true rfl]⟩
  · refine Ip6V.of o.h ⟨op_h (H.blk 1 rfl), ?_⟩
    refine (check6_spec (hO.h.ext (H.restOf 0 rfl)) (hK.ext (H.restOf 0 rfl))).mono ?_
    rintro _ w6 ⟨hE6, rfl⟩
    have H := H.ext hE6
    refine ⟨_, rfl, Ip6V.of o.h ⟨op_h (H.blk 1 rfl), ?_⟩⟩
    refine (refCheck6_spec (hO.h.ext (H.restOf 0 rfl))).mono ?_
    rintro _ w7 ⟨hE7, rfl⟩
    have H := H.ext hE7
    refine ⟨_, rfl, ?_⟩
    refine num7_spec.mono ?_
    rintro _ w8 ⟨hw8, rfl⟩
    subst w8
    exact ⟨_, rfl, H.restOf 0 rfl, by rw [decide_eq_true rfl]⟩
  · refine Ip6V.of o.h ⟨op_h (H.blk 1 rfl), ?_⟩
    refine (size6_spec (hO.h.ext (H.restOf 0 rfl)) (hK.ext (H.restOf 0 rfl))).mono ?_
    rintro _ w9 ⟨hE9, rfl⟩
    have H := H.ext hE9
    refine ⟨_, rfl, Ip6V.of o.h ⟨op_h (H.blk 1 rfl), ?_⟩⟩
    refine (refSize6_spec (hO.h.ext (H.restOf 0 rfl))).mono ?_
    rintro _ w10 ⟨hE10, rfl⟩
    have H := H.ext hE10
    exact ⟨_, rfl, H.restOf 0 rfl, by rw [decide_eq_true rfl]⟩
  · refine ⟨_, _, _, H.cell 1 rfl 39 rfl, _, H.cell 1 rfl 46 rfl, ?_⟩
    refine (put_at (next := o.n) (hO.h.exts.ext (H.restOf 0 rfl)) (hK.ext (H.restOf 0 rfl))).mono ?_
    rintro _ w11 ⟨s1, rfl, hs1, hE11⟩
    have H := H.ext hE11
    refine ⟨_, _, _, _, rfl, _, _, _, H.cell 1 rfl 39 rfl, _, H.cell 1 rfl 46 rfl, ?_⟩
    refine (refPut_at (next := o.n) (hO.h.exts.ext (H.restOf 0 rfl))).mono ?_
    rintro _ w12 ⟨s2, rfl, hs2, hE12⟩
    have H := H.ext hE12
    refine ⟨_, _, _, _, rfl, ?_⟩
    refine (alike7_spec (hs1.ext hE12) hs2).mono ?_
    rintro _ w13 ⟨hw13, rfl⟩
    subst w13
    rw [decide_eq_true rfl]
    refine ⟨_, rfl, Br.t rfl ?_⟩
    refine num7_spec.mono ?_
    rintro _ w14 ⟨hw14, rfl⟩
    subst w14
    exact ⟨_, rfl, H.restOf 0 rfl, by rw [decide_eq_true rfl]⟩
end
end N6
end Go.Proofs.YtkiogaglmjeplaaDoor
