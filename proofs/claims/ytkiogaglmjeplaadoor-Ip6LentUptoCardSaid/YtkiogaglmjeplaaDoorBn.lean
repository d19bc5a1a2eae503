/- WRITTEN BY a program of this session (vc.py): for each Go function the condition that is enough for its contract, and the theorem that it is. -/
import Derived.Test.YtkiogaglmjeplaaDoorProg
import Derived.Test.YtkiogaglmjeplaaDoorBq
import Derived.Test.YtkiogaglmjeplaaDoorBl
import Derived.Test.YtkiogaglmjeplaaDoorBe
import Derived.Test.YtkiogaglmjeplaaDoorBm
namespace Go.Proofs.YtkiogaglmjeplaaDoor
open Go.Eng
namespace N6

set_option maxRecDepth 100000 in
def weirref7_Alike_VC (aA : Option Addr) (an : Nat) (ac : Nat) (bA : Option Addr) (bn : Nat) (bc : Nat) (w : World) (R : Ending → World → Prop) : Prop :=
  StrVC Tryd.prog (.slice aA an ac) w fun str =>
  StrVC Tryd.prog (.slice bA bn bc) w fun str1 =>
  R (.returned (.bool (str.toList == str1.toList))) w
def weirref7_Alike_H : Hints := []
set_option maxRecDepth 100000 in
theorem weirref7_Alike_of (aA : Option Addr) (an : Nat) (ac : Nat) (bA : Option Addr) (bn : Nat) (bc : Nat) (w : World) (R : Ending → World → Prop) (hvc_ : weirref7_Alike_VC aA an ac bA bn bc w R) :
    Calls Tryd.prog 20 #[.slice aA an ac, .slice bA bn bc] w R :=
  calls_of_wpc callOk mixedOk (H := weirref7_Alike_H) (args := [.slice aA an ac, .slice bA bn bc]) (fn := Tryd.f20) (c := bodyOf Tryd.f20) Tryd.func20 rfl (Nat.le_of_ble_eq_true rfl)
    (Eq.mp (by kernel_rfl : weirref7_Alike_VC aA an ac bA bn bc w R = wpc Tryd.prog callF Tryd.f20.ntmps weirref7_Alike_H 1 (bodyOf Tryd.f20) (argEnv 0 [.slice aA an ac, .slice bA bn bc]) [] w (finish Tryd.prog callF Tryd.f20.results.toList R)) hvc_)

set_option maxRecDepth 100000 in
def weirref7_SameOpts_L58 (R : Ending → World → Prop) (aA : Option Addr) (an : Nat) (bA : Option Addr) (bn : Nat) (i : Int) (w1 : World) (K58 : (Int → World → Prop)) : Prop :=
  Br (decide (i < (an : Int)))
    (DrawVC w1 fun S1 w2 =>
  IdxVC aA an 2 i fun a =>
  ∃ x : Int, (∀ w' : World, S1 w' → w'.cell? a = some (.int .i64 x)) ∧
  IdxVC bA bn 2 i fun a1 =>
  ∃ x1 : Int, (∀ w' : World, S1 w' → w'.cell? a1 = some (.int .i64 x1)) ∧
  Br (decide (x ≠ x1))
    (R (.returned (.bool false)) w2)
    (IdxVC aA an 2 i fun a2 =>
    ∃ (xA : Option Addr) (xn xc : Nat), (∀ w' : World, S1 w' → w'.cell? (a2.add 1) = some (.slice xA xn xc)) ∧
    IdxVC bA bn 2 i fun a3 =>
    ∃ (xA1 : Option Addr) (xn1 xc1 : Nat), (∀ w' : World, S1 w' → w'.cell? (a3.add 1) = some (.slice xA1 xn1 xc1)) ∧
    Calls Tryd.prog 20 #[.slice xA xn xc, .slice xA1 xn1 xc1] w2 (onRet (fun r_ w3 => ∃ x2 : Bool, r_ = .bool x2 ∧
    S1 w3 ∧
    Br (!x2)
    (R (.returned (.bool false)) w3)
    (K58 (IntKind.i64.wrap (i + 1)) w3))
      (fun _ _ => False))))
    (R (.returned (.bool true)) w1)
set_option maxRecDepth 100000 in
def weirref7_SameOpts_VC (aA : Option Addr) (an : Nat) (_ac : Nat) (bA : Option Addr) (bn : Nat) (_bc : Nat) (w : World) (R : Ending → World → Prop) : Prop :=
  Br (decide ((an : Int) ≠ (bn : Int)))
    (R (.returned (.bool false)) w)
    (LoopVC (S := Int) (fun s_ w1 K58 => weirref7_SameOpts_L58 R aA an bA bn s_ w1 K58) 0 w)
def weirref7_SameOpts_H : Hints := [(58, [(5, .int .i64)])]
set_option maxRecDepth 100000 in
theorem weirref7_SameOpts_of (aA : Option Addr) (an : Nat) (ac : Nat) (bA : Option Addr) (bn : Nat) (bc : Nat) (w : World) (R : Ending → World → Prop) (hvc_ : weirref7_SameOpts_VC aA an ac bA bn bc w R) :
    Calls Tryd.prog 55 #[.slice aA an ac, .slice bA bn bc] w R :=
  calls_of_wpc callOk mixedOk (H := weirref7_SameOpts_H) (args := [.slice aA an ac, .slice bA bn bc]) (fn := Tryd.f55) (c := bodyOf Tryd.f55) Tryd.func55 rfl (Nat.le_of_ble_eq_true rfl)
    (Eq.mp (by kernel_rfl : weirref7_SameOpts_VC aA an ac bA bn bc w R = wpc Tryd.prog callF Tryd.f55.ntmps weirref7_SameOpts_H 1 (bodyOf Tryd.f55) (argEnv 0 [.slice aA an ac, .slice bA bn bc]) [] w (finish Tryd.prog callF Tryd.f55.results.toList R)) hvc_)

set_option maxRecDepth 100000 in
def weirref7_SameExts_L58 (R : Ending → World → Prop) (aA : Option Addr) (an : Nat) (bA : Option Addr) (bn : Nat) (i : Int) (w1 : World) (K58 : (Int → World → Prop)) : Prop :=
  Br (decide (i < (an : Int)))
    (DrawVC w1 fun S1 w2 =>
  IdxVC aA an 3 i fun a =>
  ∃ x : Int, (∀ w' : World, S1 w' → w'.cell? a = some (.int .i64 x)) ∧
  IdxVC bA bn 3 i fun a1 =>
  ∃ x1 : Int, (∀ w' : World, S1 w' → w'.cell? a1 = some (.int .i64 x1)) ∧
  Br (decide (x ≠ x1))
    (R (.returned (.bool false)) w2)
    (IdxVC aA an 3 i fun a2 =>
    ∃ (xA : Option Addr) (xn xc : Nat), (∀ w' : World, S1 w' → w'.cell? (a2.add 2) = some (.slice xA xn xc)) ∧
    IdxVC bA bn 3 i fun a3 =>
    ∃ (xA1 : Option Addr) (xn1 xc1 : Nat), (∀ w' : World, S1 w' → w'.cell? (a3.add 2) = some (.slice xA1 xn1 xc1)) ∧
    Calls Tryd.prog 20 #[.slice xA xn xc, .slice xA1 xn1 xc1] w2 (onRet (fun r_ w3 => ∃ x2 : Bool, r_ = .bool x2 ∧
    S1 w3 ∧
    Br (!x2)
      (R (.returned (.bool false)) w3)
      (IdxVC aA an 3 i fun a4 =>
      ∃ (xA2 : Option Addr) (xn2 xc2 : Nat), (∀ w' : World, S1 w' → w'.cell? (a4.add 1) = some (.slice xA2 xn2 xc2)) ∧
      IdxVC bA bn 3 i fun a5 =>
      ∃ (xA3 : Option Addr) (xn3 xc3 : Nat), (∀ w' : World, S1 w' → w'.cell? (a5.add 1) = some (.slice xA3 xn3 xc3)) ∧
      Calls Tryd.prog 55 #[.slice xA2 xn2 xc2, .slice xA3 xn3 xc3] w3 (onRet (fun r_1 w4 => ∃ x3 : Bool, r_1 = .bool x3 ∧
      S1 w4 ∧
      Br (!x3)
    (R (.returned (.bool false)) w4)
    (K58 (IntKind.i64.wrap (i + 1)) w4))
        (fun _ _ => False))))
      (fun _ _ => False))))
    (R (.returned (.bool true)) w1)
set_option maxRecDepth 100000 in
def weirref7_SameExts_VC (aA : Option Addr) (an : Nat) (_ac : Nat) (bA : Option Addr) (bn : Nat) (_bc : Nat) (w : World) (R : Ending → World → Prop) : Prop :=
  Br (decide ((an : Int) ≠ (bn : Int)))
    (R (.returned (.bool false)) w)
    (LoopVC (S := Int) (fun s_ w1 K58 => weirref7_SameExts_L58 R aA an bA bn s_ w1 K58) 0 w)
def weirref7_SameExts_H : Hints := [(58, [(5, .int .i64)])]
set_option maxRecDepth 100000 in
theorem weirref7_SameExts_of (aA : Option Addr) (an : Nat) (ac : Nat) (bA : Option Addr) (bn : Nat) (bc : Nat) (w : World) (R : Ending → World → Prop) (hvc_ : weirref7_SameExts_VC aA an ac bA bn bc w R) :
    Calls Tryd.prog 26 #[.slice aA an ac, .slice bA bn bc] w R :=
  calls_of_wpc callOk mixedOk (H := weirref7_SameExts_H) (args := [.slice aA an ac, .slice bA bn bc]) (fn := Tryd.f26) (c := bodyOf Tryd.f26) Tryd.func26 rfl (Nat.le_of_ble_eq_true rfl)
    (Eq.mp (by kernel_rfl : weirref7_SameExts_VC aA an ac bA bn bc w R = wpc Tryd.prog callF Tryd.f26.ntmps weirref7_SameExts_H 1 (bodyOf Tryd.f26) (argEnv 0 [.slice aA an ac, .slice bA bn bc]) [] w (finish Tryd.prog callF Tryd.f26.results.toList R)) hvc_)

set_option maxRecDepth 100000 in
def weirref7_Same_VC (a : Ip6V) (b : Ip6V) (w : World) (R : Ending → World → Prop) : Prop :=
  NewVC w (.cells a.cells.toArray 30) fun g1 w1 =>
  NewVC w1 (.cells b.cells.toArray 30) fun g2 w2 =>
  ∃ x : Int, w2.cell? ⟨g1, 0, none⟩ = some (.int .i64 x) ∧
  ∃ x1 : Int, w2.cell? ⟨g2, 0, none⟩ = some (.int .i64 x1) ∧
  Br (decide (x ≠ x1))
    (R (.returned (.bool false)) w2)
    (∃ x2 : Int, w2.cell? ⟨g1, 1, none⟩ = some (.int .i64 x2) ∧
    ∃ x3 : Int, w2.cell? ⟨g2, 1, none⟩ = some (.int .i64 x3) ∧
    Br (decide (x2 ≠ x3))
      (R (.returned (.bool false)) w2)
      (∃ x4 : Int, w2.cell? ⟨g1, 2, none⟩ = some (.int .i64 x4) ∧
      ∃ x5 : Int, w2.cell? ⟨g2, 2, none⟩ = some (.int .i64 x5) ∧
      Br (decide (x4 ≠ x5))
        (R (.returned (.bool false)) w2)
        (IPV.ex fun h => CellsAt w2 ⟨g1, 3, none⟩ 0 h.cells ∧
        IPV.ex fun h1 => CellsAt w2 ⟨g2, 3, none⟩ 0 h1.cells ∧
        Br (!((IPV.beq h h1)))
          (R (.returned (.bool false)) w2)
          (IPV.ex fun h2 => CellsAt w2 ⟨g1, 20, none⟩ 0 h2.cells ∧
          IPV.ex fun h3 => CellsAt w2 ⟨g2, 20, none⟩ 0 h3.cells ∧
          Br (!((IPV.beq h2 h3)))
            (R (.returned (.bool false)) w2)
            (FragV.ex fun h4 => CellsAt w2 ⟨g1, 38, none⟩ 0 h4.cells ∧
            FragV.ex fun h5 => CellsAt w2 ⟨g2, 38, none⟩ 0 h5.cells ∧
            Br (!((FragV.beq h4 h5)))
              (R (.returned (.bool false)) w2)
              (∃ x6 : Int, w2.cell? ⟨g1, 42, none⟩ = some (.int .i64 x6) ∧
              ∃ x7 : Int, w2.cell? ⟨g2, 42, none⟩ = some (.int .i64 x7) ∧
              Br (decide (x6 ≠ x7))
    (R (.returned (.bool false)) w2)
    (∃ (xA : Option Addr) (xn xc : Nat), w2.cell? ⟨g1, 37, none⟩ = some (.slice xA xn xc) ∧
  ∃ (xA1 : Option Addr) (xn1 xc1 : Nat), w2.cell? ⟨g2, 37, none⟩ = some (.slice xA1 xn1 xc1) ∧
  Calls Tryd.prog 26 #[.slice xA xn xc, .slice xA1 xn1 xc1] w2 (onRet (fun r_ w3 => ∃ x8 : Bool, r_ = .bool x8 ∧
  Br x8
    (∃ (xA2 : Option Addr) (xn2 xc2 : Nat), w3.cell? ⟨g1, 43, none⟩ = some (.slice xA2 xn2 xc2) ∧
    ∃ (xA3 : Option Addr) (xn3 xc3 : Nat), w3.cell? ⟨g2, 43, none⟩ = some (.slice xA3 xn3 xc3) ∧
    Calls Tryd.prog 20 #[.slice xA2 xn2 xc2, .slice xA3 xn3 xc3] w3 (onRet (fun r_1 w4 => ∃ x9 : Bool, r_1 = .bool x9 ∧
    R (.returned (.bool x9)) w4)
      (fun ch1 w4 => R (.panicked ch1) w4)))
    (R (.returned (.bool false)) w3))
    (fun ch w3 => R (.panicked ch) w3)))))))))
def weirref7_Same_H : Hints := []
set_option maxRecDepth 100000 in
theorem weirref7_Same_of (a : Ip6V) (b : Ip6V) (w : World) (R : Ending → World → Prop) (hvc_ : weirref7_Same_VC a b w R) :
    Calls Tryd.prog 18 #[a.val, b.val] w R :=
  calls_of_wpc callOk mixedOk (H := weirref7_Same_H) (args := [a.val, b.val]) (fn := Tryd.f18) (c := bodyOf Tryd.f18) Tryd.func18 rfl (Nat.le_of_ble_eq_true rfl)
    (Eq.mp (by kernel_rfl : weirref7_Same_VC a b w R = wpc Tryd.prog callF Tryd.f18.ntmps weirref7_Same_H 1 (bodyOf Tryd.f18) (argEnv 0 [a.val, b.val]) [] w (finish Tryd.prog callF Tryd.f18.results.toList R)) hvc_)
end N6
end Go.Proofs.YtkiogaglmjeplaaDoor
/- Whether two things hold the same: bytes, options, headers, datagrams. -/
namespace Go.Eng
open Go Go.RowKit
theorem IdxVC.recD {w : World} {A : Option Addr} {size n : Nat} {rs : List (List Value)} {i : Nat} {cs : List Value} {F : Addr → Prop} (S : World → Prop) (hw : S w) (hS : ∀ w', S w' → Recs w' A size rs) (hl : rs.length = n) (hi : rs[i]? = some cs)
    (hF : ∀ a, (∀ w', S w' → CellsAt w' a 0 cs) → F a) : IdxVC A n size (i : Int) F := by
  have hlt := (List.getElem?_eq_some_iff.1 hi).1
  obtain ⟨a, ha, _⟩ := hS w hw i cs hi
  refine ⟨a, ha, by omega, by omega, hF _ fun w' hw' => ?_⟩
  obtain ⟨b, hb, hc⟩ := hS w' hw' i cs hi
  rw [ha] at hb; cases hb
  rw [Int.toNat_natCast]; exact hc
theorem takes_step {α : Type} {xs ys : List α} {i : Nat} {x y : α} (hx : xs[i]? = some x) (hy : ys[i]? = some y) (ht : xs.take i = ys.take i) (h : x = y) : xs.take (i + 1) = ys.take (i + 1) := by
  rw [List.take_add_one, List.take_add_one, ht, hx, hy, h]
theorem takes_ne {α : Type} {xs ys : List α} {i : Nat} {x y : α} (hx : xs[i]? = some x) (hy : ys[i]? = some y) (h : x ≠ y) : xs ≠ ys := fun e => h (by rw [e, hy] at hx; injection hx with hx; exact hx.symm)
theorem no_iff {P : Prop} (h : ¬ P) : (false = true) ↔ P := ⟨(fun x => by cases x), fun x => absurd x h⟩
theorem yes_iff {P : Prop} (h : P) : (true = true) ↔ P := ⟨fun _ => h, fun _ => rfl⟩
theorem ipv_beq {a b : IPV} : IPV.beq a b = true ↔ a = b := by
  cases a; cases b
  unfold IPV.beq
  simp only [Bool.and_eq_true, decide_eq_true_eq, IPV.mk.injEq, and_true]
theorem frag_beq {a b : FragV} : FragV.beq a b = true ↔ a = b := by
  cases a; cases b
  unfold FragV.beq
  simp only [Bool.and_eq_true, decide_eq_true_eq, beq_iff_eq, FragV.mk.injEq, and_true]
end Go.Eng
namespace Go.Proofs.YtkiogaglmjeplaaDoor
namespace N6
open Go.Eng Go.RowKit
/-- A call that tells whether. -/
def Tells (w : World) (P : Prop) (e : Ending) (w' : World) : Prop := ∃ b : Bool, e = .returned (.bool b) ∧ (b = true ↔ P) ∧ Ext w w'
section
variable {w : World} {s t : Sl} {xs ys : List Int}
theorem Tells.no {w' : World} {P : Prop} (hE : Ext w w') (h : ¬ P) : Tells w P (.returned (.bool false)) w' := ⟨false, rfl, no_iff h, hE⟩
theorem Tells.yes {w' : World} {P : Prop} (hE : Ext w w') (h : P) : Tells w P (.returned (.bool true)) w' := ⟨true, rfl, yes_iff h, hE⟩
theorem alike7_spec (hx : BytesAt w s xs) (hy : BytesAt w t ys) : Calls Tryd.prog 20 #[s.val, t.val] w fun e w' => w' = w ∧ e = .returned (.bool (decide (xs = ys))) := by
  refine weirref7_Alike_of s.A s.n s.k t.A t.n t.k w _ ?_
  unfold weirref7_Alike_VC
  rw [← hx.len, ← hy.len]
  refine StrVC.of hx.cells (StrVC.of hy.cells ⟨rfl, ?_⟩)
  rw [str_eq xs ys hx.bts hy.bts]
theorem OptsAt.idxD {S : World → Prop} {rs : List OptR} (hw : S w) (hS : ∀ w', S w' → OptsAt w' s rs) {i : Nat} {r : OptR} (hi : rs[i]? = some r) {F : Addr → Prop} (hF : ∀ a, (∀ w', S w' → CellsAt w' a 0 r.v.cells) → F a) : IdxVC s.A s.n 2 (i : Int) F :=
  IdxVC.recD S hw (fun w' h => (hS w' h).recs) (by simpa using (hS w hw).len) (cs := r.v.cells) (by rw [List.getElem?_map, hi]; rfl) hF
theorem ExtsAt.idxD {S : World → Prop} {rs : List ExtR} (hw : S w) (hS : ∀ w', S w' → ExtsAt w' s rs) {i : Nat} {r : ExtR} (hi : rs[i]? = some r) {F : Addr → Prop} (hF : ∀ a, (∀ w', S w' → CellsAt w' a 0 r.v.cells) → F a) : IdxVC s.A s.n 3 (i : Int) F :=
  IdxVC.recD S hw (fun w' h => (hS w' h).recs) (by simpa using (hS w hw).len) (cs := r.v.cells) (by rw [List.getElem?_map, hi]; rfl) hF
theorem c0 {v : Value} {a : Addr} {r : List Value} (h : CellsAt w a 0 (v :: r)) : w.cell? a = some v := by simpa [add_zero] using h.1
theorem c1 {u v : Value} {a : Addr} {r : List Value} (h : CellsAt w a 0 (u :: v :: r)) : w.cell? (a.add 1) = some v := h.2.1
theorem c2 {u v x : Value} {a : Addr} {r : List Value} (h : CellsAt w a 0 (u :: v :: x :: r)) : w.cell? (a.add 2) = some x := h.2.2.1
theorem optD_ne {a b : OptD} (h : ¬ (a.kind = b.kind ∧ a.data = b.data)) : a ≠ b := fun e => h (by subst e; exact ⟨rfl, rfl⟩)
theorem extD_ne {a b : ExtD} (h : ¬ (a.kind = b.kind ∧ a.opts = b.opts ∧ a.data = b.data)) : a ≠ b := fun e => h (by subst e; exact ⟨rfl, rfl, rfl⟩)
set_option maxHeartbeats 1000000 in
theorem sameOpts7_spec {ra rb : List OptR} (ha : OptsAt w s ra) (hb : OptsAt w t rb) : Calls Tryd.prog 55 #[s.val, t.val] w (Tells w (ra.map OptR.d = rb.map OptR.d)) := by
  refine weirref7_SameOpts_of s.A s.n s.k t.A t.n t.k w _ ?_
  unfold weirref7_SameOpts_VC
  have la := ha.len
  have lb := hb.len
  have hs := ha.small
  refine Br.dec (fun hne => Tells.no (Mod.refl _ _) fun e => hne (by have := congrArg List.length e; simp at this; omega)) fun heq => ?_
  refine LoopVC.of (fun st w' => ∃ i : Nat, st = (i : Int) ∧ i ≤ s.n ∧ (ra.map OptR.d).take i = (rb.map OptR.d).take i ∧ Ext w w') (fun st _ => ((s.n : Int) - st).toNat) ⟨0, rfl, Nat.zero_le _, rfl, Mod.refl _ _⟩ ?_
  rintro _ w1 ⟨i, rfl, hi, ht, hE⟩
  unfold weirref7_SameOpts_L58
  refine Br.dec (fun hlt => ?_) fun hge => ?_
  · have hra : ra[i]? = some ra[i] := List.getElem?_eq_getElem (by omega)
    have hrb : rb[i]? = some rb[i] := List.getElem?_eq_getElem (by omega)
    have hda : (ra.map OptR.d)[i]? = some ra[i].d := by rw [List.getElem?_map, hra]; rfl
    have hdb : (rb.map OptR.d)[i]? = some rb[i].d := by rw [List.getElem?_map, hrb]; rfl
    refine DrawVC.of (fun w' => OptsAt w' s ra ∧ OptsAt w' t rb) fun w2 hE2 _ => ⟨⟨ha.ext (hE.trans hE2), hb.ext (hE.trans hE2)⟩, ?_⟩
    have hE := hE.trans hE2
    have hS2 : OptsAt w2 s ra ∧ OptsAt w2 t rb := ⟨ha.ext hE, hb.ext hE⟩
    refine OptsAt.idxD (S := fun w' => OptsAt w' s ra ∧ OptsAt w' t rb) hS2 (fun w' h => h.1) hra fun a hca => ⟨_, fun w' h => c0 (hca w' h), ?_⟩
    refine OptsAt.idxD (S := fun w' => OptsAt w' s ra ∧ OptsAt w' t rb) hS2 (fun w' h => h.2) hrb fun b hcb => ⟨_, fun w' h => c0 (hcb w' h), ?_⟩
    refine Br.dec (fun hk => Tells.no hE (takes_ne hda hdb (optD_ne fun x => hk x.1))) fun hk => ?_
    refine OptsAt.idxD (S := fun w' => OptsAt w' s ra ∧ OptsAt w' t rb) hS2 (fun w' h => h.1) hra fun a hca => ⟨_, _, _, fun w' h => c1 (hca w' h), ?_⟩
    refine OptsAt.idxD (S := fun w' => OptsAt w' s ra ∧ OptsAt w' t rb) hS2 (fun w' h => h.2) hrb fun b hcb => ⟨_, _, _, fun w' h => c1 (hcb w' h), ?_⟩
    refine (alike7_spec (s := ra[i].v.data) (t := rb[i].v.data) ((ha.each _ (List.getElem_mem _)).ext hE) ((hb.each _ (List.getElem_mem _)).ext hE)).mono ?_
    rintro _ w3 ⟨rfl, rfl⟩
    refine ⟨_, rfl, hS2, ?_⟩
    by_cases hd : ra[i].data = rb[i].data
    · rw [decide_eq_true hd]
      refine Br.f rfl ?_
      rw [w64 (by omega) (by omega)]
      refine ⟨⟨i + 1, by omega, by omega, takes_step hda hdb ht ?_, hE⟩, by omega⟩
      have hk : ra[i].v.kind = rb[i].v.kind := Classical.not_not.1 hk
      unfold OptR.d; rw [hk, hd]
    · rw [decide_eq_false hd]
      exact Br.t rfl (Tells.no hE (takes_ne hda hdb (optD_ne fun x => hd x.2)))
  · refine Tells.yes hE ?_
    rwa [List.take_of_length_le (by simp; omega), List.take_of_length_le (by simp; omega)] at ht
set_option maxHeartbeats 1000000 in
theorem sameExts7_spec {ra rb : List ExtR} (ha : ExtsAt w s ra) (hb : ExtsAt w t rb) : Calls Tryd.prog 26 #[s.val, t.val] w (Tells w (ra.map ExtR.d = rb.map ExtR.d)) := by
  refine weirref7_SameExts_of s.A s.n s.k t.A t.n t.k w _ ?_
  unfold weirref7_SameExts_VC
  have la := ha.len
  have lb := hb.len
  have hs := ha.small
  refine Br.dec (fun hne => Tells.no (Mod.refl _ _) fun e => hne (by have := congrArg List.length e; simp at this; omega)) fun heq => ?_
  refine LoopVC.of (fun st w' => ∃ i : Nat, st = (i : Int) ∧ i ≤ s.n ∧ (ra.map ExtR.d).take i = (rb.map ExtR.d).take i ∧ Ext w w') (fun st _ => ((s.n : Int) - st).toNat) ⟨0, rfl, Nat.zero_le _, rfl, Mod.refl _ _⟩ ?_
  rintro _ w1 ⟨i, rfl, hi, ht, hE⟩
  unfold weirref7_SameExts_L58
  refine Br.dec (fun hlt => ?_) fun hge => ?_
  · have hra : ra[i]? = some ra[i] := List.getElem?_eq_getElem (by omega)
    have hrb : rb[i]? = some rb[i] := List.getElem?_eq_getElem (by omega)
    have hda : (ra.map ExtR.d)[i]? = some ra[i].d := by rw [List.getElem?_map, hra]; rfl
    have hdb : (rb.map ExtR.d)[i]? = some rb[i].d := by rw [List.getElem?_map, hrb]; rfl
    refine DrawVC.of (fun w' => ExtsAt w' s ra ∧ ExtsAt w' t rb) fun w2 hE2 _ => ⟨⟨ha.ext (hE.trans hE2), hb.ext (hE.trans hE2)⟩, ?_⟩
    have hE := hE.trans hE2
    have hS2 : ExtsAt w2 s ra ∧ ExtsAt w2 t rb := ⟨ha.ext hE, hb.ext hE⟩
    refine ExtsAt.idxD (S := fun w' => ExtsAt w' s ra ∧ ExtsAt w' t rb) hS2 (fun w' h => h.1) hra fun a hca => ⟨_, fun w' h => c0 (hca w' h), ?_⟩
    refine ExtsAt.idxD (S := fun w' => ExtsAt w' s ra ∧ ExtsAt w' t rb) hS2 (fun w' h => h.2) hrb fun b hcb => ⟨_, fun w' h => c0 (hcb w' h), ?_⟩
    refine Br.dec (fun hk => Tells.no hE (takes_ne hda hdb (extD_ne fun x => hk x.1))) fun hk => ?_
    refine ExtsAt.idxD (S := fun w' => ExtsAt w' s ra ∧ ExtsAt w' t rb) hS2 (fun w' h => h.1) hra fun a hca => ⟨_, _, _, fun w' h => c2 (hca w' h), ?_⟩
    refine ExtsAt.idxD (S := fun w' => ExtsAt w' s ra ∧ ExtsAt w' t rb) hS2 (fun w' h => h.2) hrb fun b hcb => ⟨_, _, _, fun w' h => c2 (hcb w' h), ?_⟩
    refine (alike7_spec (s := ra[i].v.data) (t := rb[i].v.data) ((ha.data _ (List.getElem_mem _)).ext hE) ((hb.data _ (List.getElem_mem _)).ext hE)).mono ?_
    rintro _ w3 ⟨rfl, rfl⟩
    refine ⟨_, rfl, hS2, ?_⟩
    by_cases hd : ra[i].data = rb[i].data
    · rw [decide_eq_true hd]
      refine Br.f rfl ?_
      refine ExtsAt.idxD (S := fun w' => ExtsAt w' s ra ∧ ExtsAt w' t rb) hS2 (fun w' h => h.1) hra fun a hca => ⟨_, _, _, fun w' h => c1 (hca w' h), ?_⟩
      refine ExtsAt.idxD (S := fun w' => ExtsAt w' s ra ∧ ExtsAt w' t rb) hS2 (fun w' h => h.2) hrb fun b hcb => ⟨_, _, _, fun w' h => c1 (hcb w' h), ?_⟩
      refine (sameOpts7_spec (s := ra[i].v.opts) (t := rb[i].v.opts) ((ha.opts _ (List.getElem_mem _)).ext hE) ((hb.opts _ (List.getElem_mem _)).ext hE)).mono ?_
      rintro _ w4 ⟨b, rfl, hbt, hE4⟩
      have hE := hE.trans hE4
      refine ⟨_, rfl, ⟨ha.ext hE, hb.ext hE⟩, ?_⟩
      cases b with
      | true =>
        refine Br.f rfl ?_
        rw [w64 (by omega) (by omega)]
        refine ⟨⟨i + 1, by omega, by omega, takes_step hda hdb ht ?_, hE⟩, by omega⟩
        have hk : ra[i].v.kind = rb[i].v.kind := Classical.not_not.1 hk
        unfold ExtR.d; rw [hk, hd, hbt.1 rfl]
      | false => exact Br.t rfl (Tells.no hE (takes_ne hda hdb (extD_ne fun x => by have := hbt.2 x.2.1; cases this)))
    · rw [decide_eq_false hd]
      exact Br.t rfl (Tells.no hE (takes_ne hda hdb (extD_ne fun x => hd x.2.2)))
  · refine Tells.yes hE ?_
    rwa [List.take_of_length_le (by simp; omega), List.take_of_length_le (by simp; omega)] at ht
end
end N6
end Go.Proofs.YtkiogaglmjeplaaDoor
/- Whether two datagrams hold the same, or two lists of them. -/
namespace Go.Proofs.YtkiogaglmjeplaaDoor
namespace N6
open Go.Eng Go.RowKit
section
variable {w : World} {s t : Sl}
theorem ip6_key {a b : Ip6V} {oa ob : List ExtR} {da db : List Int} : a.d oa da = b.d ob db ↔ (a.cls = b.cls ∧ a.flow = b.flow ∧ a.hop = b.hop ∧ a.src = b.src ∧ a.dst = b.dst ∧ oa.map ExtR.d = ob.map ExtR.d ∧ a.frag = b.frag ∧ a.next = b.next ∧ da = db) := by
  unfold Ip6V.d; simp only [Ip6D.mk.injEq]
theorem ip6_src {g : Nat} {w' : World} {h : Ip6V} (hb : Blk w' g 30 h.cells) : CellsAt w' ⟨g, 3, none⟩ 0 h.src.cells := ⟨hb.cell 3, hb.cell 4, hb.cell 5, hb.cell 6, hb.cell 7, hb.cell 8, hb.cell 9, hb.cell 10, hb.cell 11, hb.cell 12, hb.cell 13, hb.cell 14, hb.cell 15, hb.cell 16, hb.cell 17, hb.cell 18, hb.cell 19, trivial⟩
theorem ip6_dst {g : Nat} {w' : World} {h : Ip6V} (hb : Blk w' g 30 h.cells) : CellsAt w' ⟨g, 20, none⟩ 0 h.dst.cells := ⟨hb.cell 20, hb.cell 21, hb.cell 22, hb.cell 23, hb.cell 24, hb.cell 25, hb.cell 26, hb.cell 27, hb.cell 28, hb.cell 29, hb.cell 30, hb.cell 31, hb.cell 32, hb.cell 33, hb.cell 34, hb.cell 35, hb.cell 36, trivial⟩
theorem ip6_frg {g : Nat} {w' : World} {h : Ip6V} (hb : Blk w' g 30 h.cells) : CellsAt w' ⟨g, 38, none⟩ 0 h.frag.cells := ⟨hb.cell 38, hb.cell 39, hb.cell 40, hb.cell 41, trivial⟩
theorem ipv_br {x y : IPV} {A B : Prop} (h1 : x ≠ y → A) (h2 : x = y → B) : Br (!(IPV.beq x y)) A B := by
  cases hb : IPV.beq x y with
  | true => exact Br.f rfl (h2 (ipv_beq.1 hb))
  | false => exact Br.t rfl (h1 fun e => by rw [ipv_beq.2 e] at hb; cases hb)
theorem frag_br {x y : FragV} {A B : Prop} (h1 : x ≠ y → A) (h2 : x = y → B) : Br (!(FragV.beq x y)) A B := by
  cases hb : FragV.beq x y with
  | true => exact Br.f rfl (h2 (frag_beq.1 hb))
  | false => exact Br.t rfl (h1 fun e => by rw [frag_beq.2 e] at hb; cases hb)
set_option maxHeartbeats 1000000 in
theorem same6_spec {a b : Ip6V} {oa ob : List ExtR} {da db : List Int} (ha : Ip6At w a oa da) (hb : Ip6At w b ob db) : Calls Tryd.prog 18 #[a.val, b.val] w (Tells w (a.d oa da = b.d ob db)) := by
  refine weirref7_Same_of a b w _ ?_
  unfold weirref7_Same_VC
  refine NewVC.sep (Sep.start0 w) fun g1 w1 H => NewVC.sep H fun g2 w2 H => ?_
  have no : ¬ a.d oa da = b.d ob db → Tells w (a.d oa da = b.d ob db) (.returned (.bool false)) w2 := fun h => Tells.no (H.restOf 0 rfl) h
  refine ⟨_, H.cell 1 rfl 0 rfl, _, H.cell 2 rfl 0 rfl, Br.dec (fun h => no fun e => h (ip6_key.1 e).1) fun k1 => ?_⟩
  refine ⟨_, H.cell 1 rfl 1 rfl, _, H.cell 2 rfl 1 rfl, Br.dec (fun h => no fun e => h (ip6_key.1 e).2.1) fun k2 => ?_⟩
  refine ⟨_, H.cell 1 rfl 2 rfl, _, H.cell 2 rfl 2 rfl, Br.dec (fun h => no fun e => h (ip6_key.1 e).2.2.1) fun k3 => ?_⟩
  refine IPV.of a.src ⟨ip6_src (H.blk 1 rfl), IPV.of b.src ⟨ip6_src (H.blk 2 rfl), ipv_br (fun h => no fun e => h (ip6_key.1 e).2.2.2.1) fun k4 => ?_⟩⟩
  refine IPV.of a.dst ⟨ip6_dst (H.blk 1 rfl), IPV.of b.dst ⟨ip6_dst (H.blk 2 rfl), ipv_br (fun h => no fun e => h (ip6_key.1 e).2.2.2.2.1) fun k5 => ?_⟩⟩
  refine FragV.of a.frag ⟨ip6_frg (H.blk 1 rfl), FragV.of b.frag ⟨ip6_frg (H.blk 2 rfl), frag_br (fun h => no fun e => h (ip6_key.1 e).2.2.2.2.2.2.1) fun k6 => ?_⟩⟩
  refine ⟨_, H.cell 1 rfl 42 rfl, _, H.cell 2 rfl 42 rfl, Br.dec (fun h => no fun e => h (ip6_key.1 e).2.2.2.2.2.2.2.1) fun k7 => ?_⟩
  refine ⟨_, _, _, H.cell 1 rfl 37 rfl, _, _, _, H.cell 2 rfl 37 rfl, ?_⟩
  refine (sameExts7_spec (s := a.exts) (t := b.exts) (ha.exts.ext (H.restOf 0 rfl)) (hb.exts.ext (H.restOf 0 rfl))).mono ?_
  rintro _ w3 ⟨x, rfl, hx, hE3⟩
  have H := H.ext hE3
  refine ⟨_, rfl, ?_⟩
  cases x with
  | false => exact Br.f rfl (Tells.no (H.restOf 0 rfl) fun e => by have := hx.2 (ip6_key.1 e).2.2.2.2.2.1; cases this)
  | true =>
    refine Br.t rfl ⟨_, _, _, H.cell 1 rfl 43 rfl, _, _, _, H.cell 2 rfl 43 rfl, ?_⟩
    refine (alike7_spec (s := a.data) (t := b.data) (ha.data.ext (H.restOf 0 rfl)) (hb.data.ext (H.restOf 0 rfl))).mono ?_
    rintro _ w4 ⟨rfl, rfl⟩
    refine ⟨_, rfl, _, rfl, ?_, H.restOf 0 rfl⟩
    rw [decide_eq_true_eq, ip6_key]
    exact ⟨fun h => ⟨Classical.not_not.1 k1, Classical.not_not.1 k2, Classical.not_not.1 k3, k4, k5, hx.1 rfl, k6, Classical.not_not.1 k7, h⟩, fun h => h.2.2.2.2.2.2.2.2⟩
/-- Datagrams that lie there, one behind the other. -/
structure Ip4sAt (w : World) (s : Sl) (rs : List Ip4R) : Prop where
  len : rs.length = s.n
  cap : s.n ≤ s.k
  small : s.n ≤ 4000001
  recs : Recs w s.A 43 (rs.map fun r => r.v.cells)
  each : ∀ r ∈ rs, Ip4At w r.v r.opts r.data
structure Ip6sAt (w : World) (s : Sl) (rs : List Ip6R) : Prop where
  len : rs.length = s.n
  cap : s.n ≤ s.k
  small : s.n ≤ 4000001
  recs : Recs w s.A 44 (rs.map fun r => r.v.cells)
  each : ∀ r ∈ rs, Ip6At w r.v r.exts r.data
theorem Ip4sAt.ext {w' : World} {rs : List Ip4R} (h : Ip4sAt w s rs) (hE : Ext w w') : Ip4sAt w' s rs := { h with recs := h.recs.ext hE, each := fun r hr => (h.each r hr).ext hE }
theorem Ip6sAt.ext {w' : World} {rs : List Ip6R} (h : Ip6sAt w s rs) (hE : Ext w w') : Ip6sAt w' s rs := { h with recs := h.recs.ext hE, each := fun r hr => (h.each r hr).ext hE }
theorem ip6sAt_of {b : Nat} {rs : List Ip6R} (h : ∀ f ∈ ip6Fs b s rs, f.φ w) (hf : Ip6sFine s rs) : Ip6sAt w s rs := by
  have h0 := h (rowI6 b s rs) (by simp [ip6Fs])
  refine ⟨hf.len, own_le h0, hf.small, Recs.of_cells (by decide) (fun r hr => ?_) (own_cells (A := s.A) (c := s.k) h0), fun r hr => ip6At_of h hf hr⟩
  obtain ⟨x, _, rfl⟩ := List.mem_map.1 hr; rfl
theorem Cut6.at {w' : World} {r : List Ip6D × Int} {e : Ending} (h : Cut6 w r e w') : ∃ (s' : Sl) (rs : List Ip6R), e = .returned (.tuple #[s'.val, .int .i64 r.2]) ∧ rs.map Ip6R.d = r.1 ∧ Ip6sAt w' s' rs ∧ Ext w w' := by
  obtain ⟨s', rs, he, hd, hf, H⟩ := h
  exact ⟨s', rs, he, hd, ip6sAt_of (fun f hf => H.mem (List.mem_cons_of_mem _ hf)) hf, H.start1⟩
theorem Ip4sAt.idxD {S : World → Prop} {rs : List Ip4R} (hw : S w) (hS : ∀ w', S w' → Ip4sAt w' s rs) {i : Nat} {r : Ip4R} (hi : rs[i]? = some r) {F : Addr → Prop} (hF : ∀ a, (∀ w', S w' → CellsAt w' a 0 r.v.cells) → F a) : IdxVC s.A s.n 43 (i : Int) F :=
  IdxVC.recD S hw (fun w' h => (hS w' h).recs) (by simpa using (hS w hw).len) (cs := r.v.cells) (by rw [List.getElem?_map, hi]; rfl) hF
theorem Ip6sAt.idxD {S : World → Prop} {rs : List Ip6R} (hw : S w) (hS : ∀ w', S w' → Ip6sAt w' s rs) {i : Nat} {r : Ip6R} (hi : rs[i]? = some r) {F : Addr → Prop} (hF : ∀ a, (∀ w', S w' → CellsAt w' a 0 r.v.cells) → F a) : IdxVC s.A s.n 44 (i : Int) F :=
  IdxVC.recD S hw (fun w' h => (hS w' h).recs) (by simpa using (hS w hw).len) (cs := r.v.cells) (by rw [List.getElem?_map, hi]; rfl) hF
theorem Ip4sAt.idx {rs : List Ip4R} (h : Ip4sAt w s rs) {i : Nat} {r : Ip4R} (hi : rs[i]? = some r) {F : Addr → Prop} (hF : ∀ a, CellsAt w a 0 r.v.cells → F a) : IdxVC s.A s.n 43 (i : Int) F :=
  Ip4sAt.idxD (S := fun w' => w' = w) rfl (fun w' e => by subst e; exact h) hi fun a ha => hF a (ha w rfl)
theorem Ip6sAt.idx {rs : List Ip6R} (h : Ip6sAt w s rs) {i : Nat} {r : Ip6R} (hi : rs[i]? = some r) {F : Addr → Prop} (hF : ∀ a, CellsAt w a 0 r.v.cells → F a) : IdxVC s.A s.n 44 (i : Int) F :=
  Ip6sAt.idxD (S := fun w' => w' = w) rfl (fun w' e => by subst e; exact h) hi fun a ha => hF a (ha w rfl)
end
end N6
end Go.Proofs.YtkiogaglmjeplaaDoor
