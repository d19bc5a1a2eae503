/- Chapter 8: the document's asks, told, some; its Complain6 and Complain4. -/
import Derived.Test.YtjngdcilnipjcaaDoorBw
import Derived.Test.YtjngdcilnipjcaaDoorBr
namespace Go.Eng
open Go Go.RowKit
theorem pair_idx {w : World} {g : Nat} {t : TypeId} {cs : List Value} {k : Int} {x0 x1 : Value} (hb : Blk w g t cs) (h0 : 0 ≤ k) (h8 : k < 8) (h1 : cs[k.toNat * 2]? = some x0) (h2 : cs[k.toNat * 2 + 1]? = some x1) {F : Addr → Prop}
    (hF : ∀ a, CellsAt w a 0 [x0, x1] → F a) : IdxVC (some ⟨g, 0, none⟩) 8 2 k F := by
  refine ⟨_, rfl, h0, h8, hF _ ?_⟩
  have e : (⟨g, 0, none⟩ : Addr).add (k.toNat * 2) = ⟨g, k.toNat * 2, none⟩ := by rw [addr_add, Nat.zero_add]
  rw [e]
  exact ⟨(hb.cell _).trans h1, (hb.cell _).trans h2, trivial⟩
def pairs4 : List Value := [.int .i64 0, .int .i64 0, .int .i64 3, .int .i64 0, .int .i64 3, .int .i64 1, .int .i64 3, .int .i64 13, .int .i64 3, .int .i64 4, .int .i64 11, .int .i64 0, .int .i64 11, .int .i64 1, .int .i64 12, .int .i64 0]
def pairs6 : List Value := [.int .i64 0, .int .i64 0, .int .i64 1, .int .i64 0, .int .i64 1, .int .i64 3, .int .i64 1, .int .i64 1, .int .i64 2, .int .i64 0, .int .i64 3, .int .i64 0, .int .i64 3, .int .i64 1, .int .i64 4, .int .i64 0]
theorem trb_pairs {k : Int} (h1 : 1 ≤ k) (h7 : k ≤ 7) : pairs4[k.toNat * 2]? = some (.int .i64 ((trbL k).getD 0 0)) ∧ pairs4[k.toNat * 2 + 1]? = some (.int .i64 ((trbL k).getD 1 0)) ∧ pairs6[k.toNat * 2]? = some (.int .i64 ((trbL k).getD 2 0)) ∧ pairs6[k.toNat * 2 + 1]? = some (.int .i64 ((trbL k).getD 3 0)) ∧
    (trbL k).getD 6 0 = if k = 7 then 24 else 0 := by
  obtain ⟨m, rfl⟩ := Int.eq_ofNat_of_zero_le (by omega : 0 ≤ k)
  have a1 : 1 ≤ m := by omega
  have a7 : m ≤ 7 := by omega
  match m, a1, a7 with
  | 1, _, _ => exact ⟨rfl, rfl, rfl, rfl, rfl⟩
  | 2, _, _ => exact ⟨rfl, rfl, rfl, rfl, rfl⟩
  | 3, _, _ => exact ⟨rfl, rfl, rfl, rfl, rfl⟩
  | 4, _, _ => exact ⟨rfl, rfl, rfl, rfl, rfl⟩
  | 5, _, _ => exact ⟨rfl, rfl, rfl, rfl, rfl⟩
  | 6, _, _ => exact ⟨rfl, rfl, rfl, rfl, rfl⟩
  | 7, _, _ => exact ⟨rfl, rfl, rfl, rfl, rfl⟩
theorem classP_range {p : IPV} (hs : 0 < sizeS p) : 1 ≤ classP p ∧ classP p ≤ 7 := by
  rw [classP_chain hs]
  generalize (matchS p ⟨⟨4, 0, 0, 0, 0, 0, 0, 0, 0, 0, 0, 0, 0, 0, 0, 0, 0⟩, 32, 1⟩ || matchS p ⟨noneIP, 128, 1⟩) = b1
  generalize (matchS p ⟨⟨4, 127, 0, 0, 0, 0, 0, 0, 0, 0, 0, 0, 0, 0, 0, 0, 0⟩, 8, 2⟩ || matchS p ⟨tailIP 1, 128, 2⟩) = b2
  generalize (matchS p ⟨⟨4, 224, 0, 0, 0, 0, 0, 0, 0, 0, 0, 0, 0, 0, 0, 0, 0⟩, 4, 3⟩ || matchS p ⟨headIP 65280, 8, 3⟩) = b3
  generalize (matchS p ⟨⟨4, 169, 254, 0, 0, 0, 0, 0, 0, 0, 0, 0, 0, 0, 0, 0, 0⟩, 16, 4⟩ || matchS p ⟨headIP 65152, 10, 4⟩) = b4
  generalize matchS p ⟨⟨4, 255, 255, 255, 255, 0, 0, 0, 0, 0, 0, 0, 0, 0, 0, 0, 0⟩, 32, 5⟩ = b5
  generalize (matchS p ⟨⟨4, 0, 0, 0, 0, 0, 0, 0, 0, 0, 0, 0, 0, 0, 0, 0, 0⟩, 8, 6⟩ || (matchS p ⟨⟨4, 240, 0, 0, 0, 0, 0, 0, 0, 0, 0, 0, 0, 0, 0, 0, 0⟩, 4, 6⟩ || matchS p ⟨noneIP, 8, 6⟩)) = b6
  cases b1 <;> cases b2 <;> cases b3 <;> cases b4 <;> cases b5 <;> cases b6 <;> decide
end Go.Eng
namespace Go.Proofs.YtjngdcilnipjcaaDoor
namespace N6
open Go.Eng Go.RowKit
section
variable {w : World} {t : TrbV}
theorem asks_spec {p : IPV} (hp : Bts p.bytes) : Calls Tryd.prog 77 #[p.val] w fun e w' => Ext w w' ∧ e = .returned (.bool (asksP p)) := by
  refine weirref8_asks_of p w _ ?_
  unfold weirref8_asks_VC
  refine NewVC.sep (Sep.start0 w) fun g1 w1 H => IPV.of p ⟨H.at 1 rfl, ?_⟩
  have hE := H.restOf 0 rfl
  refine (Nd.refClassX hp).mono ?_
  rintro _ w2 ⟨hE2, rfl⟩
  refine ⟨_, rfl, Br.dec (fun h => ⟨hE.trans hE2, by unfold asksP; rw [decide_eq_true (.inl h)]⟩) fun h => ⟨hE.trans hE2, ?_⟩⟩
  unfold asksP
  congr 2
  exact decide_eq_decide.2 ⟨.inr, fun h' => h'.resolve_left h⟩
/-- A trouble's message, without data. -/
def toldV (v : Int) (t : TrbV) : IcmV := if v = 6 then ⟨v, (trbL t.kind).getD 2 0, (trbL t.kind).getD 3 0, t.extra, ⟨none, 0, 0⟩⟩ else ⟨v, (trbL t.kind).getD 0 0, (trbL t.kind).getD 1 0, t.extra * 2 ^ ((trbL t.kind).getD 6 0).toNat, ⟨none, 0, 0⟩⟩
set_option maxHeartbeats 1000000 in
theorem refTold_spec {v : Int} (h1 : 1 ≤ t.kind) (h7 : t.kind ≤ 7) (hx : 0 ≤ t.extra ∧ t.extra ≤ 65535) : Calls Tryd.prog 79 #[t.val, .int .i64 v] w fun e w' => Ext w w' ∧ e = .returned (toldV v t).val := by
  refine weirref8_told_of t v w _ ?_
  unfold weirref8_told_VC
  obtain ⟨p0, p1, p2, p3, p6⟩ := trb_pairs h1 h7
  refine NewVC.sep (Sep.start0 w) fun g1 w1 H => NewVC.sep H fun g2 w2 H => NewVC.sep H fun g3 w3 H => ?_
  refine Stores.sep H 3 rfl (cs' := pairs4) (List.all_eq_true.1 (rfl : pairs4.all Value.oneCell' = true)) (Nat.le_refl _) (splice_all rfl) fun w4 H => ?_
  refine NewVC.sep H fun g4 w5 H => ?_
  refine Stores.sep H 4 rfl (cs' := pairs6) (List.all_eq_true.1 (rfl : pairs6.all Value.oneCell' = true)) (Nat.le_refl _) (splice_all rfl) fun w6 H => ?_
  refine ⟨_, H.cell 1 rfl 0 rfl, pair_idx (H.blk 3 rfl) (by omega) (by omega) p0 p1 fun a ha => ⟨_, _, ha, NewVC.sep H fun g5 w7 H => ?_⟩⟩
  refine Stores.sep H 5 rfl (cs' := [.int .i64 ((trbL t.kind).getD 0 0), .int .i64 ((trbL t.kind).getD 1 0)]) (List.all_eq_true.1 rfl) (Nat.le_refl _) (splice_all rfl) fun w8 H => ?_
  refine ⟨_, H.cell 1 rfl 1 rfl, Br.dec (fun h6 => ?_) fun h6 => ?_⟩
  · refine ⟨_, H.cell 1 rfl 0 rfl, pair_idx (H.blk 4 rfl) (by omega) (by omega) p2 p3 fun a ha => ⟨_, _, ha, ?_⟩⟩
    refine Stores.sep H 5 rfl (cs' := [.int .i64 ((trbL t.kind).getD 2 0), .int .i64 ((trbL t.kind).getD 3 0)]) (List.all_eq_true.1 rfl) (Nat.le_refl _) (splice_all rfl) fun w9 H => ?_
    refine ⟨_, rfl, by decide, by decide, _, H.cell 5 rfl 0 rfl, _, rfl, by decide, by decide, _, H.cell 5 rfl 1 rfl, ?_⟩
    refine Stores.sep H 2 rfl (cs' := (toldV v t).cells) (List.all_eq_true.1 rfl) (Nat.le_refl _) (by unfold toldV; rw [if_pos h6]; exact splice_all rfl) fun w10 H => ?_
    exact IcmV.of (toldV v t) ⟨H.at 2 rfl, H.restOf 0 rfl, rfl⟩
  · refine ⟨_, H.cell 1 rfl 0 rfl, Br.dec (fun hk => ?_) fun hk => ?_⟩
    · refine ⟨_, H.cell 1 rfl 1 rfl, _, rfl, by decide, by decide, _, H.cell 5 rfl 0 rfl, _, rfl, by decide, by decide, _, H.cell 5 rfl 1 rfl, ?_⟩
      have e : IntKind.i64.wrap (t.extra * 16777216) = t.extra * 2 ^ ((trbL t.kind).getD 6 0).toNat := by
        rw [p6, if_pos hk, w64 (by omega) (by omega)]; rfl
      rw [e]
      refine Stores.sep H 2 rfl (cs' := (toldV v t).cells) (List.all_eq_true.1 rfl) (Nat.le_refl _) (by unfold toldV; rw [if_neg h6]; exact splice_all rfl) fun w10 H => ?_
      exact IcmV.of (toldV v t) ⟨H.at 2 rfl, H.restOf 0 rfl, rfl⟩
    · refine ⟨_, rfl, by decide, by decide, _, H.cell 5 rfl 0 rfl, _, rfl, by decide, by decide, _, H.cell 5 rfl 1 rfl, ?_⟩
      have e : t.extra = t.extra * 2 ^ ((trbL t.kind).getD 6 0).toNat := by
        rw [p6, if_neg hk]; exact (Int.mul_one _).symm
      refine Stores.sep H 2 rfl (cs' := (toldV v t).cells) (List.all_eq_true.1 rfl) (Nat.le_refl _) (by unfold toldV; rw [if_neg h6, ← e]; exact splice_all rfl) fun w10 H => ?_
      exact IcmV.of (toldV v t) ⟨H.at 2 rfl, H.restOf 0 rfl, rfl⟩
theorem some_spec {A : Option Addr} {n c N : Nat} (h : n ≤ c) : Calls Tryd.prog 80 #[.slice A n c, .int .i64 (N : Int)] w fun e w' => w' = w ∧ e = .returned (.slice A (min N n) c) := by
  refine weirref8_some_of A n c N w _ ?_
  unfold weirref8_some_VC
  refine Br.dec (fun hlt => ⟨by omega, by omega, rfl, ?_⟩) fun hge => ⟨rfl, ?_⟩
  · rw [Int.toNat_natCast, Nat.min_eq_left (by omega)]
  · rw [Nat.min_eq_right (by omega)]
/-- A message, if there is one, its data in memory of its own (with any capacity). -/
def RComp (v : Int) (w : World) (r : Option (Int × Int × Int × List Int)) (e : Ending) (w' : World) : Prop :=
  match r with
  | none => e = .returned (.tuple #[(IcmV.z : IcmV).val, .bool false]) ∧ Ext w w'
  | some (t, c, rs, d) => ∃ (A : Option Addr) (k : Nat), e = .returned (.tuple #[(⟨v, t, c, rs, ⟨A, d.length, k⟩⟩ : IcmV).val, .bool true]) ∧ Sep [Fct.rest w None, winB w.heap.size (.slice A d.length k) d.length d] w'
theorem no_ref {v : Int} {Γ : List Fct} {g3 g4 : Nat} {w0 : World} {r : Option (Int × Int × Int × List Int)} (hr : r = none) (H : Sep (Fct.rest w0 None :: Fct.blk g3 24 (IcmV.z : IcmV).cells :: Fct.blk g4 24 (IcmV.z : IcmV).cells :: Γ) w) :
    IcmV.ex fun h2 => CellsAt w ⟨g4, 0, none⟩ 0 h2.cells ∧ Stores ⟨g3, 0, none⟩ 0 h2.cells w fun w5 => IcmV.ex fun res => CellsAt w5 ⟨g3, 0, none⟩ 0 res.cells ∧ RComp v w0 r (.returned (.tuple #[res.val, .bool false])) w5 :=
  IcmV.of IcmV.z ⟨H.at 2 rfl, Stores.sep H 1 rfl (IcmV.one _) (Nat.le_refl _) (splice_all rfl) fun w5 H => IcmV.of IcmV.z ⟨H.at 1 rfl, by rw [hr]; exact ⟨rfl, H.restOf 0 rfl⟩⟩⟩
/-- The memory of the document's complaint. -/
def frmR (w0 : World) (g1 g2 g3 g4 : Nat) (t : TrbV) (ty : TypeId) (cs : List Value) : List Fct := [Fct.rest w0 None, Fct.blk g3 24 (IcmV.z : IcmV).cells, Fct.blk g4 24 (IcmV.z : IcmV).cells, Fct.blk g1 70 t.cells, Fct.blk g2 ty cs]
theorem winSome {Γ : List Fct} {b : Nat} {A : Option Addr} {c N : Nat} {l : List Int} {f : Fct} (H : Sep (f :: winB b (.slice A l.length c) l.length l :: Γ) w) : Sep [f, winB b (.slice A (l.take N).length c) (l.take N).length (l.take N)] w := by
  have hw := (H.win 1 rfl)
  have hc : l.length ≤ c := by
    rcases hw.2 with ⟨h, h0⟩ | ⟨g, c', cs, h, _, h3, _⟩
    · injection h with _ _ h; omega
    · injection h with _ _ h; omega
  have hm : (l.take N).length = min N l.length := List.length_take
  have H := H.winCut (i := 1) rfl (m := min N l.length) (c2 := c) (Nat.min_le_right _ _) (Nat.le_trans (Nat.min_le_right _ _) hc) (Nat.le_refl _)
  have e : (l.map (Value.int .u8)).take (min N l.length) = (l.take N).map (.int .u8) := by
    rw [← List.map_take]
    congr 1
    rcases Nat.le_total N l.length with h | h
    · rw [Nat.min_eq_left h]
    · rw [Nat.min_eq_right h, List.take_of_length_le (Nat.le_refl _), List.take_of_length_le h]
  rw [e] at H
  rw [hm]
  exact H.sub (.cons_cons _ (.cons_cons _ (List.nil_sublist _)))
theorem win_le {b n c : Nat} {A : Option Addr} {xs : List Value} {e : TypeId} (hw : Win w b e (.slice A n c) n xs) : n ≤ c := by
  rcases hw.2 with ⟨h, h0⟩ | ⟨g, c', cs, h, _, h3, _⟩
  · injection h with _ _ h; omega
  · injection h with _ _ h; omega
end
section
variable {w0 w : World} {g1 g2 g3 g4 : Nat} {t : TrbV}
set_option maxHeartbeats 2000000 in
theorem ref4_last {h : Ip4V} {bs : List Int} {r : Option (Int × Int × Int × List Int)} {A : Option Addr} {c : Nat} (htr : isTrbS t 4 = true) (hr : r = some ((trbL t.kind).getD 0 0, (trbL t.kind).getD 1 0, t.extra * 2 ^ ((trbL t.kind).getD 6 0).toNat, bs.take 548))
    (H : Sep (frmR w0 g1 g2 g3 g4 t 73 h.cells ++ [winB w0.heap.size (.slice A bs.length c) bs.length bs]) w) :
    weirref8_Complain4_J127 (RComp 4 w0 r) g1 g3 A bs.length c w := by
  unfold weirref8_Complain4_J127
  have htr' := of_decide_eq_true htr
  obtain ⟨x0, x1, x2, x3, x4, x5, x6, hl, -, -, -, -, -, k6⟩ := trb_facts t.kind.toNat (by omega) (by omega)
  have hL : trbL t.kind = [x0, x1, x2, x3, x4, x5, x6] := by unfold trbL; rw [List.getD_eq_getElem?_getD, hl]; rfl
  have hle : t.extra ≤ x4 := by
    have := htr'.2.2.2
    rw [if_pos rfl, hL] at this; exact this
  have hc := win_le (H.win 5 rfl)
  refine TrbV.of t ⟨H.at 3 rfl, (refTold_spec (v := 4) (by omega) (by omega) (by omega)).mono ?_⟩
  rintro _ w1 ⟨hE1, rfl⟩
  have H := H.ext hE1
  refine onRet_is (IcmV.of (toldV 4 t) ⟨rfl, NewVC.sep H fun g5 w2 H => Stores.sep H 6 rfl (IcmV.one (toldV 4 t)) (Nat.le_refl _) (splice_all rfl) fun w3 H => ?_⟩)
  refine (some_spec (N := 548) hc).mono ?_
  rintro _ w4 ⟨hw4, rfl⟩
  subst w4
  refine ⟨_, _, _, rfl, SetVC.sep H 6 rfl (show 4 < 5 by decide) fun w5 H => ?_⟩
  obtain ⟨m, hm⟩ : ∃ m : IcmV, m = ⟨4, (trbL t.kind).getD 0 0, (trbL t.kind).getD 1 0, t.extra * 2 ^ ((trbL t.kind).getD 6 0).toNat, ⟨A, min 548 bs.length, c⟩⟩ := ⟨_, rfl⟩
  have e : (toldV 4 t).cells.set 4 (.slice A (min 548 bs.length) c) = m.cells := by rw [hm]; rfl
  rw [e] at H
  refine IcmV.of m ⟨H.at 6 rfl, Stores.sep H 1 rfl (cs' := m.cells) (IcmV.one m) (Nat.le_refl _) (splice_all rfl) fun w6 H => IcmV.of m ⟨H.at 1 rfl, ?_⟩⟩
  rw [hr]
  refine ⟨A, c, ?_, winSome (N := 548) (H.sub (Γ' := [Fct.rest w0 None, winB w0.heap.size (.slice A bs.length c) bs.length bs]) (.cons_cons _ (.cons _ (.cons _ (.cons _ (.cons _ (.cons_cons _ (List.nil_sublist _))))))))⟩
  rw [hm, List.length_take]
theorem four4_size {p : IPV} (h : four4 p) : 0 < sizeS p := by
  obtain ⟨h, h4, h5, h6, h7, h8, h9, h10, h11, h12, h13, h14, h15⟩ := h
  unfold sizeS
  rw [if_neg (by omega), if_neg (by omega), h4, h5, h6, h7, h8, h9, h10, h11, h12, h13, h14, h15]
  decide
set_option maxHeartbeats 4000000 in
theorem refComplain4_spec {h : Ip4V} {os : List OptR} {data : List Int} (hA : Ip4At w h os data) : Calls Tryd.prog 38 #[t.val, h.val] w (RComp 4 w (comp4S t (h.d os data))) := by
  refine weirref8_Complain4_of t h w _ ?_
  unfold weirref8_Complain4_VC
  refine NewVC.sep (Sep.start0 w) fun g1 w1 H => NewVC.sep H fun g2 w2 H => NewVC.sep H fun g3 w3 H => NewVC.sep H fun g4 w4 H => ?_
  have H : Sep (frmR w g1 g2 g3 g4 t 73 h.cells) w4 := by
    refine H.perm (List.Perm.cons _ ?_)
    exact (List.perm_append_comm (l₁ := [Fct.blk g3 24 (IcmV.z : IcmV).cells, Fct.blk g4 24 (IcmV.z : IcmV).cells]) (l₂ := [Fct.blk g1 70 t.cells, Fct.blk g2 73 h.cells]))
  refine Ip4V.of h ⟨H.at 4 rfl, (refSerialise4_spec (hA.ext (H.restOf 0 rfl))).mono ?_⟩
  intro e w5 h5
  obtain ⟨A, c, rfl, H5⟩ := h5.win
  have hz := (H.restOf 0 rfl).size
  have H5 := H5.weaken 1 rfl (f' := winB w.heap.size (.slice A (ser4S (h.d os data)).1.length c) (ser4S (h.d os data)).1.length (ser4S (h.d os data)).1) (Win.low (H5.win 1 rfl) hz) fun _ h => h
  have H : Sep (frmR w g1 g2 g3 g4 t 73 h.cells ++ [winB w.heap.size (.slice A (ser4S (h.d os data)).1.length c) (ser4S (h.d os data)).1.length (ser4S (h.d os data)).1]) w5 := H.mades H5
  refine ⟨_, _, _, _, rfl, Br.dec (fun hs => no_ref (by unfold comp4S; rw [if_neg (fun x => hs x.2.2.1)]) H) fun hs => ?_⟩
  have hs : (ser4S (h.d os data)).2 = 0 := Classical.not_not.1 hs
  refine TrbV.of t ⟨H.at 3 rfl, (refTrouble_spec (v := 4) (.inl rfl)).mono ?_⟩
  rintro _ w7 ⟨hE7, rfl⟩
  have H := H.ext hE7
  refine ⟨_, rfl, ?_⟩
  cases htr : isTrbS t 4 with
  | false => exact Br.t rfl (no_ref (by unfold comp4S; rw [if_neg (fun x => by rw [htr] at x; exact absurd x.1 (by decide))]) H)
  | true =>
  have hc0 : check4S (h.d os data) = 0 := by
    unfold ser4S at hs
    split at hs
    · rename_i h1; exact absurd hs h1
    · rename_i h1; exact Classical.not_not.1 h1
  have hdst : 0 < sizeS h.dst := by
    have hb := (check4S_ok hc0).1
    unfold bad4 at hb
    refine four4_size (Classical.byContradiction fun x => hb ?_)
    exact .inr (.inr (.inr (.inr (.inr (.inr (.inr (.inr (.inr (.inr (.inr (.inr x)))))))))))
  have hrg := classP_range hdst
  refine Br.f rfl ⟨_, H.cell 4 rfl 4 rfl, Br.dec (fun hoff => no_ref (by unfold comp4S; rw [if_neg (fun x => x.2.1 hoff)]) H) fun hoff => ?_⟩
  refine IPV.of h.src ⟨ip4_src (H.blk 4 rfl), (asks_spec hA.src).mono ?_⟩
  rintro _ w10 ⟨hE10, rfl⟩
  have H := H.ext hE10
  refine ⟨_, rfl, ?_⟩
  cases hask : asksP h.src with
  | false => exact Br.t rfl (no_ref (by unfold comp4S; rw [if_neg (fun x => by have := x.2.2.2.2.2; rw [show (h.d os data).src = h.src from rfl, hask] at this; cases this)]) H)
  | true =>
  refine Br.f rfl (IPV.of h.dst ⟨ip4_dst (H.blk 4 rfl), (Nd.refClassX hA.dst).mono ?_⟩)
  rintro _ w12 ⟨hE12, rfl⟩
  have H := H.ext hE12
  have nofar : classP h.dst = 3 ∨ classP h.dst = 5 → comp4S t (h.d os data) = none := fun hb => by
    unfold comp4S
    refine if_neg fun x => ?_
    have := of_decide_eq_true x.2.2.2.2.1
    have e : (h.d os data).dst = h.dst := rfl
    rw [e] at this
    omega
  refine ⟨_, rfl, Br.dec (fun h3 => no_ref (nofar (.inl h3)) H) fun h3 => Br.dec (fun h5 => no_ref (nofar (.inr h5)) H) fun h5 => ?_⟩
  have hf : far4 h.dst = true := decide_eq_true (by omega)
  have hd := hA.data.ext (H.restOf 0 rfl)
  have hdl := hd.len
  refine JoinVC.of (fun _ w' => quiet4 (h.d os data) = false ∧ w' = w12) ?_ ?_
  · refine JoinVC.of (fun b w' => w' = w12 ∧ b = decide (h.proto = 1 ∧ 0 < data.length)) ?_ ?_
    · refine ⟨_, H.cell 4 rfl 6 rfl, Br.dec (fun hn => ⟨_, _, _, H.cell 4 rfl 42 rfl, rfl, decide_eq_decide.2 ⟨fun x => ⟨hn, by omega⟩, fun x => by have := x.2; omega⟩⟩) fun hn => ⟨rfl, (decide_eq_false (fun x => hn x.1)).symm⟩⟩
    rintro _ w15 ⟨hw, rfl⟩
    subst w15
    unfold weirref8_Complain4_J254
    refine Br.dec (fun hp => ?_) fun hp => ⟨decide_eq_false (fun x => hp ⟨x.1, x.2.1⟩), rfl⟩
    refine ⟨_, _, _, H.cell 4 rfl 42 rfl, ?_⟩
    refine IdxVC.int (k := .u8) (xs := data) hd.cells (by decide) (by omega) hdl fun a ha => ⟨_, ha, ?_⟩
    have e0 : data.getD (0 : Int).toNat 0 = data.getD 0 0 := rfl
    have hb0 := bts_getD hd.bts 0
    rw [e0, w64 (n := data.getD 0 0) (by omega) (by omega)]
    have bad : (data.getD 0 0 = 3 ∨ data.getD 0 0 = 4 ∨ data.getD 0 0 = 5 ∨ data.getD 0 0 = 11 ∨ data.getD 0 0 = 12) → comp4S t (h.d os data) = none := fun hb => by
      unfold comp4S
      rw [if_neg (fun x => of_decide_eq_false x.2.2.2.1 ⟨hp.1, hp.2, hb⟩)]
    refine Br.dec (fun h1 => no_ref (bad (.inl h1)) H) fun h1 => ?_
    refine Br.dec (fun h2 => no_ref (bad (.inr (.inl h2))) H) fun h2 => ?_
    refine Br.dec (fun h3 => no_ref (bad (.inr (.inr (.inl h3)))) H) fun h3 => ?_
    refine Br.dec (fun h4 => no_ref (bad (.inr (.inr (.inr (.inl h4))))) H) fun h4 => ?_
    refine Br.dec (fun h5 => no_ref (bad (.inr (.inr (.inr (.inr h5))))) H) fun h5 => ⟨decide_eq_false (fun x => ?_), rfl⟩
    rcases x.2.2 with y | y | y | y | y
    · exact h1 y
    · exact h2 y
    · exact h3 y
    · exact h4 y
    · exact h5 y
  rintro _ w17 ⟨hq, hw⟩
  subst w17
  exact ref4_last htr (by unfold comp4S; rw [if_pos ⟨htr, hoff, hs, hq, hf, hask⟩]) H
end
end N6
end Go.Proofs.YtjngdcilnipjcaaDoor
/- What the complaints' laws lay for a call: options and headers with marks behind all their lists. -/
namespace Go.Eng
open Go Go.RowKit
def cutO (o : OptD) : OptD := ⟨o.kind, o.data.take 66000⟩
/-- An option laid so: its bytes stand at the front of a longer row. -/
structure LaidQ where
  kind : Int
  row : Sl
  data : List Int
def LaidQ.opt (x : LaidQ) : OptR := ⟨⟨x.kind, ⟨x.row.A, x.data.length, x.row.k⟩⟩, x.data⟩
def markQ : OptV := ⟨-31, ⟨none, 0, 0⟩⟩
def markX : ExtV := ⟨-31, ⟨none, 0, 0⟩, ⟨none, 0, 0⟩⟩
structure QFine (row : Sl) (data : List Int) : Prop where
  n : row.n = data.length + 5
  small : data.length ≤ 66000
  bts : Bts data
theorem IdxVC.recD {w : World} {A : Option Addr} {size n : Nat} {rs : List (List Value)} {i : Nat} {cs : List Value} {F : Addr → Prop} (S : World → Prop) (hw : S w) (hS : ∀ w', S w' → Recs w' A size rs) (hi : rs[i]? = some cs) (hn : i < n)
    (hF : ∀ a, (∀ w', S w' → CellsAt w' a 0 cs) → F a) : IdxVC A n size (i : Int) F := by
  obtain ⟨a, ha, _⟩ := hS w hw i cs hi
  refine ⟨a, ha, by omega, by omega, hF _ fun w' hw' => ?_⟩
  obtain ⟨b, hb, hc⟩ := hS w' hw' i cs hi
  rw [ha] at hb; cases hb
  rw [Int.toNat_natCast]; exact hc
end Go.Eng
namespace Go.Proofs.YtjngdcilnipjcaaDoor
namespace N6
open Go.Eng Go.RowKit
/-- A row of bytes with marks behind. -/
structure RoomAt (w : World) (s : Sl) (l : List Int) : Prop where
  cells : Cells w s.A ((l ++ roomS).map (.int .u8))
  len : s.n = l.length
  room : s.n + 5 ≤ s.k
  small : l.length ≤ 66000
  bts : Bts l
theorem RoomAt.ext {w w' : World} {s : Sl} {l : List Int} (h : RoomAt w s l) (hE : Ext w w') : RoomAt w' s l := { h with cells := h.cells.ext hE }
theorem RoomAt.bytes {w : World} {s : Sl} {l : List Int} (h : RoomAt w s l) : BytesAt w s l := by
  have hr := h.room
  have hl := h.len
  have hsm := h.small
  refine ⟨hl.symm, by omega, by omega, h.bts, ?_⟩
  have := h.cells.take l.length
  rwa [← List.map_take, List.take_left' rfl] at this
theorem tO : TypeIs Tryd.prog 145 (.agg #[.int .i64 0, .slice none 0 0]) 2 32 := .of (by kernel_rfl)
section
variable {w : World} {Γ : List Fct} {s : Sl}
theorem appO (H : Sep Γ w) (i : Nat) {b n c : Nat} {A A' : Option Addr} {xs : List Value} {o : OptV} {c' : Nat} (hi : Γ[i]? = some (Fct.own b 145 2 (.slice A n c) n xs)) (hs : Cells w A' o.cells) (hn : n ≤ 1000000000) (hb : b ≤ w.heap.size)
    {F : Option Addr → Nat → Nat → World → Prop} (h : ∀ A2 c2 w', Sep (Γ.set i (Fct.own b 145 2 (.slice A2 (n + 1) c2) (n + 1) (xs ++ o.cells))) w' → n + 1 ≤ c2 → F A2 (n + 1) c2 w') :
    AppVC Tryd.prog #[71, 71] 71 (.slice A n c) (.slice A' 1 c') w F :=
  AppVC.sep H i Tryd.underlying71 tO rfl (by decide) hi hs rfl o.one (by omega) (by decide) hb h
theorem OptsAt.idxD {S : World → Prop} {rs : List OptR} (hw : S w) (hS : ∀ w', S w' → OptsAt w' s rs) {i : Nat} {r : OptR} (hi : rs[i]? = some r) {F : Addr → Prop} (hF : ∀ a, (∀ w', S w' → CellsAt w' a 0 r.v.cells) → F a) : IdxVC s.A s.n 2 (i : Int) F :=
  IdxVC.recD S hw (fun w' h => (hS w' h).recs) (cs := r.v.cells) (by rw [List.getElem?_map, hi]; rfl) (by have := (hS w hw).len; have := (List.getElem?_eq_some_iff.1 hi).1; omega) hF
theorem ExtsAt.idxD {S : World → Prop} {rs : List ExtR} (hw : S w) (hS : ∀ w', S w' → ExtsAt w' s rs) {i : Nat} {r : ExtR} (hi : rs[i]? = some r) {F : Addr → Prop} (hF : ∀ a, (∀ w', S w' → CellsAt w' a 0 r.v.cells) → F a) : IdxVC s.A s.n 3 (i : Int) F :=
  IdxVC.recD S hw (fun w' h => (hS w' h).recs) (cs := r.v.cells) (by rw [List.getElem?_map, hi]; rfl) (by have := (hS w hw).len; have := (List.getElem?_eq_some_iff.1 hi).1; omega) hF
theorem c0 {v : Value} {a : Addr} {r : List Value} (h : CellsAt w a 0 (v :: r)) : w.cell? a = some v := by simpa [add_zero] using h.1
theorem c1 {u v : Value} {a : Addr} {r : List Value} (h : CellsAt w a 0 (u :: v :: r)) : w.cell? (a.add 1) = some v := h.2.1
theorem c2 {u v x : Value} {a : Addr} {r : List Value} (h : CellsAt w a 0 (u :: v :: x :: r)) : w.cell? (a.add 2) = some x := h.2.2.1
/-- laid: a row with marks behind, as memory of its own. -/
theorem laid_sep {l : List Int} (h : BytesAt w s l) : Calls Tryd.prog 14 #[s.val] w fun e w' => ∃ row : Sl, e = .returned (.tuple #[.slice row.A (l.take 66000).length row.k, .slice row.A row.n row.k]) ∧ QFine row (l.take 66000) ∧
    Sep [Fct.rest w None, rowB w.heap.size row (l.take 66000 ++ roomS)] w' := by
  have hs := h.small
  refine (Go.Proofs.YtjngdcilnipjcaaDoor.laid_spec h.cells h.len h.cap (by omega)).mono ?_
  rintro _ w' ⟨hE, W, wc, rfl, ho⟩
  exact ⟨⟨W, (l.take 66000).length + 5, wc⟩, rfl, ⟨rfl, by rw [List.length_take]; exact Nat.min_le_left _ _, h.bts.take _⟩, (Sep.start0 w).pushOwn hE ho (Nat.le_refl _)⟩
theorem room_of {b : Nat} {row : Sl} {l : List Int} (h : (rowB b row (l ++ roomS)).φ w) (hf : QFine row l) : RoomAt w ⟨row.A, l.length, row.k⟩ l := by
  have := own_le h
  have := hf.n
  exact ⟨own_cells (A := row.A) (c := row.k) h, rfl, by show l.length + 5 ≤ row.k; omega, hf.small, hf.bts⟩
def qM (ls : List LaidQ) : List Value := (ls.map fun x => x.opt.v.cells).flatten
def qRow (b : Nat) (x : LaidQ) : Fct := rowB b x.row (x.data ++ roomS)
def qFs (b : Nat) (so : Sl) (ls : List LaidQ) : List Fct := Fct.own b 145 2 (.slice so.A (so.n + 1) so.k) (so.n + 1) (qM ls ++ markQ.cells) :: ls.map (qRow b)
structure QOk (so : Sl) (ls : List LaidQ) : Prop where
  len : ls.length = so.n
  small : so.n ≤ 4000000
  each : ∀ x ∈ ls, QFine x.row x.data
/-- Options laid so, as they lie. -/
structure QAt (w : World) (so : Sl) (ls : List LaidQ) : Prop where
  len : ls.length = so.n
  small : so.n ≤ 4000000
  room : so.n + 1 ≤ so.k
  recs : Recs w so.A 2 ((ls.map fun x => x.opt.v.cells) ++ [markQ.cells])
  each : ∀ x ∈ ls, RoomAt w x.opt.v.data x.data
theorem QAt.ext {w' : World} {so : Sl} {ls : List LaidQ} (h : QAt w so ls) (hE : Ext w w') : QAt w' so ls := { h with recs := h.recs.ext hE, each := fun x hx => (h.each x hx).ext hE }
theorem QAt.opts {so : Sl} {ls : List LaidQ} (h : QAt w so ls) : OptsAt w so (ls.map LaidQ.opt) := by
  have hl := h.len
  have hsm := h.small
  have hr := h.room
  refine ⟨by simpa using hl, by omega, by omega, fun k cs hk => h.recs k cs ?_, fun r hr => ?_⟩
  · rw [List.map_map] at hk
    have hlt := (List.getElem?_eq_some_iff.1 hk).1
    rw [List.getElem?_append_left (by simpa using hlt)]
    exact hk
  · obtain ⟨x, hx, rfl⟩ := List.mem_map.1 hr
    exact (h.each x hx).bytes
theorem qAt_of {b : Nat} {so : Sl} {ls : List LaidQ} (h : ∀ f ∈ qFs b so ls, f.φ w) (hk : QOk so ls) : QAt w so ls := by
  have h1 := h _ (List.mem_cons_self)
  refine ⟨hk.len, hk.small, own_le (s := ⟨so.A, so.n + 1, so.k⟩) h1, Recs.of_cells (by decide) (fun r hr => ?_) ?_, fun x hx => room_of (b := b) (h (qRow b x) (List.mem_cons_of_mem _ (List.mem_map_of_mem hx))) (hk.each x hx)⟩
  · rcases List.mem_append.1 hr with hr | hr
    · obtain ⟨x, _, rfl⟩ := List.mem_map.1 hr; rfl
    · simp at hr; subst hr; rfl
  · rw [List.flatten_append]
    simp only [List.flatten_cons, List.flatten_nil, List.append_nil]
    exact own_cells h1
theorem qFs_less {b b' : Nat} {so : Sl} {ls : List LaidQ} (h : b' ≤ b) : AllLe (qFs b so ls) (qFs b' so ls) := .cons (own_less h).1 (own_less h).2 (AllLe.map ls fun _ _ => own_less h)
set_option maxHeartbeats 2000000 in
theorem laidOpts_sep {rs : List OptR} (hO : OptsAt w s rs) : Calls Tryd.prog 69 #[s.val] w fun e w' => ∃ (so : Sl) (ls : List LaidQ), e = .returned so.val ∧ (ls.map LaidQ.opt).map OptR.d = (rs.map OptR.d).map cutO ∧ QOk so ls ∧ Sep (Fct.rest w None :: qFs w.heap.size so ls) w' := by
  refine weirlaw8_laidOpts_of s.A s.n s.k w _ ?_
  unfold weirlaw8_laidOpts_VC
  have hl := hO.len
  have hsm := hO.small
  refine LoopVC.of (fun st w' => ∃ (i : Nat) (ls : List LaidQ), st.2 = i ∧ i ≤ s.n ∧ (ls.map LaidQ.opt).map OptR.d = ((rs.take i).map OptR.d).map cutO ∧ ls.length = i ∧ st.1.2.1 = i ∧ (∀ x ∈ ls, QFine x.row x.data) ∧
      Sep (Fct.rest w None :: Fct.own w.heap.size 145 2 (.slice st.1.1 st.1.2.1 st.1.2.2) st.1.2.1 (qM ls) :: ls.map (qRow w.heap.size)) w') (fun st _ => ((s.n : Int) - st.2).toNat)
    ⟨0, [], rfl, Nat.zero_le _, rfl, rfl, rfl, (fun x hx => by cases hx), (Sep.start0 w).nil _ _ _⟩ ?_
  rintro ⟨⟨A1, n1, q1⟩, _⟩ w1 ⟨i, ls, rfl, hi, hd, hll, hn1, hf, H⟩
  simp only at hn1
  subst hn1
  show weirlaw8_laidOpts_L58 _ s.A s.n A1 n1 q1 (n1 : Int) w1 _
  unfold weirlaw8_laidOpts_L58
  refine Br.dec (fun hlt => ?_) fun hge => ?_
  · have hri : rs[n1]? = some rs[n1] := List.getElem?_eq_getElem (by omega)
    have hmem : rs[n1] ∈ rs := List.getElem_mem _
    have htake : rs.take (n1 + 1) = rs.take n1 ++ [rs[n1]] := by rw [List.take_add_one, hri]; rfl
    have hi1 : IntKind.i64.wrap ((n1 : Int) + 1) = ((n1 + 1 : Nat) : Int) := by rw [w64 (by omega) (by omega)]; omega
    refine OptsAt.idxD (S := fun w' => OptsAt w' s rs) (hO.ext H.start1) (fun w' h => h) hri fun a ha => ⟨_, _, _, c1 (ha _ (hO.ext H.start1)), ?_⟩
    have hz1 := H.start1.size
    refine (laid_sep (s := rs[n1].v.data) (l := rs[n1].data) ((hO.each _ hmem).ext H.start1)).mono ?_
    rintro _ w2 ⟨R, rfl, hR, H2⟩
    have H := H.made (H2.lower 1 rfl hz1)
    refine ⟨_, _, _, _, _, _, rfl, ?_⟩
    refine OptsAt.idxD (S := fun w' => OptsAt w' s rs) (hO.ext (H.restOf 0 rfl)) (fun w' h => h) hri fun a ha => ⟨_, c0 (ha _ (hO.ext (H.restOf 0 rfl))), ?_⟩
    refine NewVC.sep H fun g1 w3 H => ?_
    have H := H.front
    have hz3 := (H.restOf 1 rfl).size
    obtain ⟨x, hx⟩ : ∃ x : LaidQ, x = ⟨rs[n1].v.kind, R, rs[n1].data.take 66000⟩ := ⟨_, rfl⟩
    refine appO (o := x.opt.v) H 2 rfl (by rw [hx]; exact Cells.blk0 (H.blk 0 rfl)) (show n1 ≤ 1000000000 by omega) (by omega) fun A4 c4 w7 H hc4 => ?_
    refine ⟨⟨n1 + 1, ls ++ [x], hi1, by omega, ?_, by simp [hll], rfl, fun y hy => ?_, ?_⟩, by simp only [hi1]; omega⟩
    · rw [htake, List.map_append, List.map_append, List.map_append, List.map_append, hd, hx]; rfl
    · rcases List.mem_append.1 hy with hy | hy
      · exact hf y hy
      · simp at hy; subst hy; rw [hx]; exact hR
    · have H := H.tail
      have e1 : qM (ls ++ [x]) = qM ls ++ x.opt.v.cells := by unfold qM; simp
      have e2 : (ls ++ [x]).map (qRow w.heap.size) = ls.map (qRow w.heap.size) ++ [rowB w.heap.size R (rs[n1].data.take 66000 ++ roomS)] := by rw [hx]; simp [qRow]
      rw [e1, e2]
      exact H
  · have hin : n1 = s.n := by omega
    have htk : rs.take n1 = rs := List.take_of_length_le (by omega)
    rw [htk] at hd
    refine NewVC.sep H fun g3 w9 H => ?_
    have H := H.front
    have hz9 := (H.restOf 1 rfl).size
    refine appO (o := markQ) H 2 rfl (Cells.blk0 (H.blk 0 rfl)) (show n1 ≤ 1000000000 by omega) (by omega) fun A6 c6 w10 H hc6 => ?_
    have hc6 : n1 + 1 ≤ c6 := hc6
    refine ⟨by omega, by omega, ?_⟩
    rw [Int.toNat_natCast]
    refine ⟨⟨A6, s.n, c6⟩, ls, rfl, hd, ⟨by show ls.length = s.n; omega, hsm, hf⟩, ?_⟩
    have H := H.tail
    unfold qFs
    show Sep (Fct.rest w None :: Fct.own w.heap.size _ 2 (.slice A6 (s.n + 1) c6) (s.n + 1) _ :: _) w10
    rw [← hin]
    exact H
end
end N6
end Go.Proofs.YtjngdcilnipjcaaDoor
/- Datagrams laid for the complaints' laws. -/
namespace Go.Eng
open Go Go.RowKit
structure LaidY where
  kind : Int
  so : Sl
  ls : List LaidQ
  row : Sl
  data : List Int
def LaidY.ext (y : LaidY) : ExtR := ⟨⟨y.kind, y.so, ⟨y.row.A, y.data.length, y.row.k⟩⟩, y.ls.map LaidQ.opt, y.data⟩
end Go.Eng
namespace Go.Proofs.YtjngdcilnipjcaaDoor
namespace N6
open Go.Eng Go.RowKit
section
variable {w : World} {Γ : List Fct} {s : Sl}
/-- Headers laid so, as they lie. -/
structure YAt (w : World) (se : Sl) (ys : List LaidY) : Prop where
  len : ys.length = se.n
  small : se.n ≤ 4000000
  room : se.n + 1 ≤ se.k
  recs : Recs w se.A 3 ((ys.map fun y => y.ext.v.cells) ++ [markX.cells])
  opts : ∀ y ∈ ys, QAt w y.so y.ls
  data : ∀ y ∈ ys, RoomAt w y.ext.v.data y.data
theorem YAt.ext {w' : World} {se : Sl} {ys : List LaidY} (h : YAt w se ys) (hE : Ext w w') : YAt w' se ys := { h with recs := h.recs.ext hE, opts := fun y hy => (h.opts y hy).ext hE, data := fun y hy => (h.data y hy).ext hE }
theorem YAt.exts {se : Sl} {ys : List LaidY} (h : YAt w se ys) : ExtsAt w se (ys.map LaidY.ext) := by
  have hl := h.len
  have hsm := h.small
  have hr := h.room
  refine ⟨by simpa using hl, by omega, by omega, fun k cs hk => h.recs k cs ?_, fun r hr => ?_, fun r hr => ?_⟩
  · rw [List.map_map] at hk
    have hlt := (List.getElem?_eq_some_iff.1 hk).1
    rw [List.getElem?_append_left (by simpa using hlt)]
    exact hk
  · obtain ⟨y, hy, rfl⟩ := List.mem_map.1 hr
    exact (h.opts y hy).opts
  · obtain ⟨y, hy, rfl⟩ := List.mem_map.1 hr
    exact (h.data y hy).bytes
/-- As it lies. -/
structure SixAt (w : World) (g : Ip6V) (ys : List LaidY) (l : List Int) : Prop where
  exts : YAt w g.exts ys
  data : RoomAt w g.data l
  src : Bts g.src.bytes
  dst : Bts g.dst.bytes
theorem SixAt.ext {w' : World} {g : Ip6V} {ys : List LaidY} {l : List Int} (h : SixAt w g ys l) (hE : Ext w w') : SixAt w' g ys l := { h with exts := h.exts.ext hE, data := h.data.ext hE }
theorem SixAt.at {g : Ip6V} {ys : List LaidY} {l : List Int} (h : SixAt w g ys l) : Ip6At w g (ys.map LaidY.ext) l := ⟨h.exts.exts, h.data.bytes, h.src, h.dst⟩
/-- A datagram of version 4 laid so. -/
def fourV (h : Ip4V) (so R : Sl) (data : List Int) : Ip4V := { h with opts := so, data := ⟨R.A, (data.take 66000).length, R.k⟩ }
def fourFs (b : Nat) (so R : Sl) (ls : List LaidQ) (data : List Int) : List Fct := rowB b R (data.take 66000 ++ roomS) :: qFs b so ls
structure FourOk (so R : Sl) (ls : List LaidQ) (os : List OptR) (data : List Int) : Prop where
  same : (ls.map LaidQ.opt).map OptR.d = (os.map OptR.d).map cutO
  opts : QOk so ls
  data : QFine R (data.take 66000)
def cut4 (d : Ip4D) : Ip4D := { d with opts := d.opts.map cutO, data := d.data.take 66000 }
theorem fourFs_less {b b' : Nat} {so R : Sl} {ls : List LaidQ} {data : List Int} (h : b' ≤ b) : AllLe (fourFs b so R ls data) (fourFs b' so R ls data) := .cons (own_less h).1 (own_less h).2 (qFs_less h)
structure FourAt (w : World) (g : Ip4V) (ls : List LaidQ) (l : List Int) : Prop where
  opts : QAt w g.opts ls
  data : RoomAt w g.data l
  src : Bts g.src.bytes
  dst : Bts g.dst.bytes
theorem FourAt.ext {w' : World} {g : Ip4V} {ls : List LaidQ} {l : List Int} (h : FourAt w g ls l) (hE : Ext w w') : FourAt w' g ls l := { h with opts := h.opts.ext hE, data := h.data.ext hE }
theorem FourAt.at {g : Ip4V} {ls : List LaidQ} {l : List Int} (h : FourAt w g ls l) : Ip4At w g (ls.map LaidQ.opt) l := ⟨h.opts.opts, h.data.bytes, h.src, h.dst⟩
theorem fourAt_of {b : Nat} {h : Ip4V} {so R : Sl} {ls : List LaidQ} {os : List OptR} {data : List Int} (hs : Bts h.src.bytes) (hd : Bts h.dst.bytes) (hf : ∀ f ∈ fourFs b so R ls data, f.φ w) (hk : FourOk so R ls os data) : FourAt w (fourV h so R data) ls (data.take 66000) :=
  ⟨qAt_of (b := b) (fun f h => hf f (List.mem_cons_of_mem _ h)) hk.opts, room_of (b := b) (hf _ List.mem_cons_self) hk.data, hs, hd⟩
theorem fourV_d {h : Ip4V} {so R : Sl} {ls : List LaidQ} {os : List OptR} {data : List Int} (hk : FourOk so R ls os data) : (fourV h so R data).d (ls.map LaidQ.opt) (data.take 66000) = cut4 (h.d os data) := by
  unfold Ip4V.d cut4 fourV
  rw [hk.same]
set_option maxHeartbeats 2000000 in
theorem four_sep {h : Ip4V} {os : List OptR} {data : List Int} (hA : Ip4At w h os data) : Calls Tryd.prog 36 #[h.val] w fun e w' => ∃ (so R : Sl) (ls : List LaidQ), e = .returned (fourV h so R data).val ∧ FourOk so R ls os data ∧
    Sep (Fct.rest w None :: fourFs w.heap.size so R ls data) w' := by
  refine weirlaw8_four_of h w _ ?_
  unfold weirlaw8_four_VC
  refine NewVC.sep (Sep.start0 w) fun g1 w1 H => NewVC.sep H fun g2 w2 H => ⟨_, _, _, H.cell 1 rfl 42 rfl, ?_⟩
  have hz2 := (H.restOf 0 rfl).size
  refine (laid_sep (s := h.data) (l := data) (hA.data.ext (H.restOf 0 rfl))).mono ?_
  rintro _ w3 ⟨R, rfl, hR, H3⟩
  have H := H.made (H3.lower 1 rfl hz2)
  refine ⟨_, _, _, _, _, _, rfl, SetVC.sep H 1 rfl (show 42 < 43 by decide) fun w4 H => ?_⟩
  obtain ⟨h1, hh1⟩ : ∃ h1 : Ip4V, h1 = { h with data := ⟨R.A, (data.take 66000).length, R.k⟩ } := ⟨_, rfl⟩
  have hc1 : h.cells.set 42 (.slice R.A (data.take 66000).length R.k) = h1.cells := by rw [hh1]; rfl
  have hx1 : h1.opts = h.opts := by rw [hh1]
  have H : Sep [Fct.rest w None, Fct.blk g1 73 h1.cells, Fct.blk g2 73 (Ip4V.z : Ip4V).cells, rowB w.heap.size R (data.take 66000 ++ roomS)] w4 := by rw [← hc1]; exact H
  have c41 : w4.cell? ⟨g1, 41, none⟩ = some (.slice h.opts.A h.opts.n h.opts.k) := by rw [← hx1]; exact (H.blk 1 rfl).cell 41
  refine ⟨_, _, _, c41, ?_⟩
  have hz4 := (H.restOf 0 rfl).size
  refine (laidOpts_sep (s := h.opts) (rs := os) (hA.opts.ext (H.restOf 0 rfl))).mono ?_
  rintro _ w5 ⟨so, ls, rfl, hls, hok, H5⟩
  have H5 := (AllLe.append (AllLe.refl [Fct.rest w4 None]) (qFs_less hz4)).sep H5
  have H := H.mades H5
  refine ⟨_, _, _, rfl, SetVC.sep H 1 rfl (show 41 < 43 by decide) fun w6 H => ?_⟩
  obtain ⟨h2, hh2⟩ : ∃ h2 : Ip4V, h2 = fourV h so R data := ⟨_, rfl⟩
  have hc2 : h1.cells.set 41 (.slice so.A so.n so.k) = h2.cells := by rw [hh2, hh1]; rfl
  rw [hc2] at H
  refine Ip4V.of h2 ⟨H.at 1 rfl, Stores.sep H 2 rfl (cs' := h2.cells) (Ip4V.one h2) (Nat.le_refl _) (splice_all rfl) fun w7 H => Ip4V.of h2 ⟨H.at 2 rfl, ?_⟩⟩
  exact ⟨so, R, ls, by rw [hh2], ⟨hls, hok, hR⟩, H.sub (.cons_cons _ (.cons _ (.cons _ (List.Sublist.refl _))))⟩
end
end N6
end Go.Proofs.YtjngdcilnipjcaaDoor
/- All that was laid still stands. -/
namespace Go.Proofs.YtjngdcilnipjcaaDoor
namespace N6
open Go.Eng Go.RowKit
theorem i64_succ {n : Nat} (h : n ≤ 4000000) (k : Nat) (hk : k ≤ 5) : IntKind.i64.wrap ((n : Int) + (k : Int)) = ((n + k : Nat) : Int) := by rw [w64 (by omega) (by omega)]; omega
section
variable {w : World} {s t : Sl} {l : List Int}
theorem intact_spec (h : RoomAt w s l) (ht : BytesAt w t l) : Calls Tryd.prog 81 #[s.val, t.val] w fun e w' => Ext w w' ∧ e = .returned (.bool true) := by
  refine weirlaw8_intact_of s.A s.n s.k t.A t.n t.k w _ ?_
  unfold weirlaw8_intact_VC
  have hsl := h.len
  have htl := ht.len
  have hsm := ht.small
  have hrm := h.room
  have e5 : IntKind.i64.wrap ((t.n : Int) + 5) = ((t.n + 5 : Nat) : Int) := i64_succ hsm 5 (by decide)
  rw [e5]
  refine (Go.Proofs.YtjngdcilnipjcaaDoor.same_spec (xs := l) (ys := l) h.bytes.cells ht.cells hsl.symm htl (by omega)).mono ?_
  rintro _ w1 ⟨hE1, rfl⟩
  refine ⟨_, rfl, Br.t (decide_eq_true rfl) ⟨by omega, by omega, by omega, by omega, ?_⟩⟩
  refine NewVC.blk fun g1 w2 hg1 hz2 hE2 hb2 => ?_
  have hE := hE1.ext hE2
  have hc := (h.cells.ext hE).drop l.length (c := s.k) (by simp [roomS]; omega) 1 (.inl rfl)
  have hd : (List.map (Value.int .u8) (l ++ roomS)).drop l.length = roomS.map (.int .u8) := by rw [← List.map_drop, List.drop_left' rfl]
  rw [hd] at hc
  have hx : Cells w2 (if s.k = ((t.n : Int)).toNat then s.A else s.A.map (·.add (((t.n : Int)).toNat * 1))) (roomS.map (.int .u8)) := by
    rw [Int.toNat_natCast, ← htl]; exact hc
  refine (Go.Proofs.YtjngdcilnipjcaaDoor.same_spec (xs := roomS) (ys := roomS) hx (by simpa [roomS] using Cells.of_blk hb2 0) (by show 5 = _; omega) rfl (by omega)).mono ?_
  rintro _ w3 ⟨hE3, rfl⟩
  exact ⟨_, rfl, hE.ext hE3, by rw [decide_eq_true rfl]⟩
theorem QAt.idxD {S : World → Prop} {so : Sl} {ls : List LaidQ} {i : Nat} {x : LaidQ} (hw : S w) (hS : ∀ w', S w' → QAt w' so ls) (hi : ls[i]? = some x) {F : Addr → Prop} (hF : ∀ a, (∀ w', S w' → CellsAt w' a 0 x.opt.v.cells) → F a) : IdxVC so.A so.n 2 (i : Int) F := by
  have hlt := (List.getElem?_eq_some_iff.1 hi).1
  have hl := (hS w hw).len
  refine IdxVC.recD S hw (fun w' h => (hS w' h).recs) (cs := x.opt.v.cells) ?_ (by omega) hF
  rw [List.getElem?_append_left (by simpa using hlt), List.getElem?_map, hi]; rfl
theorem QAt.idxM {so : Sl} {ls : List LaidQ} (h : QAt w so ls) {F : Addr → Prop} (hF : ∀ a, CellsAt w a 0 markQ.cells → F a) : IdxVC so.A (so.n + 1) 2 (so.n : Int) F := by
  have hl := h.len
  refine IdxVC.recD (rs := (ls.map fun x => x.opt.v.cells) ++ [markQ.cells]) (fun w' => w' = w) rfl (fun w' e => by rw [e]; exact h.recs) (cs := markQ.cells) ?_ (by omega) fun a ha => hF a (ha w rfl)
  rw [List.getElem?_append_right (by simp [hl]), List.length_map, hl, Nat.sub_self]; rfl
set_option maxHeartbeats 2000000 in
theorem intactOpts_spec {so : Sl} {ls : List LaidQ} {rs : List OptR} (hq : QAt w so ls) (ho : OptsAt w t rs) (hd : (ls.map LaidQ.opt).map OptR.d = rs.map OptR.d) : Calls Tryd.prog 82 #[so.val, t.val] w fun e w' => Ext w w' ∧ e = .returned (.bool true) := by
  refine weirlaw8_intactOpts_of so.A so.n so.k t.A t.n t.k w _ ?_
  unfold weirlaw8_intactOpts_VC
  have hl := hq.len
  have hrl := ho.len
  have hsm := ho.small
  have hrm := hq.room
  have hlen : ls.length = rs.length := by simpa using congrArg List.length hd
  have hn : so.n = t.n := by omega
  have e1 : IntKind.i64.wrap ((t.n : Int) + 1) = ((t.n + 1 : Nat) : Int) := i64_succ hsm 1 (by decide)
  rw [e1]
  refine Br.no (by omega) ⟨by omega, by omega, ?_⟩
  rw [Int.toNat_natCast, ← hn]
  refine hq.idxM fun a ha => ⟨_, c0 ha, Br.f rfl ⟨by omega, by omega, ?_⟩⟩
  rw [Int.toNat_natCast]
  refine hq.idxM fun a ha => ⟨_, _, _, c1 ha, Br.f rfl ?_⟩
  refine LoopVC.of (fun st w' => Ext w w' ∧ ∃ i : Nat, st = (i : Int) ∧ i ≤ so.n) (fun st _ => ((so.n : Int) - st).toNat) ⟨Mod.refl _ _, 0, rfl, Nat.zero_le _⟩ ?_
  rintro _ w1 ⟨hE1, i, rfl, hi⟩
  show weirlaw8_intactOpts_L122 _ so.A so.n t.A so.n (i : Int) w1 _
  unfold weirlaw8_intactOpts_L122
  refine Br.dec (fun hlt => ?_) fun hge => ⟨hE1, rfl⟩
  have hli : ls[i]? = some ls[i] := List.getElem?_eq_getElem (by omega)
  have hri : rs[i]? = some rs[i] := List.getElem?_eq_getElem (by omega)
  have hdi : (ls[i]).opt.d = (rs[i]).d := by
    have h1 : ((ls.map LaidQ.opt).map OptR.d)[i]? = some (ls[i]).opt.d := by rw [List.getElem?_map, List.getElem?_map, hli]; rfl
    rw [hd, List.getElem?_map, hri] at h1
    injection h1 with h1; exact h1.symm
  have hk : (ls[i]).kind = (rs[i]).v.kind := congrArg OptD.kind hdi
  have hdat : (ls[i]).data = (rs[i]).data := congrArg OptD.data hdi
  refine DrawVC.of (fun w' => Ext w w') fun w2 hE2 _ => ⟨hE1.ext hE2, ?_⟩
  have hE := hE1.ext hE2
  have idx : ∀ {F : Addr → Prop}, (∀ a, (∀ w', Ext w w' → CellsAt w' a 0 (rs[i]).v.cells) → F a) → IdxVC t.A so.n 2 (i : Int) F := fun {F} hF => by
    rw [hn]; exact OptsAt.idxD (w := w2) (S := fun w' => Ext w w') hE (fun w' h => ho.ext h) hri hF
  refine QAt.idxD (w := w2) (S := fun w' => Ext w w') hE (fun w' h => hq.ext h) hli fun a ha => ⟨_, fun w' h => c0 (ha w' h), idx fun b hb => ⟨_, fun w' h => c0 (hb w' h), Br.no (fun x => x hk) ?_⟩⟩
  refine QAt.idxD (w := w2) (S := fun w' => Ext w w') hE (fun w' h => hq.ext h) hli fun a ha => ⟨_, _, _, fun w' h => c1 (ha w' h), idx fun b hb => ⟨_, _, _, fun w' h => c1 (hb w' h), ?_⟩⟩
  refine (intact_spec (s := (ls[i]).opt.v.data) (t := (rs[i]).v.data) (l := (ls[i]).data) ((hq.each _ (List.getElem_mem _)).ext hE) (by rw [hdat]; exact (ho.each _ (List.getElem_mem _)).ext hE)).mono ?_
  rintro _ w3 ⟨hE3, rfl⟩
  refine ⟨_, rfl, hE.ext hE3, Br.f rfl ⟨⟨hE.ext hE3, i + 1, i64_succ (by omega) 1 (by decide), by omega⟩, ?_⟩⟩
  have e1 : IntKind.i64.wrap ((i : Int) + 1) = ((i + 1 : Nat) : Int) := i64_succ (by omega) 1 (by decide)
  rw [e1]; omega
theorem fourStands_spec {g d : Ip4V} {ls : List LaidQ} {rs : List OptR} {l : List Int} (hg : FourAt w g ls l) (hd : Ip4At w d rs l) (hs : (ls.map LaidQ.opt).map OptR.d = rs.map OptR.d) : Calls Tryd.prog 39 #[g.val, d.val] w fun e w' => Ext w w' ∧ e = .returned (.bool true) := by
  refine weirlaw8_fourStands_of g d w _ ?_
  unfold weirlaw8_fourStands_VC
  refine NewVC.sep (Sep.start0 w) fun g1 w1 H => NewVC.sep H fun g2 w2 H => ⟨_, _, _, H.cell 1 rfl 42 rfl, _, _, _, H.cell 2 rfl 42 rfl, ?_⟩
  have hE := H.restOf 0 rfl
  refine (intact_spec (s := g.data) (t := d.data) (hg.data.ext hE) (hd.data.ext hE)).mono ?_
  rintro _ w3 ⟨hE3, rfl⟩
  have H := H.ext hE3
  have hE := H.restOf 0 rfl
  refine ⟨_, rfl, Br.t rfl ⟨_, _, _, H.cell 1 rfl 41 rfl, _, _, _, H.cell 2 rfl 41 rfl, ?_⟩⟩
  refine (intactOpts_spec (so := g.opts) (t := d.opts) (hg.opts.ext hE) (hd.opts.ext hE) hs).mono ?_
  rintro _ w4 ⟨hE4, rfl⟩
  exact ⟨_, rfl, Mod.trans hE hE4, rfl⟩
theorem YAt.idxD {S : World → Prop} {se : Sl} {ys : List LaidY} {i : Nat} {y : LaidY} (hw : S w) (hS : ∀ w', S w' → YAt w' se ys) (hi : ys[i]? = some y) {F : Addr → Prop} (hF : ∀ a, (∀ w', S w' → CellsAt w' a 0 y.ext.v.cells) → F a) : IdxVC se.A se.n 3 (i : Int) F := by
  have hlt := (List.getElem?_eq_some_iff.1 hi).1
  have hl := (hS w hw).len
  refine IdxVC.recD S hw (fun w' h => (hS w' h).recs) (cs := y.ext.v.cells) ?_ (by omega) hF
  rw [List.getElem?_append_left (by simpa using hlt), List.getElem?_map, hi]; rfl
theorem YAt.idxM {se : Sl} {ys : List LaidY} (h : YAt w se ys) {F : Addr → Prop} (hF : ∀ a, CellsAt w a 0 markX.cells → F a) : IdxVC se.A (se.n + 1) 3 (se.n : Int) F := by
  have hl := h.len
  refine IdxVC.recD (rs := (ys.map fun y => y.ext.v.cells) ++ [markX.cells]) (fun w' => w' = w) rfl (fun w' e => by rw [e]; exact h.recs) (cs := markX.cells) ?_ (by omega) fun a ha => hF a (ha w rfl)
  rw [List.getElem?_append_right (by simp [hl]), List.length_map, hl, Nat.sub_self]; rfl
end
end N6
end Go.Proofs.YtjngdcilnipjcaaDoor
