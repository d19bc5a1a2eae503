/- Chapter 8: the document's asks, told, some; its Complain6 and Complain4. -/
import Derived.Test.YtjngdcilnipjcaaGreatDoorBw
import Derived.Test.YtjngdcilnipjcaaGreatDoorBr
namespace Go.Eng
open Go Go.RowKit
theorem pair_idx {w : World} {g : Nat} {t : TypeId} {cs : List Value} {k : Int} {x0 x1 : Value} (hb : Blk w g t cs) (h0 : 0 ≤ k) (h8 : k < 8) (h1 : cs[k.toNat * 2]? = some x0) (h2 : cs[k.toNat * 2 + 1]? = some x1) {F : Addr → Prop}
  (hF : ∀ a, CellsAt w a 0 [x0, x1] → F a) : IdxVC (some ⟨g, 0, none⟩) 8 2 k F := by
 refine ⟨_, rfl, h0, h8, hF _ ?_⟩
 have e : (⟨g, 0, none⟩ : Addr).add (k.toNat * 2) = ⟨g, k.toNat * 2, none⟩ := by rw [addr_add, Nat.zero_add]
 rw [e]
 exact ⟨(hb.cell _).trans h1, (hb.cell _).trans h2, trivial⟩
def pairs4 : List Value := [.int .i64 0, .int .i64 0, .int .i64 3, .int .i64 0, .int .i64 3, .int .i64 1, .int .i64 3, .int .i64 13, .int .i64 3, .int .i64 4, .int .i64 11, .int .i64 0, .int .i64 11, .int .i64 1, .int .i64 12, .int .i64 0]
def pairs6 : List Value := [.int .i64 0, .int .i64 0, .int .i64 1, .int .i64 0, .int .i64 1, .int .i64 3, .int .i64 1, .int .i64 1, .int .i64 2, .int .i64 0, .int .i64 3, .int .i64 0, .int .i64 3, .int .i64 1, .int .i64 4, .int .i64 0]
theorem trb_pairs {k : Int} (h1 : 1 ≤ k) (h7 : k ≤ 7) : pairs4[k.toNat * 2]? = some (.int .i64 ((trbL k).getD 0 0)) ∧ pairs4[k.toNat * 2 + 1]? = some (.int .i64 ((trbL k).getD 1 0)) ∧ pairs6[k.toNat * 2]? = some (.int .i64 ((trbL k).getD 2 0)) ∧ pairs6[k.toNat * 2 + 1]? = some (.int .i64 ((trbL k).getD 3 0)) ∧
  (trbL k).getD 6 0 = if k = 7 then 24 else 0 := by
 obtain ⟨m, rfl⟩ := Int.eq_ofNat_of_zero_le (by omega : 0 ≤ k)
 have a1 : 1 ≤ m := by omega
 have a7 : m ≤ 7 := by omega
 match m, a1, a7 with
 | 1, _, _ => exact ⟨rfl, rfl, rfl, rfl, rfl⟩
 | 2, _, _ => exact ⟨rfl, rfl, rfl, rfl, rfl⟩
 | 3, _, _ => exact ⟨rfl, rfl, rfl, rfl, rfl⟩
 | 4, _, _ => exact ⟨rfl, rfl, rfl, rfl, rfl⟩
 | 5, _, _ => exact ⟨rfl, rfl, rfl, rfl, rfl⟩
 | 6, _, _ => exact ⟨rfl, rfl, rfl, rfl, rfl⟩
 | 7, _, _ => exact ⟨rfl, rfl, rfl, rfl, rfl⟩
theorem classP_range {p : IPV} (hs : 0 < sizeS p) : 1 ≤ classP p ∧ classP p ≤ 7 := by
 rw [classP_chain hs]
 generalize (matchS p ⟨⟨4, 0, 0, 0, 0, 0, 0, 0, 0, 0, 0, 0, 0, 0, 0, 0, 0⟩, 32, 1⟩ || matchS p ⟨noneIP, 128, 1⟩) = b1
 generalize (matchS p ⟨⟨4, 127, 0, 0, 0, 0, 0, 0, 0, 0, 0, 0, 0, 0, 0, 0, 0⟩, 8, 2⟩ || matchS p ⟨tailIP 1, 128, 2⟩) = b2
 generalize (matchS p ⟨⟨4, 224, 0, 0, 0, 0, 0, 0, 0, 0, 0, 0, 0, 0, 0, 0, 0⟩, 4, 3⟩ || matchS p ⟨headIP 65280, 8, 3⟩) = b3
 generalize (matchS p ⟨⟨4, 169, 254, 0, 0, 0, 0, 0, 0, 0, 0, 0, 0, 0, 0, 0, 0⟩, 16, 4⟩ || matchS p ⟨headIP 65152, 10, 4⟩) = b4
 generalize matchS p ⟨⟨4, 255, 255, 255, 255, 0, 0, 0, 0, 0, 0, 0, 0, 0, 0, 0, 0⟩, 32, 5⟩ = b5
 generalize (matchS p ⟨⟨4, 0, 0, 0, 0, 0, 0, 0, 0, 0, 0, 0, 0, 0, 0, 0, 0⟩, 8, 6⟩ || (matchS p ⟨⟨4, 240, 0, 0, 0, 0, 0, 0, 0, 0, 0, 0, 0, 0, 0, 0, 0⟩, 4, 6⟩ || matchS p ⟨noneIP, 8, 6⟩)) = b6
 cases b1 <;> cases b2 <;> cases b3 <;> cases b4 <;> cases b5 <;> cases b6 <;> decide
end Go.Eng
namespace Go.Proofs.YtjngdcilnipjcaaGreatDoor
namespace N6
open Go.Eng Go.RowKit
section
variable {w : World} {t : TrbV}
theorem asks_spec {p : IPV} (hp : Bts p.bytes) : Calls Tryz.prog 33 #[p.val] w fun e w' => Ext w w' ∧ e = .returned (.bool (asksP p)) := by
 refine weirref8_asks_of p w _ ?_
 unfold weirref8_asks_VC
 refine NewVC.sep (Sep.start0 w) fun g1 w1 H => IPV.of p ⟨H.at 1 rfl, ?_⟩
 have hE := H.restOf 0 rfl
 refine (Nd.refClassX hp).mono ?_
 rintro _ w2 ⟨hE2, rfl⟩
 refine ⟨_, rfl, Br.dec (fun h => ⟨hE.trans hE2, by unfold asksP; rw [decide_eq_true (.inl h)]⟩) fun h => ⟨hE.trans hE2, ?_⟩⟩
 unfold asksP
 congr 2
 exact decide_eq_decide.2 ⟨.inr, fun h' => h'.resolve_left h⟩
def toldV (v : Int) (t : TrbV) : IcmV := if v = 6 then ⟨v, (trbL t.kind).getD 2 0, (trbL t.kind).getD 3 0, t.extra, ⟨none, 0, 0⟩⟩ else ⟨v, (trbL t.kind).getD 0 0, (trbL t.kind).getD 1 0, t.extra * 2 ^ ((trbL t.kind).getD 6 0).toNat, ⟨none, 0, 0⟩⟩
set_option maxHeartbeats 1000000 in
theorem refTold_spec {v : Int} (h1 : 1 ≤ t.kind) (h7 : t.kind ≤ 7) (hx : 0 ≤ t.extra ∧ t.extra ≤ 65535) : Calls Tryz.prog 35 #[t.val, .int .i64 v] w fun e w' => Ext w w' ∧ e = .returned (toldV v t).val := by
 refine weirref8_told_of t v w _ ?_
 unfold weirref8_told_VC
 obtain ⟨p0, p1, p2, p3, p6⟩ := trb_pairs h1 h7
 refine NewVC.sep (Sep.start0 w) fun g1 w1 H => NewVC.sep H fun g2 w2 H => NewVC.sep H fun g3 w3 H => ?_
 refine Stores.sep H 3 rfl (cs' := pairs4) (List.all_eq_true.1 (rfl : pairs4.all Value.oneCell' = true)) (Nat.le_refl _) (splice_all rfl) fun w4 H => ?_
 refine NewVC.sep H fun g4 w5 H => ?_
 refine Stores.sep H 4 rfl (cs' := pairs6) (List.all_eq_true.1 (rfl : pairs6.all Value.oneCell' = true)) (Nat.le_refl _) (splice_all rfl) fun w6 H => ?_
 refine ⟨_, H.cell 1 rfl 0 rfl, pair_idx (H.blk 3 rfl) (by omega) (by omega) p0 p1 fun a ha => ⟨_, _, ha, NewVC.sep H fun g5 w7 H => ?_⟩⟩
 refine Stores.sep H 5 rfl (cs' := [.int .i64 ((trbL t.kind).getD 0 0), .int .i64 ((trbL t.kind).getD 1 0)]) (List.all_eq_true.1 rfl) (Nat.le_refl _) (splice_all rfl) fun w8 H => ?_
 refine ⟨_, H.cell 1 rfl 1 rfl, Br.dec (fun h6 => ?_) fun h6 => ?_⟩
 ·refine ⟨_, H.cell 1 rfl 0 rfl, pair_idx (H.blk 4 rfl) (by omega) (by omega) p2 p3 fun a ha => ⟨_, _, ha, ?_⟩⟩
  refine Stores.sep H 5 rfl (cs' := [.int .i64 ((trbL t.kind).getD 2 0), .int .i64 ((trbL t.kind).getD 3 0)]) (List.all_eq_true.1 rfl) (Nat.le_refl _) (splice_all rfl) fun w9 H => ?_
  refine ⟨_, rfl, by decide, by decide, _, H.cell 5 rfl 0 rfl, _, rfl, by decide, by decide, _, H.cell 5 rfl 1 rfl, ?_⟩
  refine Stores.sep H 2 rfl (cs' := (toldV v t).cells) (List.all_eq_true.1 rfl) (Nat.le_refl _) (by unfold toldV; rw [if_pos h6]; exact splice_all rfl) fun w10 H => ?_
  exact IcmV.of (toldV v t) ⟨H.at 2 rfl, H.restOf 0 rfl, rfl⟩
 ·refine ⟨_, H.cell 1 rfl 0 rfl, Br.dec (fun hk => ?_) fun hk => ?_⟩
  ·refine ⟨_, H.cell 1 rfl 1 rfl, _, rfl, by decide, by decide, _, H.cell 5 rfl 0 rfl, _, rfl, by decide, by decide, _, H.cell 5 rfl 1 rfl, ?_⟩
   have e : IntKind.i64.wrap (t.extra * 16777216) = t.extra * 2 ^ ((trbL t.kind).getD 6 0).toNat := by
    rw [p6, if_pos hk, w64 (by omega) (by omega)]; rfl
   rw [e]
   refine Stores.sep H 2 rfl (cs' := (toldV v t).cells) (List.all_eq_true.1 rfl) (Nat.le_refl _) (by unfold toldV; rw [if_neg h6]; exact splice_all rfl) fun w10 H => ?_
   exact IcmV.of (toldV v t) ⟨H.at 2 rfl, H.restOf 0 rfl, rfl⟩
  ·refine ⟨_, rfl, by decide, by decide, _, H.cell 5 rfl 0 rfl, _, rfl, by decide, by decide, _, H.cell 5 rfl 1 rfl, ?_⟩
   have e : t.extra = t.extra * 2 ^ ((trbL t.kind).getD 6 0).toNat := by
    rw [p6, if_neg hk]; exact (Int.mul_one _).symm
   refine Stores.sep H 2 rfl (cs' := (toldV v t).cells) (List.all_eq_true.1 rfl) (Nat.le_refl _) (by unfold toldV; rw [if_neg h6, ← e]; exact splice_all rfl) fun w10 H => ?_
   exact IcmV.of (toldV v t) ⟨H.at 2 rfl, H.restOf 0 rfl, rfl⟩
theorem some_spec {A : Option Addr} {n c N : Nat} (h : n ≤ c) : Calls Tryz.prog 36 #[.slice A n c, .int .i64 (N : Int)] w fun e w' => w' = w ∧ e = .returned (.slice A (min N n) c) := by
 refine weirref8_some_of A n c N w _ ?_
 unfold weirref8_some_VC
 refine Br.dec (fun hlt => ⟨by omega, by omega, rfl, ?_⟩) fun hge => ⟨rfl, ?_⟩
 ·rw [Int.toNat_natCast, Nat.min_eq_left (by omega)]
 ·rw [Nat.min_eq_right (by omega)]
def RComp (v : Int) (w : World) (r : Option (Int × Int × Int × List Int)) (e : Ending) (w' : World) : Prop :=
 match r with
 | none => e = .returned (.tuple #[(IcmV.z : IcmV).val, .bool false]) ∧ Ext w w'
 | some (t, c, rs, d) => ∃ (A : Option Addr) (k : Nat), e = .returned (.tuple #[(⟨v, t, c, rs, ⟨A, d.length, k⟩⟩ : IcmV).val, .bool true]) ∧ Sep [Fct.rest w None, winB w.heap.size (.slice A d.length k) d.length d] w'
theorem no_ref {v : Int} {Γ : List Fct} {g3 g4 : Nat} {w0 : World} {r : Option (Int × Int × Int × List Int)} (hr : r = none) (H : Sep (Fct.rest w0 None :: Fct.blk g3 27 (IcmV.z : IcmV).cells :: Fct.blk g4 27 (IcmV.z : IcmV).cells :: Γ) w) :
  IcmV.ex fun h2 => CellsAt w ⟨g4, 0, none⟩ 0 h2.cells ∧ Stores ⟨g3, 0, none⟩ 0 h2.cells w fun w5 => IcmV.ex fun res => CellsAt w5 ⟨g3, 0, none⟩ 0 res.cells ∧ RComp v w0 r (.returned (.tuple #[res.val, .bool false])) w5 :=
 IcmV.of IcmV.z ⟨H.at 2 rfl, Stores.sep H 1 rfl (IcmV.one _) (Nat.le_refl _) (splice_all rfl) fun w5 H => IcmV.of IcmV.z ⟨H.at 1 rfl, by rw [hr]; exact ⟨rfl, H.restOf 0 rfl⟩⟩⟩
def frmR (w0 : World) (g1 g2 g3 g4 : Nat) (t : TrbV) (ty : TypeId) (cs : List Value) : List Fct := [Fct.rest w0 None, Fct.blk g3 27 (IcmV.z : IcmV).cells, Fct.blk g4 27 (IcmV.z : IcmV).cells, Fct.blk g1 29 t.cells, Fct.blk g2 ty cs]
theorem winSome {Γ : List Fct} {b : Nat} {A : Option Addr} {c N : Nat} {l : List Int} {f : Fct} (H : Sep (f :: winB b (.slice A l.length c) l.length l :: Γ) w) : Sep [f, winB b (.slice A (l.take N).length c) (l.take N).length (l.take N)] w := by
 have hw := (H.win 1 rfl)
 have hc : l.length ≤ c := by
  rcases hw.2 with ⟨h, h0⟩ | ⟨g, c', cs, h, _, h3, _⟩
  ·injection h with _ _ h; omega
  ·injection h with _ _ h; omega
 have hm : (l.take N).length = min N l.length := List.length_take
 have H := H.winCut (i := 1) rfl (m := min N l.length) (c2 := c) (Nat.min_le_right _ _) (Nat.le_trans (Nat.min_le_right _ _) hc) (Nat.le_refl _)
 have e : (l.map (Value.int .u8)).take (min N l.length) = (l.take N).map (.int .u8) := by
  rw [← List.map_take]
  congr 1
  rcases Nat.le_total N l.length with h | h
  ·rw [Nat.min_eq_left h]
  ·rw [Nat.min_eq_right h, List.take_of_length_le (Nat.le_refl _), List.take_of_length_le h]
 rw [e] at H
 rw [hm]
 exact H.sub (.cons_cons _ (.cons_cons _ (List.nil_sublist _)))
theorem win_le {b n c : Nat} {A : Option Addr} {xs : List Value} {e : TypeId} (hw : Win w b e (.slice A n c) n xs) : n ≤ c := by
 rcases hw.2 with ⟨h, h0⟩ | ⟨g, c', cs, h, _, h3, _⟩
 ·injection h with _ _ h; omega
 ·injection h with _ _ h; omega
end
section
variable {w0 w : World} {g1 g2 g3 g4 : Nat} {t : TrbV}
set_option maxHeartbeats 2000000 in
theorem ref6_last {h : Ip6V} {bs : List Int} {r : Option (Int × Int × Int × List Int)} {A : Option Addr} {c : Nat} (htr : isTrbS t 6 = true) (hr : r = some ((trbL t.kind).getD 2 0, (trbL t.kind).getD 3 0, t.extra, bs.take 1232))
  (H : Sep (frmR w0 g1 g2 g3 g4 t 37 h.cells ++ [winB w0.heap.size (.slice A bs.length c) bs.length bs]) w) :
  weirref8_Complain6_J63 (RComp 6 w0 r) g1 g3 A bs.length c w := by
 unfold weirref8_Complain6_J63
 have htr' := of_decide_eq_true htr
 obtain ⟨x0, x1, x2, x3, x4, x5, x6, hl, -, -, -, -, k5, -⟩ := trb_facts t.kind.toNat (by omega) (by omega)
 have hL : trbL t.kind = [x0, x1, x2, x3, x4, x5, x6] := by unfold trbL; rw [List.getD_eq_getElem?_getD, hl]; rfl
 have hle : t.extra ≤ x5 := by
  have := htr'.2.2.2
  rw [if_neg (by decide), hL] at this; exact this
 have hc := win_le (H.win 5 rfl)
 refine TrbV.of t ⟨H.at 3 rfl, (refTold_spec (v := 6) (by omega) (by omega) (by omega)).mono ?_⟩
 rintro _ w1 ⟨hE1, rfl⟩
 have H := H.ext hE1
 refine onRet_is (IcmV.of (toldV 6 t) ⟨rfl, NewVC.sep H fun g5 w2 H => Stores.sep H 6 rfl (IcmV.one (toldV 6 t)) (Nat.le_refl _) (splice_all rfl) fun w3 H => ?_⟩)
 refine (some_spec (N := 1232) hc).mono ?_
 rintro _ w4 ⟨hw4, rfl⟩
 subst w4
 refine ⟨_, _, _, rfl, SetVC.sep H 6 rfl (show 4 < 5 by decide) fun w5 H => ?_⟩
 obtain ⟨m, hm⟩ : ∃ m : IcmV, m = ⟨6, (trbL t.kind).getD 2 0, (trbL t.kind).getD 3 0, t.extra, ⟨A, min 1232 bs.length, c⟩⟩ := ⟨_, rfl⟩
 have e : (toldV 6 t).cells.set 4 (.slice A (min 1232 bs.length) c) = m.cells := by rw [hm]; rfl
 rw [e] at H
 refine IcmV.of m ⟨H.at 6 rfl, Stores.sep H 1 rfl (cs' := m.cells) (IcmV.one m) (Nat.le_refl _) (splice_all rfl) fun w6 H => IcmV.of m ⟨H.at 1 rfl, ?_⟩⟩
 rw [hr]
 refine ⟨A, c, ?_, winSome (N := 1232) (H.sub (Γ' := [Fct.rest w0 None, winB w0.heap.size (.slice A bs.length c) bs.length bs]) (.cons_cons _ (.cons _ (.cons _ (.cons _ (.cons _ (.cons_cons _ (List.nil_sublist _))))))))⟩
 rw [hm, List.length_take]
set_option maxHeartbeats 4000000 in
theorem refComplain6_spec {h : Ip6V} {es : List ExtR} {data : List Int} (hA : Ip6At w h es data) : Calls Tryz.prog 11 #[t.val, h.val] w (RComp 6 w (comp6S t (h.d es data))) := by
 refine weirref8_Complain6_of t h w _ ?_
 unfold weirref8_Complain6_VC
 refine NewVC.sep (Sep.start0 w) fun g1 w1 H => NewVC.sep H fun g2 w2 H => NewVC.sep H fun g3 w3 H => NewVC.sep H fun g4 w4 H => ?_
 have H : Sep (frmR w g1 g2 g3 g4 t 37 h.cells) w4 := by
  refine H.perm (List.Perm.cons _ ?_)
  exact (List.perm_append_comm (l₁ := [Fct.blk g3 27 (IcmV.z : IcmV).cells, Fct.blk g4 27 (IcmV.z : IcmV).cells]) (l₂ := [Fct.blk g1 29 t.cells, Fct.blk g2 37 h.cells]))
 refine Ip6V.of h ⟨H.at 4 rfl, (refSerialise_spec (hA.ext (H.restOf 0 rfl))).mono ?_⟩
 intro e w5 h5
 obtain ⟨A, c, rfl, H5⟩ := h5.win
 have hz := (H.restOf 0 rfl).size
 have H5 := H5.weaken 1 rfl (f' := winB w.heap.size (.slice A (ser6S (h.d es data)).1.length c) (ser6S (h.d es data)).1.length (ser6S (h.d es data)).1) (Win.low (H5.win 1 rfl) hz) fun _ h => h
 have H : Sep (frmR w g1 g2 g3 g4 t 37 h.cells ++ [winB w.heap.size (.slice A (ser6S (h.d es data)).1.length c) (ser6S (h.d es data)).1.length (ser6S (h.d es data)).1]) w5 := H.mades H5
 refine ⟨_, _, _, _, rfl, Br.dec (fun hs => no_ref (by unfold comp6S; rw [if_neg (fun x => hs x.2.2.1)]) H) fun hs => ?_⟩
 have hs : (ser6S (h.d es data)).2 = 0 := Classical.not_not.1 hs
 refine TrbV.of t ⟨H.at 3 rfl, (refTrouble_spec (v := 6) (.inr rfl)).mono ?_⟩
 rintro _ w7 ⟨hE7, rfl⟩
 have H := H.ext hE7
 refine ⟨_, rfl, ?_⟩
 cases htr : isTrbS t 6 with
 | false => exact Br.t rfl (no_ref (by unfold comp6S; rw [if_neg (fun x => by rw [htr] at x; exact absurd x.1 (by decide))]) H)
 | true =>
 have hfr : 0 < h.frag.off → h.frag.has = true := fun ho => by
  rcases ser6S_cases (h.d es data) with ⟨h0, _⟩ | ⟨_, _, _, hf, _, _⟩
  ·exact absurd hs h0
  ·cases hh : h.frag.has with
   | true => rfl
   | false =>
    unfold fragE at hf
    have e1 : (h.d es data).frag = h.frag := rfl
    rw [e1, hh, if_neg (by decide), if_pos (.inr (.inr (by omega)))] at hf
    exact absurd hf (by decide)
 refine Br.f rfl ⟨_, H.cell 4 rfl 41 rfl, Br.dec (fun hoff => no_ref (by unfold comp6S; rw [if_neg (fun x => x.2.1 ⟨hfr hoff, hoff⟩)]) H) fun hoff => ?_⟩
 refine IPV.of h.src ⟨ip6_src (H.blk 4 rfl), (asks_spec hA.src).mono ?_⟩
 rintro _ w10 ⟨hE10, rfl⟩
 have H := H.ext hE10
 refine ⟨_, rfl, ?_⟩
 cases hask : asksP h.src with
 | false => exact Br.t rfl (no_ref (by unfold comp6S; rw [if_neg (fun x => by have := x.2.2.2.2.2; rw [show (h.d es data).src = h.src from rfl, hask] at this; cases this)]) H)
 | true =>
 refine Br.f rfl (JoinVC.of (fun _ w' => ¬ (classP h.dst = 3 ∧ t.kind ≠ 4) ∧ Sep (frmR w g1 g2 g3 g4 t 37 h.cells ++ [winB w.heap.size (.slice A (ser6S (h.d es data)).1.length c) (ser6S (h.d es data)).1.length (ser6S (h.d es data)).1]) w') ?_ ?_)
 ·refine IPV.of h.dst ⟨ip6_dst (H.blk 4 rfl), (Nd.refClassX hA.dst).mono ?_⟩
  rintro _ w12 ⟨hE12, rfl⟩
  have H := H.ext hE12
  refine ⟨_, rfl, Br.dec (fun h3 => ⟨_, H.cell 3 rfl 0 rfl, Br.dec (fun hk => no_ref (by unfold comp6S; rw [if_neg (fun x => x.2.2.2.2.1 ⟨h3, hk⟩)]) H) fun hk => ⟨fun x => hk x.2, H⟩⟩) fun h3 => ⟨fun x => h3 x.1, H⟩⟩
 rintro _ w14 ⟨hdst, H⟩
 unfold weirref8_Complain6_J31
 have hd := hA.data.ext (H.restOf 0 rfl)
 have hdl := hd.len
 refine JoinVC.of (fun _ w' => quiet6 (h.d es data) = false ∧ w' = w14) ?_ ?_
 ·refine ⟨_, H.cell 4 rfl 42 rfl, Br.dec (fun hn => ?_) fun hn => ⟨decide_eq_false (fun x => hn x.1), rfl⟩⟩
  refine ⟨_, _, _, H.cell 4 rfl 43 rfl, Br.dec (fun hp => ?_) fun hp => ⟨decide_eq_false (fun x => hp (by have := x.2.1; show (0 : Int) < (h.data.n : Int); have : 0 < data.length := this; omega)), rfl⟩⟩
  refine ⟨_, _, _, H.cell 4 rfl 43 rfl, ?_⟩
  refine IdxVC.int (k := .u8) (xs := data) hd.cells (by decide) (by omega) hdl fun a ha => ⟨_, ha, ?_⟩
  have e0 : data.getD (0 : Int).toNat 0 = data.getD 0 0 := rfl
  rw [e0]
  refine Br.dec (fun h1 => no_ref (by unfold comp6S; rw [if_neg (fun x => ?_)]; exact absurd (of_decide_eq_false x.2.2.2.1) (fun y => y ⟨hn, by show 0 < data.length; omega, .inl h1⟩)) H) fun h1 => ⟨_, _, _, H.cell 4 rfl 43 rfl, ?_⟩
  refine IdxVC.int (k := .u8) (xs := data) hd.cells (by decide) (by omega) hdl fun a ha => ⟨_, ha, ?_⟩
  rw [e0]
  refine Br.dec (fun h2 => no_ref (by unfold comp6S; rw [if_neg (fun x => ?_)]; exact absurd (of_decide_eq_false x.2.2.2.1) (fun y => y ⟨hn, by show 0 < data.length; omega, .inr h2⟩)) H) fun h2 => ⟨decide_eq_false (fun x => ?_), rfl⟩
  rcases x.2.2 with y | y
  ·exact h1 y
  ·exact h2 y
 rintro _ w17 ⟨hq, hw⟩
 subst w17
 exact ref6_last htr (by unfold comp6S; rw [if_pos ⟨htr, fun x => hoff x.2, hs, hq, hdst, hask⟩]) H
set_option maxHeartbeats 2000000 in
theorem ref4_last {h : Ip4V} {bs : List Int} {r : Option (Int × Int × Int × List Int)} {A : Option Addr} {c : Nat} (htr : isTrbS t 4 = true) (hr : r = some ((trbL t.kind).getD 0 0, (trbL t.kind).getD 1 0, t.extra * 2 ^ ((trbL t.kind).getD 6 0).toNat, bs.take 548))
  (H : Sep (frmR w0 g1 g2 g3 g4 t 32 h.cells ++ [winB w0.heap.size (.slice A bs.length c) bs.length bs]) w) :
  weirref8_Complain4_J127 (RComp 4 w0 r) g1 g3 A bs.length c w := by
 unfold weirref8_Complain4_J127
 have htr' := of_decide_eq_true htr
 obtain ⟨x0, x1, x2, x3, x4, x5, x6, hl, -, -, -, -, -, k6⟩ := trb_facts t.kind.toNat (by omega) (by omega)
 have hL : trbL t.kind = [x0, x1, x2, x3, x4, x5, x6] := by unfold trbL; rw [List.getD_eq_getElem?_getD, hl]; rfl
 have hle : t.extra ≤ x4 := by
  have := htr'.2.2.2
  rw [if_pos rfl, hL] at this; exact this
 have hc := win_le (H.win 5 rfl)
 refine TrbV.of t ⟨H.at 3 rfl, (refTold_spec (v := 4) (by omega) (by omega) (by omega)).mono ?_⟩
 rintro _ w1 ⟨hE1, rfl⟩
 have H := H.ext hE1
 refine onRet_is (IcmV.of (toldV 4 t) ⟨rfl, NewVC.sep H fun g5 w2 H => Stores.sep H 6 rfl (IcmV.one (toldV 4 t)) (Nat.le_refl _) (splice_all rfl) fun w3 H => ?_⟩)
 refine (some_spec (N := 548) hc).mono ?_
 rintro _ w4 ⟨hw4, rfl⟩
 subst w4
 refine ⟨_, _, _, rfl, SetVC.sep H 6 rfl (show 4 < 5 by decide) fun w5 H => ?_⟩
 obtain ⟨m, hm⟩ : ∃ m : IcmV, m = ⟨4, (trbL t.kind).getD 0 0, (trbL t.kind).getD 1 0, t.extra * 2 ^ ((trbL t.kind).getD 6 0).toNat, ⟨A, min 548 bs.length, c⟩⟩ := ⟨_, rfl⟩
 have e : (toldV 4 t).cells.set 4 (.slice A (min 548 bs.length) c) = m.cells := by rw [hm]; rfl
 rw [e] at H
 refine IcmV.of m ⟨H.at 6 rfl, Stores.sep H 1 rfl (cs' := m.cells) (IcmV.one m) (Nat.le_refl _) (splice_all rfl) fun w6 H => IcmV.of m ⟨H.at 1 rfl, ?_⟩⟩
 rw [hr]
 refine ⟨A, c, ?_, winSome (N := 548) (H.sub (Γ' := [Fct.rest w0 None, winB w0.heap.size (.slice A bs.length c) bs.length bs]) (.cons_cons _ (.cons _ (.cons _ (.cons _ (.cons _ (.cons_cons _ (List.nil_sublist _))))))))⟩
 rw [hm, List.length_take]
theorem four4_size {p : IPV} (h : four4 p) : 0 < sizeS p := by
 obtain ⟨h, h4, h5, h6, h7, h8, h9, h10, h11, h12, h13, h14, h15⟩ := h
 unfold sizeS
 rw [if_neg (by omega), if_neg (by omega), h4, h5, h6, h7, h8, h9, h10, h11, h12, h13, h14, h15]
 decide
set_option maxHeartbeats 4000000 in
theorem refComplain4_spec {h : Ip4V} {os : List OptR} {data : List Int} (hA : Ip4At w h os data) : Calls Tryz.prog 10 #[t.val, h.val] w (RComp 4 w (comp4S t (h.d os data))) := by
 refine weirref8_Complain4_of t h w _ ?_
 unfold weirref8_Complain4_VC
 refine NewVC.sep (Sep.start0 w) fun g1 w1 H => NewVC.sep H fun g2 w2 H => NewVC.sep H fun g3 w3 H => NewVC.sep H fun g4 w4 H => ?_
 have H : Sep (frmR w g1 g2 g3 g4 t 32 h.cells) w4 := by
  refine H.perm (List.Perm.cons _ ?_)
  exact (List.perm_append_comm (l₁ := [Fct.blk g3 27 (IcmV.z : IcmV).cells, Fct.blk g4 27 (IcmV.z : IcmV).cells]) (l₂ := [Fct.blk g1 29 t.cells, Fct.blk g2 32 h.cells]))
 refine Ip4V.of h ⟨H.at 4 rfl, (refSerialise4_spec (hA.ext (H.restOf 0 rfl))).mono ?_⟩
 intro e w5 h5
 obtain ⟨A, c, rfl, H5⟩ := h5.win
 have hz := (H.restOf 0 rfl).size
 have H5 := H5.weaken 1 rfl (f' := winB w.heap.size (.slice A (ser4S (h.d os data)).1.length c) (ser4S (h.d os data)).1.length (ser4S (h.d os data)).1) (Win.low (H5.win 1 rfl) hz) fun _ h => h
 have H : Sep (frmR w g1 g2 g3 g4 t 32 h.cells ++ [winB w.heap.size (.slice A (ser4S (h.d os data)).1.length c) (ser4S (h.d os data)).1.length (ser4S (h.d os data)).1]) w5 := H.mades H5
 refine ⟨_, _, _, _, rfl, Br.dec (fun hs => no_ref (by unfold comp4S; rw [if_neg (fun x => hs x.2.2.1)]) H) fun hs => ?_⟩
 have hs : (ser4S (h.d os data)).2 = 0 := Classical.not_not.1 hs
 refine TrbV.of t ⟨H.at 3 rfl, (refTrouble_spec (v := 4) (.inl rfl)).mono ?_⟩
 rintro _ w7 ⟨hE7, rfl⟩
 have H := H.ext hE7
 refine ⟨_, rfl, ?_⟩
 cases htr : isTrbS t 4 with
 | false => exact Br.t rfl (no_ref (by unfold comp4S; rw [if_neg (fun x => by rw [htr] at x; exact absurd x.1 (by decide))]) H)
 | true =>
 have hc0 : check4S (h.d os data) = 0 := by
  unfold ser4S at hs
  split at hs
  ·rename_i h1; exact absurd hs h1
  ·rename_i h1; exact Classical.not_not.1 h1
 have hdst : 0 < sizeS h.dst := by
  have hb := (check4S_ok hc0).1
  unfold bad4 at hb
  refine four4_size (Classical.byContradiction fun x => hb ?_)
  exact .inr (.inr (.inr (.inr (.inr (.inr (.inr (.inr (.inr (.inr (.inr (.inr x)))))))))))
 have hrg := classP_range hdst
 refine Br.f rfl ⟨_, H.cell 4 rfl 4 rfl, Br.dec (fun hoff => no_ref (by unfold comp4S; rw [if_neg (fun x => x.2.1 hoff)]) H) fun hoff => ?_⟩
 refine IPV.of h.src ⟨ip4_src (H.blk 4 rfl), (asks_spec hA.src).mono ?_⟩
 rintro _ w10 ⟨hE10, rfl⟩
 have H := H.ext hE10
 refine ⟨_, rfl, ?_⟩
 cases hask : asksP h.src with
 | false => exact Br.t rfl (no_ref (by unfold comp4S; rw [if_neg (fun x => by have := x.2.2.2.2.2; rw [show (h.d os data).src = h.src from rfl, hask] at this; cases this)]) H)
 | true =>
 refine Br.f rfl (IPV.of h.dst ⟨ip4_dst (H.blk 4 rfl), (Nd.refClassX hA.dst).mono ?_⟩)
 rintro _ w12 ⟨hE12, rfl⟩
 have H := H.ext hE12
 have nofar : classP h.dst = 3 ∨ classP h.dst = 5 → comp4S t (h.d os data) = none := fun hb => by
  unfold comp4S
  refine if_neg fun x => ?_
  have := of_decide_eq_true x.2.2.2.2.1
  have e : (h.d os data).dst = h.dst := rfl
  rw [e] at this
  omega
 refine ⟨_, rfl, Br.dec (fun h3 => no_ref (nofar (.inl h3)) H) fun h3 => Br.dec (fun h5 => no_ref (nofar (.inr h5)) H) fun h5 => ?_⟩
 have hf : far4 h.dst = true := decide_eq_true (by omega)
 have hd := hA.data.ext (H.restOf 0 rfl)
 have hdl := hd.len
 refine JoinVC.of (fun _ w' => quiet4 (h.d os data) = false ∧ w' = w12) ?_ ?_
 ·refine JoinVC.of (fun b w' => w' = w12 ∧ b = decide (h.proto = 1 ∧ 0 < data.length)) ?_ ?_
  ·refine ⟨_, H.cell 4 rfl 6 rfl, Br.dec (fun hn => ⟨_, _, _, H.cell 4 rfl 42 rfl, rfl, decide_eq_decide.2 ⟨fun x => ⟨hn, by omega⟩, fun x => by have := x.2; omega⟩⟩) fun hn => ⟨rfl, (decide_eq_false (fun x => hn x.1)).symm⟩⟩
  rintro _ w15 ⟨hw, rfl⟩
  subst w15
  unfold weirref8_Complain4_J254
  refine Br.dec (fun hp => ?_) fun hp => ⟨decide_eq_false (fun x => hp ⟨x.1, x.2.1⟩), rfl⟩
  refine ⟨_, _, _, H.cell 4 rfl 42 rfl, ?_⟩
  refine IdxVC.int (k := .u8) (xs := data) hd.cells (by decide) (by omega) hdl fun a ha => ⟨_, ha, ?_⟩
  have e0 : data.getD (0 : Int).toNat 0 = data.getD 0 0 := rfl
  have hb0 := bts_getD hd.bts 0
  rw [e0, w64 (n := data.getD 0 0) (by omega) (by omega)]
  have bad : (data.getD 0 0 = 3 ∨ data.getD 0 0 = 4 ∨ data.getD 0 0 = 5 ∨ data.getD 0 0 = 11 ∨ data.getD 0 0 = 12) → comp4S t (h.d os data) = none := fun hb => by
   unfold comp4S
   rw [if_neg (fun x => of_decide_eq_false x.2.2.2.1 ⟨hp.1, hp.2, hb⟩)]
  refine Br.dec (fun h1 => no_ref (bad (.inl h1)) H) fun h1 => ?_
  refine Br.dec (fun h2 => no_ref (bad (.inr (.inl h2))) H) fun h2 => ?_
  refine Br.dec (fun h3 => no_ref (bad (.inr (.inr (.inl h3)))) H) fun h3 => ?_
  refine Br.dec (fun h4 => no_ref (bad (.inr (.inr (.inr (.inl h4))))) H) fun h4 => ?_
  refine Br.dec (fun h5 => no_ref (bad (.inr (.inr (.inr (.inr h5))))) H) fun h5 => ⟨decide_eq_false (fun x => ?_), rfl⟩
  rcases x.2.2 with y | y | y | y | y
  ·exact h1 y
  ·exact h2 y
  ·exact h3 y
  ·exact h4 y
  ·exact h5 y
 rintro _ w17 ⟨hq, hw⟩
 subst w17
 exact ref4_last htr (by unfold comp4S; rw [if_pos ⟨htr, hoff, hs, hq, hf, hask⟩]) H
end
end N6
end Go.Proofs.YtjngdcilnipjcaaGreatDoor
/- What the complaints' laws lay for a call: options and headers with marks behind all their lists. -/
namespace Go.Eng
open Go Go.RowKit
end Go.Eng
namespace Go.Proofs.YtjngdcilnipjcaaGreatDoor
namespace N6
open Go.Eng Go.RowKit
section
variable {w : World} {Γ : List Fct} {s : Sl}
theorem c0 {v : Value} {a : Addr} {r : List Value} (h : CellsAt w a 0 (v :: r)) : w.cell? a = some v := by simpa [add_zero] using h.1
theorem c1 {u v : Value} {a : Addr} {r : List Value} (h : CellsAt w a 0 (u :: v :: r)) : w.cell? (a.add 1) = some v := h.2.1
theorem c2 {u v x : Value} {a : Addr} {r : List Value} (h : CellsAt w a 0 (u :: v :: x :: r)) : w.cell? (a.add 2) = some x := h.2.2.1
end
end N6
end Go.Proofs.YtjngdcilnipjcaaGreatDoor
/- Datagrams laid for the complaints' laws. -/
namespace Go.Eng
open Go Go.RowKit
end Go.Eng
namespace Go.Proofs.YtjngdcilnipjcaaGreatDoor
namespace N6
open Go.Eng Go.RowKit
section
variable {w : World} {Γ : List Fct} {s : Sl}
end
end N6
end Go.Proofs.YtjngdcilnipjcaaGreatDoor
/- All that was laid still stands. -/
namespace Go.Proofs.YtjngdcilnipjcaaGreatDoor
namespace N6
open Go.Eng Go.RowKit
section
variable {w : World} {s t : Sl} {l : List Int}
end
end N6
end Go.Proofs.YtjngdcilnipjcaaGreatDoor
