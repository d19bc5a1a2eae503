/- SplitSix: what Split6 and Fits6 answer is the document's, and what was handed in stands. -/
import Derived.Test.YteppichfkeknbaaDoorCe
import Derived.Test.YteppichfkeknbaaDoorCf
namespace Go.Proofs.YteppichfkeknbaaDoor
namespace N6
open Go.Eng Go.RowKit
section
variable {w : World}
def roomD (d : ExtD) : List (List Int) := d.opts.map (fun o => roomyL o.data) ++ [roomyL d.data]
theorem lists_snd (xs : List LaidX) : (xs.flatMap LaidX.lists).map Prod.snd = ((xs.map LaidX.ext).map ExtR.d).flatMap roomD := by
  rw [List.map_flatMap, List.map_map, List.flatMap_map]
  congr 1
  funext x
  simp [LaidX.lists, roomD, LaidX.ext, ExtR.d, LaidR.opt, OptR.d, List.map_map, Function.comp_def]
set_option maxHeartbeats 2000000 in
theorem cuts6_spec {h : Ip6V} {es : List ExtR} {data : List Int} {mtu id : Int} (hA : Ip6At w h es data) (hb : Small6 1048576 h es) (hK : Kn w) : Calls Tryd.prog 31 #[h.val, .int .i64 mtu, .int .i64 id] w fun e w' => Ext w w' ∧ e = .returned (.bool true) := by
  refine weirlaw13_cuts6_of h mtu id w _ ?_
  unfold weirlaw13_cuts6_VC
  have hdl := hA.data.len
  have hb1 := hb.1
  have hsmall : h.exts.n ≤ 1048576 ∧ ∀ r ∈ es, SmallE 1048576 r := hb.2
  refine NewVC.sep (Sep.start0 w) fun g1 w1 H => ⟨_, _, _, H.cell 1 rfl 43 rfl, ?_⟩
  refine (roomy_spec (s := h.data) (l := data) (hA.data.ext (H.restOf 0 rfl)) (by omega)).mono ?_
  rintro _ w2 ⟨R, rfl, hRn, hRf, H2⟩
  have H := H.ext (H2.restOf 0 rfl)
  have hRB : BytesAt w2 R (roomyL data) := bytesAt_of (b := w1.heap.size) (H2.own 1 rfl) hRf
  refine ⟨_, _, _, rfl, _, _, _, H.cell 1 rfl 37 rfl, ?_⟩
  refine (laidExts_spec (s := h.exts) (rs := es) (hA.exts.ext (H.restOf 0 rfl)) hsmall).mono ?_
  rintro _ w3 ⟨so, sw, ls, rfl, hls, hL, hE3⟩
  have H := H.ext hE3
  have hRB := hRB.ext hE3
  have hE03 := H.restOf 0 rfl
  have hg1 := H.blk 1 rfl
  refine ⟨_, _, _, _, _, _, rfl, Ip6V.of h ⟨H.at 1 rfl, NewVC.sep (Sep.start0 w3) fun g2 w4 H => ?_⟩⟩
  refine Stores.sep H 1 rfl (Ip6V.one _) (Nat.le_refl _) (splice_all rfl) fun w5 H => ⟨_, _, _, (hg1.ext (H.restOf 0 rfl)).cell 43, ?_⟩
  have hcap := hRB.cap
  refine ⟨by omega, by omega, SetVC.sep H 1 rfl (show 43 < 44 by decide) fun w6 H => SetVC.sep H 1 rfl (show 37 < 44 by decide) fun w7 H => ?_⟩
  obtain ⟨g, hg⟩ : ∃ g : Ip6V, g = { h with data := ⟨R.A, h.data.n, R.k⟩, exts := so } := ⟨_, rfl⟩
  have H : Sep [Fct.rest w3 None, Fct.blk g2 44 g.cells] w7 := by rw [hg]; exact H
  have hE7 := H.restOf 0 rfl
  have hcut : BytesAt w3 ⟨R.A, h.data.n, R.k⟩ data := by
    refine ⟨hdl, by show h.data.n ≤ R.k; omega, by show h.data.n ≤ 4000000; omega, hA.data.bts, ?_⟩
    have := hRB.cells.take data.length
    rw [← List.map_take] at this
    have e : (roomyL data).take data.length = data := by unfold roomyL; rw [List.take_left' rfl]
    rw [e] at this
    exact this
  have hgA : Ip6At w3 g (ls.map LaidX.ext) data := by
    rw [hg]; exact ⟨hL.exts, hcut, hA.src, hA.dst⟩
  have hgd : g.d (ls.map LaidX.ext) data = h.d es data := by
    rw [ip6_key, hg]
    exact ⟨rfl, rfl, rfl, rfl, rfl, hls, rfl, rfl, rfl⟩
  have hA3 := hA.ext hE03
  refine Ip6V.of g ⟨H.at 1 rfl, ?_⟩
  refine (split6_spec (mtu := mtu) (id := id) (hgA.ext hE7) (hK.ext (hE03.trans hE7))).mono ?_
  intro e w8 hc
  obtain ⟨s1, r1, rfl, hr1, hat1, hF8⟩ := hc.at
  rw [hgd] at hr1 ⊢
  have H := H.ext hF8
  have hE8 := H.restOf 0 rfl
  refine ⟨_, _, _, _, rfl, Ip6V.of h ⟨CellsAt.blk (hg1.ext hE8), ?_⟩⟩
  refine (refSplit6_spec (mtu := mtu) (id := id) (hA3.ext hE8)).mono ?_
  intro e w9 hc
  obtain ⟨s2, r2, rfl, hr2, hat2, hF9⟩ := hc.at
  have hat1 := hat1.ext hF9
  have H := H.ext hF9
  refine ⟨_, _, _, _, rfl, Ip6V.of g ⟨H.at 1 rfl, ?_⟩⟩
  refine (fits6_spec (mtu := mtu) (hgA.ext (H.restOf 0 rfl)) (hK.ext (hE03.trans (H.restOf 0 rfl)))).mono ?_
  rintro _ w10 ⟨hF10, rfl⟩
  have hat1 := hat1.ext hF10
  have hat2 := hat2.ext hF10
  have H := H.ext hF10
  rw [hgd]
  refine ⟨_, rfl, ?_⟩
  refine num_spec.mono ?_
  rintro _ w11 ⟨hw11, rfl⟩
  subst w11
  refine ⟨_, rfl, Br.no (fun x => x rfl) ?_⟩
  refine (sames6_spec (s := s1) (t := s2) hat1 hat2).mono ?_
  rintro _ w12 ⟨x, rfl, hx, hF12⟩
  have hxt := hx.2 (hr1.trans hr2.symm)
  subst hxt
  have H := H.ext hF12
  refine ⟨_, rfl, Br.f rfl (Ip6V.of h ⟨CellsAt.blk (hg1.ext (H.restOf 0 rfl)), ?_⟩)⟩
  refine (refFits6_spec (mtu := mtu) (hA3.ext (H.restOf 0 rfl))).mono ?_
  rintro _ w13 ⟨hF13, rfl⟩
  have H := H.ext hF13
  refine ⟨_, rfl, bne_br (fun x => absurd rfl x) fun _ => ⟨_, _, _, (hg1.ext (H.restOf 0 rfl)).cell 37, ?_⟩⟩
  refine (laidExts_spec (s := h.exts) (rs := es) (hA3.exts.ext (H.restOf 0 rfl)) hsmall).mono ?_
  rintro _ w14 ⟨so2, sw2, ls2, rfl, hls2, hL2, hF14⟩
  have H := H.ext hF14
  have hE14 := H.restOf 0 rfl
  have hson := hL.exts.len
  have hsos := hL.exts.small
  have hsor := hL.room
  have hll : ls.length = so.n := by simpa using hson
  refine ⟨_, _, _, _, _, _, rfl, ?_⟩
  refine LoopVC.of (fun st w' => ∃ i : Nat, st = (i : Int) ∧ i ≤ so.n ∧ Ext w14 w') (fun st _ => ((so.n : Int) - st).toNat) ⟨0, rfl, Nat.zero_le _, Mod.refl _ _⟩ ?_
  rintro _ w15 ⟨i, rfl, hi, hE15⟩
  unfold weirlaw13_cuts6_L32762
  have H := H.ext hE15
  refine Br.dec (fun hlt => ?_) fun hge => ?_
  · have hxi : ls[i]? = some ls[i] := List.getElem?_eq_getElem (by omega)
    refine ExtsAt.idxD (S := fun w' => w' = w15) (s := so) (rs := ls.map LaidX.ext) rfl (fun w' e => by subst e; exact hL.exts.ext (H.restOf 0 rfl)) (r := ls[i].ext) (by rw [List.getElem?_map, hxi]; rfl) fun a ha => ⟨_, _, _, c1 (ha w15 rfl), ?_⟩
    refine (marks_spec ((hL.opts _ (List.getElem_mem _)).ext (H.restOf 0 rfl))).mono ?_
    rintro _ w16 ⟨hE16, rfl⟩
    refine ⟨_, rfl, Br.f rfl ?_⟩
    rw [w64 (by omega) (by omega)]
    exact ⟨⟨i + 1, by omega, by omega, hE15.trans hE16⟩, by omega⟩
  · rw [w64 (by omega) (by omega)]
    refine ⟨by omega, by omega, ?_⟩
    rw [show ((so.n : Int) + 20).toNat = so.n + 20 by omega]
    refine LoopVC.of (fun st w' => w' = w15 ∧ ∃ j : Nat, st = ((so.n + j : Nat) : Int) ∧ j ≤ 20) (fun st _ => ((so.n : Int) + 20 - st).toNat) ⟨rfl, 0, rfl, Nat.zero_le _⟩ ?_
    rintro _ w17 ⟨hw17, j, rfl, hj⟩
    subst w17
    unfold weirlaw13_cuts6_L131066
    refine Br.dec (fun hlt2 => ?_) fun hge2 => ?_
    · refine IdxVC.recD (rs := (ls.map fun x => x.ext.v.cells) ++ List.replicate 20 markE.cells) (cs := markE.cells) (fun w' => w' = w15) rfl (fun w' e => by subst e; exact hL.recs.ext (H.restOf 0 rfl)) (by simp [hll]) ?_ fun a ha => ⟨_, c0 (ha w15 rfl), Br.no (fun h => h rfl) ?_⟩
      · rw [List.getElem?_append_right (by simp [hll]), List.length_map, hll, Nat.add_sub_cancel_left]
        exact List.getElem?_replicate_of_lt (by omega)
      · rw [w64 (by omega) (by omega)]
        exact ⟨⟨rfl, j + 1, by omega, by omega⟩, by omega⟩
    · have hL2 := hL2.ext hE15
      refine Ip6V.of g ⟨H.at 1 rfl, Ip6V.of h ⟨CellsAt.blk (hg1.ext (H.restOf 0 rfl)), ?_⟩⟩
      refine (same6_spec (hgA.ext (H.restOf 0 rfl)) (hA3.ext (H.restOf 0 rfl))).mono ?_
      rintro _ w18 ⟨x, rfl, hx, hF18⟩
      have hxt := hx.2 hgd
      subst hxt
      have H := H.ext hF18
      have hL2 := hL2.ext hF18
      refine ⟨_, rfl, Br.t rfl ⟨_, _, _, (hg1.ext (H.restOf 0 rfl)).cell 43, ?_⟩⟩
      refine (roomy_spec (s := h.data) (l := data) (hA3.data.ext (H.restOf 0 rfl)) (by omega)).mono ?_
      rintro _ w19 ⟨R2, rfl, hR2n, hR2f, H19⟩
      have hF19 := H19.restOf 0 rfl
      have H := H.ext hF19
      have hL2 := hL2.ext hF19
      have hR2B : BytesAt w19 R2 (roomyL data) := bytesAt_of (b := w18.heap.size) (H19.own 1 rfl) hR2f
      refine ⟨_, _, _, rfl, ?_⟩
      refine (alike7_spec (s := R) (t := R2) (hRB.ext (H.restOf 0 rfl)) hR2B).mono ?_
      rintro _ w20 ⟨hw20, rfl⟩
      subst w20
      rw [decide_eq_true rfl]
      refine ⟨_, rfl, Br.t rfl ?_⟩
      refine (sameAll_spec (a := sw) (b := sw2) ((hL.ext (H.restOf 0 rfl)).lists) hL2.lists (by rw [lists_snd, lists_snd, hls, hls2])).mono ?_
      rintro _ w21 ⟨hF21, rfl⟩
      have H := H.ext hF21
      exact ⟨_, rfl, hE03.trans (H.restOf 0 rfl), rfl⟩
theorem splitSix_law {h : Ip6V} {es : List ExtR} {data : List Int} {mtu id : Int} (hA : Ip6At w h es data) (hb : Small6 1048576 h es) (hK : Kn w) : Calls Tryd.prog 7 #[h.val, .int .i64 mtu, .int .i64 id] w fun e w' => e = .returned (.bool true) ∧ Ext w w' := by
  refine weirlaw13_SplitSix_of h mtu id w _ ?_
  unfold weirlaw13_SplitSix_VC
  refine NewVC.sep (Sep.start0 w) fun g1 w1 H => ?_
  refine (started_spec (hK.ext (H.restOf 0 rfl))).mono ?_
  rintro _ w2 ⟨hE2, rfl⟩
  have H := H.ext hE2
  refine ⟨_, rfl, Br.t rfl (Ip6V.of h ⟨H.at 1 rfl, ?_⟩)⟩
  refine (cuts6_spec (mtu := mtu) (id := id) (hA.ext (H.restOf 0 rfl)) hb (hK.ext (H.restOf 0 rfl))).mono ?_
  rintro _ w3 ⟨hE3, rfl⟩
  exact ⟨_, rfl, rfl, (H.restOf 0 rfl).trans hE3⟩
end
end N6
end Go.Proofs.YteppichfkeknbaaDoor
