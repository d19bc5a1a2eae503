/- Chapter 7, writing: a datagram, the document's. -/
import Derived.Test.YthhgbpmihhljdaaGreatDoorBav
import Derived.Test.YthhgbpmihhljdaaGreatDoorBbl
import Derived.Test.YthhgbpmihhljdaaGreatDoorBax
import Derived.Test.YthhgbpmihhljdaaGreatDoorBak
import Derived.Test.YthhgbpmihhljdaaGreatDoorBaq
namespace Go.Eng
theorem beBytes_four {n : Int} (h0 : 0 ≤ n) (h1 : n ≤ 4294967295) : beBytes n 4 = four n := by
  have e : beBytes n 4 = [n / 256 ^ 3 % 256, n / 256 ^ 2 % 256, n / 256 ^ 1 % 256, n / 256 ^ 0 % 256] := rfl
  rw [e]
  simp only [Int.reducePow, four, List.cons.injEq, and_true, Int.ediv_one]
  omega
end Go.Eng
namespace Go.Proofs.YthhgbpmihhljdaaGreatDoor
namespace N6
open Go.Eng Go.RowKit
section
variable {w : World} {Γ : List Fct}
set_option maxHeartbeats 2000000 in
theorem refBody_spec {h : Ip6V} {es : List ExtR} {data : List Int} (hA : Ip6At w h es data) (h0 : ¬ fieldBad (h.d es data)) : Calls Tryz.prog 45 #[h.val] w
    (Made w (if (headersS (es.map ExtR.d) (behindK (h.d es data)) true).2 ≠ 0 then ([], (headersS (es.map ExtR.d) (behindK (h.d es data)) true).2) else if fragE (h.d es data) ≠ 0 then ([], fragE (h.d es data))
      else if 65535 < 40 + (bodyB (h.d es data)).length then ([], 2) else (bodyB (h.d es data), 0))) := by
  refine weirref7_body_of h w _ ?_
  unfold weirref7_body_VC
  have hX := hA.exts
  have hD := hA.data
  have hdl := hD.len
  have hds := hD.small
  obtain ⟨d, hd⟩ : ∃ d, h.d es data = d := ⟨_, rfl⟩
  have e_next : d.next = h.next := by rw [← hd]; rfl
  have e_frag : d.frag = h.frag := by rw [← hd]; rfl
  have e_exts : d.exts = es.map ExtR.d := by rw [← hd]; rfl
  have e_data : d.data = data := by rw [← hd]; rfl
  rw [hd] at h0 ⊢
  have hnx : 0 ≤ h.next ∧ h.next ≤ 255 := by unfold fieldBad at h0; rw [e_next] at h0; omega
  refine NewVC.sep (Sep.start0 w) fun g1 w1 H => DrawVC.sep H (fun w' => Blk w' g1 30 h.cells) fun w2 H => ⟨H.blk 1 rfl, ?_⟩
  refine ⟨_, _, _, fun w' hb => hb.cell 37, Ip6V.of h ⟨fun w' hb => CellsAt.blk hb, ?_⟩⟩
  refine (behind_spec (es := es) (data := data)).mono ?_
  rintro _ w3 ⟨hE3, rfl⟩
  have H := H.ext hE3
  rw [hd]
  refine ⟨_, rfl, H.blk 1 rfl, ?_⟩
  refine (refHeaders_spec (next := behindK d) (top := true) (hX.ext (H.restOf 0 rfl))).mono ?_
  rintro _ w4 ⟨XA, xc, rfl, H4⟩
  have H := (H.made H4).lower 2 rfl (b' := w.heap.size) (H.restOf 0 rfl).size
  rw [← e_exts] at H ⊢
  obtain ⟨X, hXe⟩ : ∃ X, headersS d.exts (behindK d) true = X := ⟨_, rfl⟩
  have hXl : X.1.length ≤ 16384 := by rw [← hXe]; exact headersS_len _ _ _
  rw [hXe] at H ⊢
  refine ⟨_, _, _, _, rfl, H.blk 1 rfl, Br.dec (fun hne => Made.err (H.restOf 0 rfl) (by rw [if_pos hne])) fun heq => Ip6V.of h ⟨H.at 1 rfl, ?_⟩⟩
  rw [if_neg heq]
  refine (refFrag_spec (es := es) (hD.ext (H.restOf 0 rfl))).mono ?_
  rintro _ w5 ⟨hE5, rfl⟩
  have H := H.ext hE5
  rw [hd]
  refine ⟨_, rfl, Br.dec (fun hne => Made.err (H.restOf 0 rfl) (by rw [if_pos hne])) fun hfe => ?_⟩
  rw [if_neg hfe]
  have hfe : fragE d = 0 := by omega
  have hfl : (fragB d).length ≤ 8 := by unfold fragB; split <;> simp [four]
  refine JoinVC.of (fun st w' => st.2.1 = (X.1 ++ fragB d).length ∧ Sep [Fct.rest w None, Fct.blk g1 30 h.cells, ownB w.heap.size (.slice st.1 st.2.1 st.2.2) st.2.1 (X.1 ++ fragB d)] w') ?_ ?_
  · refine ⟨_, H.cell 1 rfl 38 rfl, ?_⟩
    cases hh : h.frag.has with
    | false =>
      have e0 : fragB d = [] := by unfold fragB; rw [e_frag, if_neg (by rw [hh]; decide)]
      refine Br.f rfl ⟨by rw [e0, List.append_nil], ?_⟩
      rw [e0, List.append_nil]; exact H
    | true =>
      obtain ⟨hid, hoff, ho8, _⟩ := fragE_ok hfe (by rw [e_frag]; exact hh)
      rw [e_frag] at hid hoff ho8
      have hmore : 0 ≤ b2i h.frag.more ∧ b2i h.frag.more ≤ 1 := by unfold b2i; split <;> decide
      refine Br.t rfl ⟨_, H.cell 1 rfl 41 rfl, JoinVC.of (fun st w' => w5 = w' ∧ st = h.frag.off + b2i h.frag.more) ?_ ?_⟩
      · refine ⟨_, H.cell 1 rfl 39 rfl, ?_⟩
        cases h.frag.more with
        | true => exact Br.t rfl ⟨rfl, by rw [w64 (by omega) (by omega)]; rfl⟩
        | false => exact Br.f rfl ⟨rfl, by simp [b2i]⟩
      rintro _ _ ⟨rfl, rfl⟩
      unfold weirref7_body_J1013
      refine ⟨_, H.cell 1 rfl 40 rfl, ?_⟩
      rw [wu64 (by omega) (by omega)]
      refine (refBytes_spec (k := 4) (v := h.frag.id) ⟨by omega, by omega⟩).mono ?_
      rintro _ w7 ⟨hE7, sA, sn, sc, rfl, hby⟩
      have hne0 : numErr 4 h.frag.id = 0 := by
        unfold numErr
        rw [if_neg (by decide), if_neg (by rw [show (4 : Int).toNat = 4 from rfl]; simp only [Int.reducePow]; omega)]
      obtain ⟨hsn, hby⟩ := hby hne0
      have H := H.pushSpan hE7
      refine ⟨_, _, _, _, rfl, _, H.cell 1 rfl 42 rfl, ?_⟩
      have e1 : IntKind.u8.wrap (IntKind.i64.wrap (Int.tdiv (h.frag.off + b2i h.frag.more) 256)) = (h.frag.off + b2i h.frag.more) / 256 := by
        rw [Int.tdiv_eq_ediv_of_nonneg (by omega), w64 (by omega) (by omega), wu8 (by omega) (by omega)]
      have e2 : IntKind.u8.wrap (Int.tmod (h.frag.off + b2i h.frag.more) 256) = (h.frag.off + b2i h.frag.more) % 256 := by
        rw [Int.tmod_eq_emod_of_nonneg (by omega), wu8 (by omega) (by omega)]
      rw [e1, e2, wu8 (n := h.next) (by omega) (by omega)]
      refine NewVC.sep H fun g2 w8 H => ?_
      refine appB H 2 rfl (m := 4) (ys := [h.next, 0, (h.frag.off + b2i h.frag.more) / 256, (h.frag.off + b2i h.frag.more) % 256]) (by simpa using Cells.of_blk (H.blk 4 rfl) 0) rfl (by omega) (H.restOf 0 rfl).size fun A2 c2 w9 H _ => ?_
      obtain ⟨M, hM1, hM2⟩ := H.spanOf 3 rfl
      have hc4 := hby M w9 hM1 hM2
      rw [show (4 : Int).toNat = 4 from rfl, beBytes_four hid.1 hid.2] at hc4
      rw [show (4 : Int).toNat = 4 from rfl] at hsn
      subst hsn
      refine appB H 2 rfl (m := 4) (ys := four h.frag.id) hc4 rfl (by omega) (H.restOf 0 rfl).size fun A3 c3 w10 H _ => ?_
      have e0 : fragB d = [h.next, 0, (h.frag.off + b2i h.frag.more) / 256, (h.frag.off + b2i h.frag.more) % 256] ++ four h.frag.id := by
        unfold fragB; rw [e_frag, e_next, if_pos hh]
      rw [e0, ← List.append_assoc]
      exact ⟨by show X.1.length + 4 + 4 = _; simp [four], H.take 3⟩
  rintro ⟨EA, en, ec⟩ w11 ⟨hen, H⟩
  simp only at hen H
  show weirref7_body_J63 _ g1 EA en ec w11
  subst hen
  unfold weirref7_body_J63
  have hxf : (X.1 ++ fragB d).length ≤ 16392 := by rw [List.length_append]; omega
  have hbe : X.1 ++ fragB d ++ data = bodyB d := by unfold bodyB; rw [hXe, e_data, List.append_assoc]
  have hbl : (bodyB d).length = (X.1 ++ fragB d).length + h.data.n := by rw [← hbe, List.length_append, hdl]
  refine ⟨_, _, _, H.cell 1 rfl 43 rfl, ?_⟩
  refine appB H 2 rfl (ys := data) (hD.ext (H.restOf 0 rfl)).cells hdl (by omega) (H.restOf 0 rfl).size fun A2 c2 w12 H _ => ?_
  rw [w64 (by omega) (by omega)]
  refine Br.dec (fun hbig => Made.err (H.restOf 0 rfl) (by rw [if_pos (by omega)])) fun hok => ?_
  rw [if_neg (by omega)]
  rw [hbe] at H
  exact Made.ok rfl (H.del 1)
set_option maxHeartbeats 2000000 in
theorem refSer_tail {h : Ip6V} {g1 : Nat} {EA BA : Option Addr} {ec bn bc : Nat} {B ds : List Int} {R : Ending → World → Prop} {w13 : World} (hds : ds.length = bn) (hbl : bn ≤ 100) (hB : B.length ≤ 10000000)
    (H : Sep [Fct.rest w None, Fct.blk g1 30 h.cells, ownB w.heap.size (.slice EA B.length ec) B.length B, ownB w.heap.size (.slice BA bn bc) bn ds] w13)
    (hR : ∀ A c w', Sep [Fct.rest w None, ownB w.heap.size (.slice A (ds ++ (h.src.bytes ++ (h.dst.bytes ++ B))).length c) (ds ++ (h.src.bytes ++ (h.dst.bytes ++ B))).length (ds ++ (h.src.bytes ++ (h.dst.bytes ++ B)))] w' →
      R (.returned (.tuple #[.slice A (ds ++ (h.src.bytes ++ (h.dst.bytes ++ B))).length c, .int .i64 0])) w') :
    weirref7_Serialise_D62 R g1 EA B.length ec BA bn bc w13 := by
  unfold weirref7_Serialise_D62
  refine LoopVC.of (fun st w' => ∃ i : Nat, st.2 = (i : Int) ∧ i ≤ 16 ∧ st.1.2.1 = bn + i ∧ Sep [Fct.rest w None, Fct.blk g1 30 h.cells, ownB w.heap.size (.slice EA B.length ec) B.length B, ownB w.heap.size (.slice st.1.1 st.1.2.1 st.1.2.2) st.1.2.1 (ds ++ h.src.bytes.take i)] w') (fun st _ => (16 - st.2).toNat) ⟨0, rfl, by decide, rfl, by simpa using H⟩ ?_
  rintro ⟨⟨A1, n1, c1⟩, _⟩ w14 ⟨i, rfl, hi, hn1, H⟩
  simp only at hn1 H
  subst hn1
  show weirref7_Serialise_L506 R g1 EA B.length ec A1 (bn + i) c1 (i : Int) w14 _
  unfold weirref7_Serialise_L506
  refine Br.dec (fun hlt => ?_) fun hge => ?_
  · refine IdxVC.int (xs := h.src.bytes) (n := 16) ((Cells.of_blk (H.blk 1 rfl) 4).take 16) (by omega) hlt rfl fun a hc => ⟨_, hc, ?_⟩
    refine NewVC.sep H fun g4 w15 H => ?_
    refine appB H 3 rfl (m := 1) (ys := [h.src.bytes.getD i 0]) (by simpa using Cells.of_blk (H.blk 4 rfl) 0) rfl (by omega) (H.restOf 0 rfl).size fun A2 c2 w16 H _ => ?_
    rw [w64 (by omega) (by omega)]
    refine ⟨⟨i + 1, rfl, by omega, rfl, ?_⟩, by show (16 - ((i : Int) + 1)).toNat < (16 - (i : Int)).toNat; omega⟩
    have et := take_snoc h.src.bytes i (by show i < 16; omega)
    have H := H.take 4
    rw [et, ← List.append_assoc]
    exact H
  have hi16 : i = 16 := by omega
  subst hi16
  have es : h.src.bytes.take 16 = h.src.bytes := rfl
  rw [es] at H
  refine LoopVC.of (fun st w' => ∃ i : Nat, st.2 = (i : Int) ∧ i ≤ 16 ∧ st.1.2.1 = bn + 16 + i ∧ Sep [Fct.rest w None, Fct.blk g1 30 h.cells, ownB w.heap.size (.slice EA B.length ec) B.length B, ownB w.heap.size (.slice st.1.1 st.1.2.1 st.1.2.2) st.1.2.1 ((ds ++ h.src.bytes) ++ h.dst.bytes.take i)] w') (fun st _ => (16 - st.2).toNat) ⟨0, rfl, by decide, rfl, by simpa using H⟩ ?_
  rintro ⟨⟨A5, n5, c5⟩, _⟩ w17 ⟨j, rfl, hj, hn5, H⟩
  simp only at hn5 H
  subst hn5
  show weirref7_Serialise_L1018 R g1 EA B.length ec A5 (bn + 16 + j) c5 (j : Int) w17 _
  unfold weirref7_Serialise_L1018
  refine Br.dec (fun hlt => ?_) fun hge => ?_
  · refine IdxVC.int (xs := h.dst.bytes) (n := 16) ((Cells.of_blk (H.blk 1 rfl) 21).take 16) (by omega) hlt rfl fun a hc => ⟨_, hc, ?_⟩
    refine NewVC.sep H fun g4 w15 H => ?_
    refine appB H 3 rfl (m := 1) (ys := [h.dst.bytes.getD j 0]) (by simpa using Cells.of_blk (H.blk 4 rfl) 0) rfl (by omega) (H.restOf 0 rfl).size fun A2 c2 w16 H _ => ?_
    rw [w64 (by omega) (by omega)]
    refine ⟨⟨j + 1, rfl, by omega, rfl, ?_⟩, by show (16 - ((j : Int) + 1)).toNat < (16 - (j : Int)).toNat; omega⟩
    have et := take_snoc h.dst.bytes j (by show j < 16; omega)
    have H := H.take 4
    rw [et, ← List.append_assoc]
    exact H
  have hj16 : j = 16 := by omega
  subst hj16
  have ed : h.dst.bytes.take 16 = h.dst.bytes := rfl
  rw [ed] at H
  refine appB H 3 rfl (ys := B) (H.cells 2 rfl) rfl (by omega) (H.restOf 0 rfl).size fun A2 c2 w20 H _ => ?_
  have el : bn + 16 + 16 + B.length = (ds ++ (h.src.bytes ++ (h.dst.bytes ++ B))).length := by
    simp only [List.length_append]
    have : h.src.bytes.length = 16 := rfl
    have : h.dst.bytes.length = 16 := rfl
    omega
  have ea : ds ++ h.src.bytes ++ h.dst.bytes ++ B = ds ++ (h.src.bytes ++ (h.dst.bytes ++ B)) := by simp
  rw [ea] at H
  have H : Sep [Fct.rest w None, ownB w.heap.size (.slice A2 (bn + 16 + 16 + B.length) c2) (bn + 16 + 16 + B.length) (ds ++ (h.src.bytes ++ (h.dst.bytes ++ B)))] w20 := (H.del 1).del 1
  rw [el] at H ⊢
  exact hR A2 c2 w20 H
set_option maxHeartbeats 4000000 in
theorem refSerialise_spec {h : Ip6V} {es : List ExtR} {data : List Int} (hA : Ip6At w h es data) : Calls Tryz.prog 18 #[h.val] w (Made w (ser6S (h.d es data))) := by
  refine weirref7_Serialise_of h w _ ?_
  unfold weirref7_Serialise_VC
  have hX := hA.exts
  have hD := hA.data
  obtain ⟨d, hd⟩ : ∃ d, h.d es data = d := ⟨_, rfl⟩
  have e_next : d.next = h.next := by rw [← hd]; rfl
  have e_cls : d.cls = h.cls := by rw [← hd]; rfl
  have e_flow : d.flow = h.flow := by rw [← hd]; rfl
  have e_hop : d.hop = h.hop := by rw [← hd]; rfl
  have e_src : d.src = h.src := by rw [← hd]; rfl
  have e_dst : d.dst = h.dst := by rw [← hd]; rfl
  have e_exts : d.exts = es.map ExtR.d := by rw [← hd]; rfl
  have fb : fieldBad d ↔ (h.cls < 0 ∨ 255 < h.cls ∨ h.flow < 0 ∨ 1048575 < h.flow ∨ h.hop < 0 ∨ 255 < h.hop ∨ h.src.v ≠ 6 ∨ h.dst.v ≠ 6 ∨ h.next < 0 ∨ 255 < h.next) := by rw [← hd]; exact Iff.rfl
  refine NewVC.sep (Sep.start0 w) fun g1 w1 H => ⟨_, H.cell 1 rfl 0 rfl, ?_⟩
  have ips : ∀ {w'}, Blk w' g1 30 h.cells → CellsAt w' ⟨g1, 3, none⟩ 0 h.src.cells := fun hb => ⟨hb.cell 3, hb.cell 4, hb.cell 5, hb.cell 6, hb.cell 7, hb.cell 8, hb.cell 9, hb.cell 10, hb.cell 11, hb.cell 12, hb.cell 13, hb.cell 14, hb.cell 15, hb.cell 16, hb.cell 17, hb.cell 18, hb.cell 19, trivial⟩
  have ipd : ∀ {w'}, Blk w' g1 30 h.cells → CellsAt w' ⟨g1, 20, none⟩ 0 h.dst.cells := fun hb => ⟨hb.cell 20, hb.cell 21, hb.cell 22, hb.cell 23, hb.cell 24, hb.cell 25, hb.cell 26, hb.cell 27, hb.cell 28, hb.cell 29, hb.cell 30, hb.cell 31, hb.cell 32, hb.cell 33, hb.cell 34, hb.cell 35, hb.cell 36, trivial⟩
  have bad : fieldBad d → ∀ {w'}, Ext w w' → Made w (ser6S (h.d es data)) (.returned (.tuple #[.slice none 0 0, .int .i64 78])) w' := fun hb w' hE => Made.err hE (by rw [hd]; unfold ser6S; rw [if_pos hb])
  refine refOut_spec.mono ?_
  rintro _ _ ⟨rfl, rfl⟩
  refine ⟨_, rfl, Br.dec (fun h1 => bad (fb.2 (by omega)) (H.restOf 0 rfl)) fun h1 => ⟨_, H.cell 1 rfl 1 rfl, ?_⟩⟩
  refine refOut_spec.mono ?_
  rintro _ _ ⟨rfl, rfl⟩
  refine ⟨_, rfl, Br.dec (fun h2 => bad (fb.2 (by omega)) (H.restOf 0 rfl)) fun h2 => ⟨_, H.cell 1 rfl 2 rfl, ?_⟩⟩
  refine refOut_spec.mono ?_
  rintro _ _ ⟨rfl, rfl⟩
  refine ⟨_, rfl, Br.dec (fun h3 => bad (fb.2 (by omega)) (H.restOf 0 rfl)) fun h3 => IPV.of h.src ⟨ips (H.blk 1 rfl), ?_⟩⟩
  refine refSix_spec.mono ?_
  rintro _ w5 ⟨hE5, rfl⟩
  have H := H.ext hE5
  refine ⟨_, rfl, ?_⟩
  by_cases h4 : h.src.v = 6
  case neg => rw [decide_eq_false h4]; exact Br.t rfl (bad (fb.2 (by omega)) (H.restOf 0 rfl))
  rw [decide_eq_true h4]
  refine Br.f rfl (IPV.of h.dst ⟨ipd (H.blk 1 rfl), ?_⟩)
  refine refSix_spec.mono ?_
  rintro _ w6 ⟨hE6, rfl⟩
  have H := H.ext hE6
  refine ⟨_, rfl, ?_⟩
  by_cases h5 : h.dst.v = 6
  case neg => rw [decide_eq_false h5]; exact Br.t rfl (bad (fb.2 (by omega)) (H.restOf 0 rfl))
  rw [decide_eq_true h5]
  refine Br.f rfl ⟨_, H.cell 1 rfl 42 rfl, ?_⟩
  refine refOut_spec.mono ?_
  rintro _ _ ⟨rfl, rfl⟩
  refine ⟨_, rfl, Br.dec (fun h6 => bad (fb.2 (by omega)) (H.restOf 0 rfl)) fun h6 => Ip6V.of h ⟨H.at 1 rfl, ?_⟩⟩
  have hfb : ¬ fieldBad d := fun x => by have := fb.1 x; omega
  refine (refBody_spec (hA.ext (H.restOf 0 rfl)) (by rw [hd]; exact hfb)).mono ?_
  rintro _ w8 ⟨EA, ec, rfl, H8⟩
  have H := (H.made H8).lower 2 rfl (b' := w.heap.size) (H.restOf 0 rfl).size
  rw [hd, ← e_exts] at H ⊢
  obtain ⟨X, hXe⟩ : ∃ X, headersS d.exts (behindK d) true = X := ⟨_, rfl⟩
  rw [hXe] at H ⊢
  have hser : ∀ k, k ≠ 0 → (if X.2 ≠ 0 then (([] : List Int), X.2) else if fragE d ≠ 0 then ([], fragE d) else if 65535 < 40 + (bodyB d).length then ([], 2) else (bodyB d, 0)).2 = k → ser6S d = ([], k) := by
    intro k hk he
    unfold ser6S
    rw [if_neg hfb, hXe]
    by_cases c1 : X.2 ≠ 0
    · rw [if_pos c1] at he ⊢; rw [← he]
    · rw [if_neg c1] at he ⊢
      by_cases c2 : fragE d ≠ 0
      · rw [if_pos c2] at he ⊢; rw [← he]
      · rw [if_neg c2] at he ⊢
        by_cases c3 : 65535 < 40 + (bodyB d).length
        · rw [if_pos c3] at he ⊢; rw [← he]
        · rw [if_neg c3] at he; exact absurd he.symm hk
  by_cases c1 : X.2 ≠ 0
  · rw [if_pos c1] at H ⊢ hser
    exact ⟨_, _, _, _, rfl, Br.yes c1 (Made.err (H.restOf 0 rfl) (hser X.2 c1 rfl))⟩
  rw [if_neg c1] at H ⊢ hser
  by_cases c2 : fragE d ≠ 0
  · rw [if_pos c2] at H ⊢ hser
    exact ⟨_, _, _, _, rfl, Br.yes c2 (Made.err (H.restOf 0 rfl) (hser _ c2 rfl))⟩
  rw [if_neg c2] at H ⊢ hser
  by_cases c3 : 65535 < 40 + (bodyB d).length
  · rw [if_pos c3] at H ⊢ hser
    exact ⟨_, _, _, _, rfl, Br.yes (by decide) (Made.err (H.restOf 0 rfl) (hser 2 (by decide) rfl))⟩
  rw [if_neg c3] at H ⊢
  refine ⟨_, _, _, _, rfl, Br.no (show ¬ ((0 : Int) ≠ 0) by decide) ?_⟩
  have hes : ser6S d = (head6 d (bodyB d).length ++ (d.src.bytes ++ (d.dst.bytes ++ bodyB d)), 0) := by
    unfold ser6S; rw [if_neg hfb, hXe, if_neg c1, if_neg c2, if_neg c3]
  have hfr := firstK_range (h := h) (es := es) (data := data) (by rw [hd]; exact hfb) (by rw [hd, hXe]; omega)
  rw [hd] at hfr
  refine DrawVC.sep H (fun w' => Blk w' g1 30 h.cells) fun w9 H => ⟨H.blk 1 rfl, ?_⟩
  refine ⟨_, fun w' hb => hb.cell 0, _, fun w' hb => hb.cell 1, Ip6V.of h ⟨fun w' hb => CellsAt.blk hb, _, fun w' hb => hb.cell 2, ?_⟩⟩
  have key : ∀ {w' : World} {gw gv : Nat}, Sep [Fct.rest w None, Fct.blk g1 30 h.cells, ownB w.heap.size (.slice EA (bodyB d).length ec) (bodyB d).length (bodyB d)] w' →
      Cells w' (some ⟨gw, 0, none⟩) (ws6.map (.int .i64)) → Cells w' (some ⟨gv, 0, none⟩) (([6, h.cls, h.flow, ((bodyB d).length : Int), firstK d, h.hop] : List Int).map (.int .i64)) →
      Calls Tryz.prog 46 #[.slice (some ⟨gw, 0, none⟩) 6 6, .slice (some ⟨gv, 0, none⟩) 6 6] w' (onRet (fun r_8 w13 => ∃ (x0A1 : Option Addr) (x0n1 x0c1 : Nat), ∃ x15 : Int, r_8 = .tuple #[.slice x0A1 x0n1 x0c1, .int .i64 x15] ∧
        Blk w13 g1 30 h.cells ∧ weirref7_Serialise_D62 (Made w (ser6S d)) g1 EA (bodyB d).length ec x0A1 x0n1 x0c1 w13) (fun _ _ => False)) := by
    intro w' gw gv H hcw hcv
    refine (refPack_spec (ws := ws6) (vs := [6, h.cls, h.flow, ((bodyB d).length : Int), firstK d, h.hop]) hcw rfl hcv rfl).mono ?_
    rintro _ w13 ⟨hE13, ⟨-, -, -, BA, bc, ds, hpk, rfl, hown⟩ | ⟨-, -, hno, rfl⟩ | ⟨-, hne, rfl⟩ | ⟨hno, rfl⟩⟩
    · have hds' := packed6 hpk
      have H := (H.pushOwn hE13 hown (Nat.le_refl _)).lower 3 rfl (b' := w.heap.size) (H.restOf 0 rfl).size
      refine ⟨_, _, _, _, rfl, H.blk 1 rfl, refSer_tail rfl (by rw [hds']; simp) (by omega) H fun A c w' H => ?_⟩
      have e1 : head6 d (bodyB d).length = ds := by
        unfold head6
        rw [hds', e_cls, e_flow, e_hop]
      rw [hes, e1, e_src, e_dst]
      exact ⟨A, c, rfl, H⟩
    · exact absurd (values6 (by omega) (by omega) (by omega) hfr (by omega)) hno
    · exact absurd rfl hne
    · exact absurd ws6_ok hno
  refine ⟨NewVC.sep H fun g2 w10 H => ⟨H.blk 1 rfl, ?_⟩, ?_⟩
  · refine (first_spec (data := data) (hX.ext (H.restOf 0 rfl))).mono ?_
    rintro _ w11 ⟨hE11, rfl⟩
    have H := H.ext hE11
    rw [hd]
    refine ⟨_, rfl, H.blk 1 rfl, NewVC.sep H fun g3 w12 H => ⟨H.blk 1 rfl, ?_⟩⟩
    exact key (H.take 3) (by simpa [ws6] using Cells.of_blk (H.blk 3 rfl) 0) (by simpa using Cells.of_blk (H.blk 4 rfl) 0)
  · refine (first_spec (data := data) (hX.ext (H.restOf 0 rfl))).mono ?_
    rintro _ w11 ⟨hE11, rfl⟩
    have H := H.ext hE11
    rw [hd]
    refine ⟨_, rfl, H.blk 1 rfl, NewVC.sep H fun g2 w12 H => ⟨H.blk 1 rfl, NewVC.sep H fun g3 w13 H => ⟨H.blk 1 rfl, ?_⟩⟩, NewVC.sep H fun g2 w12 H => ⟨H.blk 1 rfl, NewVC.sep H fun g3 w13 H => ⟨H.blk 1 rfl, ?_⟩⟩⟩
    · exact key (H.take 3) (by simpa [ws6] using Cells.of_blk (H.blk 3 rfl) 0) (by simpa using Cells.of_blk (H.blk 4 rfl) 0)
    · exact key (H.take 3) (by simpa [ws6] using Cells.of_blk (H.blk 4 rfl) 0) (by simpa using Cells.of_blk (H.blk 3 rfl) 0)
end
end N6
end Go.Proofs.YthhgbpmihhljdaaGreatDoor
/- Chapter 6, writing: Serialise, both programs. -/
namespace Go.Proofs.YthhgbpmihhljdaaGreatDoor
namespace N6
open Go.Eng Go.RowKit
section
variable {w : World} {Γ : List Fct} {b n c m : Nat} {A : Option Addr} {xs : List Int} {h : Ip4V} {os : List OptR} {data : List Int}
structure Ok4 (h : Ip4V) (os : List OptR) (data : List Int) : Prop where
  tos : 0 ≤ h.tos ∧ h.tos ≤ 255
  id : 0 ≤ h.id ∧ h.id ≤ 65535
  off : 0 ≤ h.off ∧ h.off ≤ 65528
  off8 : h.off % 8 = 0
  ttl : 0 ≤ h.ttl ∧ h.ttl ≤ 255
  proto : 0 ≤ h.proto ∧ h.proto ≤ 255
  src : four4 h.src
  dst : four4 h.dst
  opts : (putOpts4 (os.map OptR.d)).2 = 0
  tot : tot4 (h.d os data) ≤ 65535
theorem Ok4.of (hc : check4S (h.d os data) = 0) : Ok4 h os data := by
  obtain ⟨h1, h2, h3, -⟩ := check4S_ok hc
  rw [bad4_iff] at h1
  exact ⟨by omega, by omega, by omega, by omega, by omega, by omega, Classical.byContradiction fun e => h1 (by simp [e]), Classical.byContradiction fun e => h1 (by simp [e]), h2, h3⟩
end
end N6
end Go.Proofs.YthhgbpmihhljdaaGreatDoor
/- The two datagrams that are asked first, and what is told of them. -/
namespace Go.Eng
open Go Go.RowKit
instance (l : List Int) : Decidable (Bts l) := by unfold Bts; infer_instance
end Go.Eng
namespace Go.Proofs.YthhgbpmihhljdaaGreatDoor
namespace N6
open Go.Eng Go.RowKit
section
variable {w : World}
end
end N6
end Go.Proofs.YthhgbpmihhljdaaGreatDoor
/- What is asked first: two datagrams are cut into two pieces each. -/
namespace Go.Proofs.YthhgbpmihhljdaaGreatDoor
namespace N6
open Go.Eng Go.RowKit
section
variable {w : World}
theorem onRet_ret {A : Value → World → Prop} {Q : List PanicEntry → World → Prop} {v : Value} {w' : World} (h : A v w') : onRet A Q (.returned v) w' := h
end
end N6
end Go.Proofs.YthhgbpmihhljdaaGreatDoor
/- Chapter 13, the document's small functions: copies, how many are kept, how many bytes a piece may have, how long it is. -/
namespace Go.Proofs.YthhgbpmihhljdaaGreatDoor
namespace N6
open Go.Eng Go.RowKit
section
variable {w : World} {Γ : List Fct}
theorem copied_spec {s : Sl} {l : List Int} (h : BytesAt w s l) : Calls Tryz.prog 40 #[s.val] w fun e w' => ∃ s' : Sl, e = .returned s'.val ∧ BFine s' l ∧ Sep [Fct.rest w None, rowB w.heap.size s' l] w' := by
  refine weirref7_copied_of s.A s.n s.k w _ ?_
  unfold weirref7_copied_VC
  have hs := h.small
  refine appB (m := s.n) (xs := []) (ys := l) ((Sep.start0 w).nil _ _ _) 1 rfl h.cells h.len (by omega) (Nat.le_refl _) fun A2 c2 w2 H hc2 => ?_
  rw [Nat.zero_add] at H ⊢
  exact ⟨⟨A2, s.n, c2⟩, rfl, ⟨hs, h.bts⟩, H⟩
set_option maxHeartbeats 1000000 in
theorem cloneOpts_spec {s : Sl} {rs : List OptR} (hO : OptsAt w s rs) : Calls Tryz.prog 63 #[s.val] w fun e w' => ∃ (s' : Sl) (rs' : List OptR), e = .returned s'.val ∧
    rs'.map OptR.d = rs.map OptR.d ∧ OptsFine s' rs' ∧ Sep (Fct.rest w None :: optFs w.heap.size s' rs') w' := by
  refine weirref7_CloneOpts_of s.A s.n s.k w _ ?_
  unfold weirref7_CloneOpts_VC
  have hl := hO.len
  have hsm := hO.small
  refine LoopVC.of (fun st w' => ∃ (i : Nat) (rs' : List OptR), st.2 = i ∧ i ≤ s.n ∧ rs'.map OptR.d = (rs.take i).map OptR.d ∧ OptsFine ⟨st.1.1, st.1.2.1, st.1.2.2⟩ rs' ∧ st.1.2.1 = i ∧
      Sep (Fct.rest w None :: optFs w.heap.size ⟨st.1.1, st.1.2.1, st.1.2.2⟩ rs') w') (fun st _ => ((s.n : Int) - st.2).toNat)
    ⟨0, [], rfl, Nat.zero_le _, rfl, ⟨rfl, Nat.zero_le _, fun r hr => by cases hr⟩, rfl, (Sep.start0 w).nil _ _ _⟩ ?_
  rintro ⟨⟨A1, n1, cc⟩, _⟩ w1 ⟨i, rs', rfl, hi, hd, hf, hn1, H⟩
  simp only at hn1
  show weirref7_CloneOpts_L58 _ s.A s.n A1 n1 cc (i : Int) w1 _
  unfold weirref7_CloneOpts_L58
  refine Br.dec (fun hlt => ?_) fun hge => ?_
  · have hri : rs[i]? = some rs[i] := List.getElem?_eq_getElem (by omega)
    have htake : rs.take (i + 1) = rs.take i ++ [rs[i]] := by rw [List.take_add_one, hri]; rfl
    have hi1 : IntKind.i64.wrap ((i : Int) + 1) = ((i + 1 : Nat) : Int) := by rw [w64 (by omega) (by omega)]; omega
    refine DrawVC.sep H (fun w' => OptsAt w' s rs) fun w2 H => ⟨hO.ext H.start1, ?_⟩
    have hS := hO.ext H.start1
    refine OptsAt.idxD (S := fun w' => OptsAt w' s rs) hS (fun w' h => h) hri fun a ha => ⟨_, fun w' h => c0 (ha w' h), ?_⟩
    refine OptsAt.idxD (S := fun w' => OptsAt w' s rs) hS (fun w' h => h) hri fun a ha => ⟨_, _, _, fun w' h => c1 (ha w' h), ?_⟩
    have hz2 := H.start1.size
    refine (copied_spec (s := rs[i].v.data) (l := rs[i].data) (hS.each _ (List.getElem_mem _))).mono ?_
    rintro _ w3 ⟨s', rfl, hB, H3⟩
    have H := H.made (H3.lower 1 rfl hz2)
    refine ⟨_, _, _, rfl, hO.ext H.start1, NewVC.sep H fun g1 w4 H => ⟨hO.ext H.start1, ?_⟩⟩
    have H := H.front
    have hz4 := (H.restOf 1 rfl).size
    refine appO (o := ⟨rs[i].v.kind, s'⟩) H 2 rfl (Cells.blk0 (H.blk 0 rfl)) (show n1 ≤ 1000000000 by omega) (by omega) fun A2 c2 w5 H hc2 => ⟨hO.ext (H.restOf 1 rfl), ⟨i + 1, rs' ++ [⟨⟨rs[i].v.kind, s'⟩, rs[i].data⟩], hi1, by omega, ?_, ⟨?_, by simp only; omega, ?_⟩, by simp only; omega, ?_⟩, by simp only [hi1]; omega⟩
    · rw [htake, List.map_append, List.map_append, hd]
      rfl
    · have := hf.len; simp at this ⊢; omega
    · intro x hx
      rcases List.mem_append.1 hx with hx | hx
      · exact hf.each x hx
      · simp at hx; subst hx; exact hB
    · have H := H.tail
      simp only [optFs, rowO, List.map_append, List.flatten_append, List.map_cons, List.map_nil, List.flatten_cons, List.flatten_nil, List.append_nil]
      exact H
  · have hin : i = s.n := by omega
    exact ⟨⟨A1, n1, cc⟩, rs', rfl, by rw [hd, hin, ← hl, List.take_length], hf, H⟩
set_option maxHeartbeats 1000000 in
theorem cloneExts_spec {s : Sl} {rs : List ExtR} (hX : ExtsAt w s rs) : Calls Tryz.prog 39 #[s.val] w fun e w' => ∃ (s' : Sl) (rs' : List ExtR), e = .returned s'.val ∧
    rs'.map ExtR.d = rs.map ExtR.d ∧ ExtsFine s' rs' ∧ Sep (Fct.rest w None :: extFs w.heap.size s' rs') w' := by
  refine weirref7_CloneExts_of s.A s.n s.k w _ ?_
  unfold weirref7_CloneExts_VC
  have hl := hX.len
  have hsm := hX.small
  refine LoopVC.of (fun st w' => ∃ (i : Nat) (rs' : List ExtR), st.2 = i ∧ i ≤ s.n ∧ rs'.map ExtR.d = (rs.take i).map ExtR.d ∧ ExtsFine ⟨st.1.1, st.1.2.1, st.1.2.2⟩ rs' ∧ st.1.2.1 = i ∧
      Sep (Fct.rest w None :: extFs w.heap.size ⟨st.1.1, st.1.2.1, st.1.2.2⟩ rs') w') (fun st _ => ((s.n : Int) - st.2).toNat)
    ⟨0, [], rfl, Nat.zero_le _, rfl, ⟨rfl, Nat.zero_le _, (fun r hr => by cases hr), fun r hr => by cases hr⟩, rfl, (Sep.start0 w).nil _ _ _⟩ ?_
  rintro ⟨⟨A1, n1, cc⟩, _⟩ w1 ⟨i, rs', rfl, hi, hd, hf, hn1, H⟩
  simp only at hn1
  show weirref7_CloneExts_L58 _ s.A s.n A1 n1 cc (i : Int) w1 _
  unfold weirref7_CloneExts_L58
  refine Br.dec (fun hlt => ?_) fun hge => ?_
  · have hri : rs[i]? = some rs[i] := List.getElem?_eq_getElem (by omega)
    have htake : rs.take (i + 1) = rs.take i ++ [rs[i]] := by rw [List.take_add_one, hri]; rfl
    have hi1 : IntKind.i64.wrap ((i : Int) + 1) = ((i + 1 : Nat) : Int) := by rw [w64 (by omega) (by omega)]; omega
    refine DrawVC.sep H (fun w' => ExtsAt w' s rs) fun w2 H => ⟨hX.ext H.start1, ?_⟩
    have hS := hX.ext H.start1
    refine ExtsAt.idxD (S := fun w' => ExtsAt w' s rs) hS (fun w' h => h) hri fun a ha => ⟨_, fun w' h => c0 (ha w' h), ?_⟩
    refine ExtsAt.idxD (S := fun w' => ExtsAt w' s rs) hS (fun w' h => h) hri fun a ha => ⟨_, _, _, fun w' h => c1 (ha w' h), ?_⟩
    refine ExtsAt.idxD (S := fun w' => ExtsAt w' s rs) hS (fun w' h => h) hri fun a ha => ⟨_, _, _, fun w' h => c2 (ha w' h), ?_⟩
    have hz2 := H.start1.size
    refine (cloneOpts_spec (s := rs[i].v.opts) (rs := rs[i].opts) (hS.opts _ (List.getElem_mem _))).mono ?_
    rintro _ w3 ⟨so, os', rfl, hod, hof, H3⟩
    have H3 := (AllLe.append (AllLe.refl [Fct.rest w2 None]) (optFs_less hz2)).sep H3
    have H := H.mades H3
    have hz3 := (H.restOf 0 rfl).size
    refine ⟨_, _, _, rfl, hX.ext (H.restOf 0 rfl), ?_⟩
    refine (copied_spec (s := rs[i].v.data) (l := rs[i].data) ((hX.data _ (List.getElem_mem _)).ext (H.restOf 0 rfl))).mono ?_
    rintro _ w4 ⟨sd, rfl, hB, H4⟩
    have H := H.made (H4.lower 1 rfl hz3)
    refine ⟨_, _, _, rfl, hX.ext (H.restOf 0 rfl), NewVC.sep H fun g1 w5 H => ?_⟩
    have H := H.front
    have hz5 := (H.restOf 1 rfl).size
    refine ⟨hX.ext (H.restOf 1 rfl), ?_⟩
    refine appE (o := ⟨rs[i].v.kind, so, sd⟩) H 2 rfl (Cells.blk0 (H.blk 0 rfl)) (show n1 ≤ 1000000000 by omega) (by omega) fun A2 c2 w6 H hc2 => ⟨hX.ext (H.restOf 1 rfl), ⟨i + 1, rs' ++ [⟨⟨rs[i].v.kind, so, sd⟩, os', rs[i].data⟩], hi1, by omega, ?_, ⟨?_, by simp only; omega, ?_, ?_⟩, by simp only; omega, ?_⟩, by simp only [hi1]; omega⟩
    · rw [htake, List.map_append, List.map_append, hd]
      simp only [List.map_cons, List.map_nil, ExtR.d, hod]
    · have := hf.len; simp at this ⊢; omega
    · intro x hx
      rcases List.mem_append.1 hx with hx | hx
      · exact hf.opts x hx
      · simp at hx; subst hx; exact hof
    · intro x hx
      rcases List.mem_append.1 hx with hx | hx
      · exact hf.data x hx
      · simp at hx; subst hx; exact hB
    · have H := H.tail
      simp only [extFs, rowE, extF, List.map_append, List.flatten_append, List.map_cons, List.map_nil, List.flatten_cons, List.flatten_nil, List.append_nil, List.flatMap_append, List.flatMap_cons, List.flatMap_nil, ← List.append_assoc]
      exact H
  · have hin : i = s.n := by omega
    exact ⟨⟨A1, n1, cc⟩, rs', rfl, by rw [hd, hin, ← hl, List.take_length], hf, H⟩
set_option maxHeartbeats 1000000 in
theorem clone6_spec {h : Ip6V} {es : List ExtR} {data : List Int} (hA : Ip6At w h es data) : Calls Tryz.prog 14 #[h.val] w fun e w' => ∃ r : Ip6R, e = .returned r.v.val ∧ r.d = h.d es data ∧ Ip6Fine r ∧
    Sep (Fct.rest w None :: rowB w.heap.size r.v.data r.data :: extFs w.heap.size r.v.exts r.exts) w' := by
  refine weirref7_Clone_of h w _ ?_
  unfold weirref7_Clone_VC
  refine NewVC.sep (Sep.start0 w) fun g1 w1 H => NewVC.sep H fun g2 w2 H => ⟨_, _, _, H.cell 1 rfl 37 rfl, ?_⟩
  have hz2 := (H.restOf 0 rfl).size
  refine (cloneExts_spec (s := h.exts) (rs := es) (hA.exts.ext (H.restOf 0 rfl))).mono ?_
  rintro _ w3 ⟨so, os', rfl, hod, hof, H3⟩
  have H3 := (AllLe.append (AllLe.refl [Fct.rest w2 None]) (extFs_less hz2)).sep H3
  have H := H.mades H3
  refine ⟨_, _, _, rfl, SetVC.sep H 1 rfl (show 37 < 44 by decide) fun w4 H => ?_⟩
  have hz4 := (H.restOf 0 rfl).size
  refine ⟨_, _, _, H.cell 1 rfl 43 rfl, ?_⟩
  refine (copied_spec (s := h.data) (l := data) (hA.data.ext (H.restOf 0 rfl))).mono ?_
  rintro _ w5 ⟨sd, rfl, hB, H5⟩
  have H := (H.made (H5.lower 1 rfl hz4)).front
  refine ⟨_, _, _, rfl, SetVC.sep H 2 rfl (show 43 < 44 by decide) fun w6 H => ?_⟩
  refine Ip6V.of { h with exts := so, data := sd } ⟨H.at 2 rfl, Stores.sep H 3 rfl (Ip6V.one _) (Nat.le_refl _) (splice_all rfl) fun w7 H => ?_⟩
  refine Ip6V.of { h with exts := so, data := sd } ⟨H.at 3 rfl, ⟨⟨{ h with exts := so, data := sd }, os', data⟩, rfl, ?_, ⟨hof, hB, hA.src, hA.dst⟩, ?_⟩⟩
  · unfold Ip6R.d Ip6V.d
    rw [hod]
  · have H := H.sub (Γ' := rowB w.heap.size sd data :: Fct.rest w None :: extFs w.heap.size so os') (.cons_cons _ (.cons_cons _ (.cons _ (.cons _ (List.Sublist.refl _)))))
    exact H.perm (.swap _ _ _)
theorem refCheck6_spec {h : Ip6V} {es : List ExtR} {data : List Int} (hA : Ip6At w h es data) : Calls Tryz.prog 5 #[h.val] w fun e w' => Ext w w' ∧ e = .returned (.int .i64 (ser6S (h.d es data)).2) := by
  refine weirref7_Check_of h w _ ?_
  unfold weirref7_Check_VC
  refine NewVC.sep (Sep.start0 w) fun g1 w1 H => Ip6V.of h ⟨H.at 1 rfl, ?_⟩
  refine (refSerialise_spec (hA.ext (H.restOf 0 rfl))).mono ?_
  rintro _ w2 ⟨A, c, rfl, H2⟩
  exact ⟨_, _, _, _, rfl, (H.restOf 0 rfl).trans (H2.restOf 0 rfl), rfl⟩
theorem refSize6_spec {h : Ip6V} {es : List ExtR} {data : List Int} (hA : Ip6At w h es data) : Calls Tryz.prog 13 #[h.val] w fun e w' => Ext w w' ∧ e = .returned (.int .i64 ((ser6S (h.d es data)).1.length : Nat)) := by
  refine weirref7_Size_of h w _ ?_
  unfold weirref7_Size_VC
  refine NewVC.sep (Sep.start0 w) fun g1 w1 H => Ip6V.of h ⟨H.at 1 rfl, ?_⟩
  refine (refSerialise_spec (hA.ext (H.restOf 0 rfl))).mono ?_
  rintro _ w2 ⟨A, c, rfl, H2⟩
  exact ⟨_, _, _, _, rfl, (H.restOf 0 rfl).trans (H2.restOf 0 rfl), rfl⟩
end
end N6
end Go.Proofs.YthhgbpmihhljdaaGreatDoor
/- The options with the highest bit set: the law's loop and the document's, which read alike. -/
namespace Go.Proofs.YthhgbpmihhljdaaGreatDoor
namespace N6
open Go.Eng Go.RowKit
section
variable {w : World} {s : Sl}
end
end N6
end Go.Proofs.YthhgbpmihhljdaaGreatDoor
