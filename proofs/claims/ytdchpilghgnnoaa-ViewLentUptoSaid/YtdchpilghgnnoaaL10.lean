/- What Pack, Fields and Done hand out is its caller's own. -/
import Derived.Test.YtdchpilghgnnoaaKeep
namespace Go.Proofs.Ytdchpilghgnnoaa
open Go.Eng Go.RowKit

theorem fieldsS_len (bs : List Int) (p : Int) (ws : List Int) : (fieldsS bs p ws).1.length ≤ 64 := fieldsS_length bs p ws

set_option maxHeartbeats 2000000 in
/-- Behind the builder's calls. -/
theorem own_end {w0 w : World} {A W V BA : Option Addr} {n c m d l f gb bn bc : Nat} {bs ws vs xs : List Int} {max : Int} (hE : Ext w0 w) (hb : Cells w A (bs.map (.int .u8))) (hl : bs.length = n) (hB : Bts bs) (hc : n ≤ c) (hn : n ≤ 1048576)
    (hws : Cells w W (ws.map (.int .i64))) (hm : ws.length = m) (hvs : Cells w V (vs.map (.int .i64))) (hv : vs.length = l) (hbd : Bd w w0.heap.size gb BA bc bn xs max) (_ : w0.heap.size ≤ gb) :
    weirlaw1_ViewOwn_J15 (fun e w' => e = .returned (.bool true) ∧ Ext w0 w') A n c W m d V l f (some ⟨gb, 0, none⟩) w := by
  unfold weirlaw1_ViewOwn_J15
  have hbn : bn ≤ 65535 := by have := hbd.m0; have := hbd.m1; omega
  have s0 := hE.size
  refine (pack_fn hws hm hvs hv).mono ?_
  rintro _ w9 ⟨hE9, A1, ds, err, hp1, rfl, hown1⟩
  have hds := hp1.small
  refine ⟨_, _, _, _, rfl, ?_⟩
  refine (pack_fn (hws.ext hE9) hm (hvs.ext hE9) hv).mono ?_
  rintro _ w10 ⟨hE10, A2, es, err2, hp2, rfl, hown2⟩
  obtain ⟨rfl, rfl⟩ := hp1.unique hp2
  refine ⟨_, _, _, _, rfl, ?_⟩
  have hb10 := (hbd.ext hE9).ext hE10
  refine (bdDone_spec hb10).mono ?_
  rintro _ w11 ⟨hE11, ga, hga, rfl, hba⟩
  refine ⟨_, _, _, rfl, ?_⟩
  refine (bdDone_spec (hb10.ext hE11)).mono ?_
  rintro _ w12 ⟨hE12, gd, hgd, rfl, hbdd⟩
  refine ⟨_, _, _, rfl, ?_⟩
  have hxl := hbd.len
  refine (join_spec (ys := []) (zs := []) (own_cells (own_ext hown1 ((hE10.ext hE11).ext hE12))) (Cells.nil _ _) (Cells.nil _ _) rfl rfl rfl (by simp; omega)).mono ?_
  rintro _ w13 ⟨hE13, A3, c3, rfl, hc3, hown3⟩
  rw [List.append_nil, List.append_nil] at hown3
  refine ⟨_, _, _, rfl, ?_⟩
  have hca : Cells w13 (some ⟨ga, 0, none⟩) (xs.map (.int .u8)) := by simpa using Cells.of_blk ((hba.ext hE12).ext hE13) 0
  refine (join_spec (ys := []) (zs := []) hca (Cells.nil _ _) (Cells.nil _ _) hxl rfl rfl (by simp; omega)).mono ?_
  rintro _ w14 ⟨hE14, A4, c4, rfl, hc4, hown4⟩
  rw [List.append_nil, List.append_nil] at hown4
  refine ⟨_, _, _, rfl, ?_⟩
  refine NewVC.blk fun g2 w15 hg2 hz15 hE15 hb2 => ?_
  let rows : List RowV := [⟨A1, ds.length⟩, ⟨A2, ds.length⟩, ⟨some ⟨ga, 0, none⟩, bn⟩, ⟨some ⟨gd, 0, none⟩, bn⟩]
  let Ls : Nat → List Int := fun i => if i < 2 then ds else xs
  have h1 : ∀ k, some k = (Value.slice A1 ds.length ds.length).ownBlock → w.heap.size ≤ k ∧ k < w9.heap.size := fun k hk => hown1.lt k hk.symm
  have h2 : ∀ k, some k = (Value.slice A2 ds.length ds.length).ownBlock → w9.heap.size ≤ k ∧ k < w10.heap.size := fun k hk => hown2.lt k hk.symm
  have h3 : ∀ k, some k = (Value.slice (some ⟨ga, 0, none⟩) bn bn).ownBlock → k = ga := fun k hk => by simp [Value.ownBlock] at hk; exact hk
  have h4 : ∀ k, some k = (Value.slice (some ⟨gd, 0, none⟩) bn bn).ownBlock → k = gd := fun k hk => by simp [Value.ownBlock] at hk; exact hk
  have t9 := hE9.size
  have t10 := hE10.size
  have t11 := hE11.size
  have t12 := hE12.size
  have t13 := hE13.size
  have t14 := hE14.size
  have la := hba.lt
  have ld := hbdd.lt
  have hE1215 : Ext w12 w15 := (hE13.ext hE14).ext hE15
  have hR : RowsAt w15 w.heap.size (some ⟨g2, 0, none⟩) rows Ls := by
    refine ⟨fun i hi => ?_, fun i j hi hj hij k hk hk' => ?_, ?_, fun a ha k hk => ?_⟩
    · match i, hi with
      | 0, _ => exact own_ext hown1 (((hE10.ext hE11).ext hE12).ext hE1215)
      | 1, _ => exact own_base (own_ext hown2 ((hE11.ext hE12).ext hE1215)) t9
      | 2, _ =>
        have := own_of_blk (n := bn) (c := bn) ((hba.ext hE12).ext hE1215) (show w.heap.size ≤ ga by omega) (by simpa using hxl) (Nat.le_refl _) (by simp only [maxLen]; omega)
        rwa [List.take_of_length_le (by simp; omega)] at this
      | 3, _ =>
        have := own_of_blk (n := bn) (c := bn) (hbdd.ext hE1215) (show w.heap.size ≤ gd by omega) (by simpa using hxl) (Nat.le_refl _) (by simp only [maxLen]; omega)
        rwa [List.take_of_length_le (by simp; omega)] at this
    · have hi4 : i < 4 := hi
      have hj4 : j < 4 := hj
      match i, j, hi4, hj4, hij with
      | 0, 0, _, _, h => exact absurd rfl h
      | 1, 1, _, _, h => exact absurd rfl h
      | 2, 2, _, _, h => exact absurd rfl h
      | 3, 3, _, _, h => exact absurd rfl h
      | 0, 1, _, _, _ => have a := h1 k hk; have b := h2 k hk'; omega
      | 0, 2, _, _, _ => have a := h1 k hk; have b := h3 k hk'; omega
      | 0, 3, _, _, _ => have a := h1 k hk; have b := h4 k hk'; omega
      | 1, 0, _, _, _ => have a := h2 k hk; have b := h1 k hk'; omega
      | 1, 2, _, _, _ => have a := h2 k hk; have b := h3 k hk'; omega
      | 1, 3, _, _, _ => have a := h2 k hk; have b := h4 k hk'; omega
      | 2, 0, _, _, _ => have a := h3 k hk; have b := h1 k hk'; omega
      | 2, 1, _, _, _ => have a := h3 k hk; have b := h2 k hk'; omega
      | 2, 3, _, _, _ => have a := h3 k hk; have b := h4 k hk'; omega
      | 3, 0, _, _, _ => have a := h4 k hk; have b := h1 k hk'; omega
      | 3, 1, _, _, _ => have a := h4 k hk; have b := h2 k hk'; omega
      | 3, 2, _, _, _ => have a := h4 k hk; have b := h3 k hk'; omega
    · have := Cells.of_blk hb2 0
      rw [List.drop_zero] at this
      exact this
    · cases ha
      obtain ⟨r, hr, hk⟩ := hk
      simp only [rows, List.mem_cons, List.not_mem_nil, or_false] at hr
      show k ≠ g2
      rcases hr with rfl | rfl | rfl | rfl
      · have := h1 k hk; omega
      · have := h2 k hk; omega
      · have := h3 k hk; omega
      · have := h4 k hk; omega
  have hRF : ∀ k, RF rows k → w.heap.size ≤ k ∧ k < w12.heap.size := fun k hk => by
    obtain ⟨r, hr, hk⟩ := hk
    simp only [rows, List.mem_cons, List.not_mem_nil, or_false] at hr
    rcases hr with rfl | rfl | rfl | rfl
    · have := h1 k hk; omega
    · have := h2 k hk; omega
    · have := h3 k hk; omega
    · have := h4 k hk; omega
  have hrn : ∀ r ∈ rows, r.n ≤ 1048700 := fun r hr => by
    simp only [rows, List.mem_cons, List.not_mem_nil, or_false] at hr
    rcases hr with rfl | rfl | rfl | rfl <;> simp only <;> omega
  refine (filled_spec (m := 4) hR rfl (by omega) hrn).mono ?_
  rintro _ w16 ⟨w15', MA, mc, ms, rfl, hm15, hz15', hE15', hMk, hMo⟩
  have hEw15 : Ext w w15 := (((hE9.ext hE10).ext hE11).ext hE12).ext hE1215
  have hEw16 : Ext w w16 := (hEw15.trans' hm15 fun k hk e => by have := hRF k e; omega).ext hE15'
  have hown3 := own_ext (own_mod (own_ext hown3 (hE14.ext hE15)) hm15 fun k hk e => by have := hRF k e; have := own_new hown3 k hk; omega) hE15'
  have hown4 := own_ext (own_mod (own_ext hown4 hE15) hm15 fun k hk e => by have := hRF k e; have := own_new hown4 k hk; omega) hE15'
  have hbd16 := ((hbd.ext hEw15).mod hm15 fun k hk e => by have := hRF k e; have := hbd.lt k hk; omega).ext hE15'
  refine ⟨_, _, _, rfl, ?_⟩
  refine (fields_fn (p := 0) (hb.ext hEw16) hl hB hc (by omega) (hws.ext hEw16) hm).mono ?_
  rintro _ w17 ⟨hE17, F1, fc1, rfl, hf1⟩
  refine ⟨_, _, _, _, _, rfl, ?_⟩
  refine (fields_fn (p := 0) ((hb.ext hEw16).ext hE17) hl hB hc (by omega) ((hws.ext hEw16).ext hE17) hm).mono ?_
  rintro _ w18 ⟨hE18, F2, fc2, rfl, hf2⟩
  refine ⟨_, _, _, _, _, rfl, ?_⟩
  have hfl := fieldsS_length bs 0 ws
  generalize hFe : fieldsS bs 0 ws = FF at hf1 hf2 hfl
  have hf1u : ∀ k, some k = (Value.slice F1 FF.1.length fc1).ownBlock → k < w17.heap.size := fun k hk => (hf1.lt k hk.symm).2
  have t17 := hE17.size
  have t18 := hE18.size
  refine LoopVC.of (fun s w' => ∃ (i : Nat) (L : List Int), s = (i : Int) ∧ i ≤ FF.1.length ∧ Mod (fun k => some k = (Value.slice F1 FF.1.length fc1).ownBlock) w18 w' ∧ L.length = FF.1.length ∧
    w'.ownsRow w16.heap.size 3 1 (.slice F1 FF.1.length fc1) FF.1.length (L.map (.int .i64))) (fun s _ => ((FF.1.length : Int) - s).toNat)
    ⟨0, FF.1, rfl, by omega, Mod.refl _ _, rfl, own_ext hf1 hE18⟩ ?_
  rintro _ w19 ⟨i, L, rfl, hi, hM19, hLl, hf1⟩
  unfold weirlaw1_ViewOwn_L524282
  refine Br.dec (fun hlt => ?_) (fun hge => ?_)
  · refine IdxVC.own hf1 (by omega) hlt hlt fun a _ hset => ?_
    refine hset _ _ rfl fun w20 hz20 hm20 hf20 => ?_
    rw [map_set] at hf20
    rw [w64 (n := (i : Int) + 1) (by omega) (by omega)]
    exact ⟨⟨i + 1, _, by omega, by omega, hM19.trans hm20, by simpa using hLl, hf20⟩, by omega⟩
  · have hE1819 : Ext w16 w19 := (hE17.ext hE18).trans' hM19 fun k hk e => by have := own_new hf1 k e.symm; omega
    refine NewVC.blk fun g3 w21 hg3 hz21 hE21 hb3 => ?_
    refine AppVC.keep Try.underlying55 tyInt rfl (own_ext hf1 hE21) (by simpa using Cells.of_blk hb3 0) (m := 1) rfl (by omega) (by simp [Value.oneCell']) (by omega) (by decide) fun G1 gc1 w22 hf22 hm22 => ?_
    refine NewVC.blk fun g4 w23 hg4 hz23 hE23 hb4 => ?_
    refine AppVC.keep Try.underlying55 tyInt rfl (own_ext hf22 hE23) (by simpa using Cells.of_blk hb4 0) (m := 2) rfl (by omega) (by simp [Value.oneCell']) (by omega) (by decide) fun G2 gc2 w24 hf24 hm24 => ?_
    have hMf : Mod (fun k => some k = (Value.slice F1 FF.1.length fc1).ownBlock) w18 w24 := (((hM19.ext hE21).trans hm22).ext hE23).trans hm24
    have hE24 : Ext w16 w24 := (hE17.ext hE18).trans' hMf fun k hk e => by have := own_new hf1 k e.symm; omega
    have hf1lt : ∀ k, some k = (Value.slice F1 FF.1.length fc1).ownBlock → w16.heap.size ≤ k := fun k hk => own_new hf1 k hk.symm
    have hEw24 : Ext w w24 := hEw16.ext hE24
    refine (fields_fn (p := 0) (hb.ext hEw24) hl hB hc (by omega) (hws.ext hEw24) hm).mono ?_
    rintro _ w25 ⟨hE25, F3, fc3, rfl, hf3⟩
    rw [hFe] at hf3 ⊢
    refine ⟨_, _, _, _, _, rfl, ?_⟩
    have hE1625 := hE24.ext hE25
    refine (stand_spec (m := 4) (RowsAt.ext hMk hE1625) (hMo.ext hE1625) rfl (by omega) hrn).mono ?_
    rintro _ w26 ⟨rfl, rfl⟩
    refine ⟨_, rfl, Br.f rfl ?_⟩
    have hf2' := own_mod hf2 hMf fun k hk e => by have := own_new hf2 k hk; have := hf1u k e; omega
    refine (sameInts_spec (own_cells (own_ext hf2' hE25)) (own_cells hf3) rfl rfl (by omega)).mono ?_
    rintro _ w27 ⟨hE27, rfl⟩
    have hE1627 := hE1625.ext hE27
    have hEw27 := hEw16.ext hE1627
    refine ⟨_, rfl, Br.f (by simp) (Br.no (by rw [w64 (by omega) (by omega)]; omega) (Br.no (by rw [w64 (by omega) (by omega)]; omega) ?_))⟩
    refine (pack_fn (hws.ext hEw27) hm (hvs.ext hEw27) hv).mono ?_
    rintro _ w28 ⟨hE28, A5, es2, err3, hp3, rfl, hown5⟩
    obtain ⟨rfl, rfl⟩ := hp1.unique hp3
    refine ⟨_, _, _, _, rfl, ?_⟩
    have hE1628 := hE1627.ext hE28
    refine (same_spec (own_cells hown5) (own_cells (own_ext hown3 hE1628)) rfl (by simp) hp1.bts hp1.bts).mono ?_
    rintro _ w29 ⟨rfl, rfl⟩
    refine ⟨_, rfl, Br.yes rfl ?_⟩
    refine (bdDone_spec (hbd16.ext hE1628)).mono ?_
    rintro _ w30 ⟨hE30, g6, hg6, rfl, hb6⟩
    refine ⟨_, _, _, rfl, ?_⟩
    have hE1630 := hE1628.ext hE30
    have hc6 : Cells w30 (some ⟨g6, 0, none⟩) (xs.map (.int .u8)) := by simpa using Cells.of_blk hb6 0
    refine (same_spec hc6 (own_cells (own_ext hown4 hE1630)) hxl (by simpa using hxl) hbd.bts hbd.bts).mono ?_
    rintro _ w31 ⟨rfl, rfl⟩
    refine ⟨_, rfl, Br.yes rfl ?_⟩
    refine (stand_spec (m := 4) (RowsAt.ext hMk hE1630) (hMo.ext hE1630) rfl (by omega) hrn).mono ?_
    rintro _ w32 ⟨rfl, rfl⟩
    exact ⟨_, rfl, rfl, hE.ext (hEw16.ext hE1630)⟩
theorem own_law {A W V : Option Addr} {n c m d l f : Nat} {bs ws vs : List Int} {w : World} (hb : Cells w A (bs.map (.int .u8))) (hl : bs.length = n) (hB : Bts bs) (hc : n ≤ c) (hn : n ≤ 1048576)
    (hws : Cells w W (ws.map (.int .i64))) (hm : ws.length = m) (hvs : Cells w V (vs.map (.int .i64))) (hv : vs.length = l) :
    Calls Try.prog 13 #[.slice A n c, .slice W m d, .slice V l f] w fun e w' => e = .returned (.bool true) ∧ Ext w w' := by
  refine weirlaw1_ViewOwn_of A n c W m d V l f w _ ?_
  unfold weirlaw1_ViewOwn_VC
  refine (newBuilder_spec (w := w) (max := 60000)).mono ?_
  rintro _ w1 ⟨hE1, ⟨hbad, rfl⟩ | ⟨_, rfl, hbd⟩⟩
  · omega
  refine ⟨_, _, rfl, Br.f rfl ?_⟩
  refine (num_spec _ w1).mono ?_
  rintro _ w2 ⟨rfl, rfl⟩
  refine ⟨_, rfl, Br.no (by decide) ?_⟩
  refine (bdPut_spec (k := 2) (v := 515) hbd ⟨by decide, by decide⟩).mono ?_
  rintro _ w3 ⟨rfl, hm3, B, bc, hnear, hbd3⟩
  have hpe : putErr 2 515 0 60000 = 0 := by decide
  have hpn : putN 2 515 0 60000 = 2 := by unfold putN; rw [if_pos hpe]; rfl
  rw [hpn] at hnear hbd3
  rw [hpe]
  refine ⟨_, rfl, ?_⟩
  refine (num_spec _ w3).mono ?_
  rintro _ w4 ⟨rfl, rfl⟩
  refine ⟨_, rfl, Br.no (by decide) ?_⟩
  have hE3 : Ext w w3 := hE1.trans' hm3 fun k hk e => by
    rcases e with rfl | e
    · omega
    · simp [Value.ownBlock] at e
  refine JoinVC.of (fun _ w' => Ext w w' ∧ ∃ BA bc bn xs, Bd w' w.heap.size w.heap.size BA bc bn xs 60000) ?_ ?_
  · refine Br.dec (fun hsm => ?_) (fun _ => ⟨hE3, B, bc, 2, _, hbd3⟩)
    have e2 : Int.tdiv (n : Int) 2 = ((n / 2 : Nat) : Int) := by rw [Int.tdiv_eq_ediv_of_nonneg (by omega)]; omega
    rw [e2, w64 (n := ((n / 2 : Nat) : Int)) (by omega) (by omega)]
    refine ⟨by omega, by omega, ?_⟩
    rw [Int.toNat_natCast]
    refine NewVC.blk fun g1 w5 hg1 hz5 hE5 hb1 => ?_
    let p1 : PartV := ⟨A, n, c, bs⟩
    let p2 : PartV := ⟨A, n / 2, c, bs.take (n / 2)⟩
    have hP : ∀ w', Mod (BF w.heap.size B bc 2) w5 w' → PartsIs w' (some ⟨g1, 0, none⟩) [p1, p2] := fun w' hM => by
      have hE' : Ext w w' := (hE3.ext hE5).trans' hM fun k hk e => by
        rcases e with rfl | e
        · omega
        · have := own_new hbd3.own k e.symm; omega
      have hbg : Blk w' g1 22 [.slice A n c, .slice A (n / 2) c] := hb1.mod hM fun e => by have := hbd3.lt _ e; omega
      have hcl : Cells w' (some ⟨g1, 0, none⟩) ([.slice A n c, .slice A (n / 2) c] : List Value) := by simpa using Cells.of_blk hbg 0
      refine ⟨fun i cs hi => ?_, fun q hq => ?_⟩
      · match i, hi with
        | 0, hi =>
          simp at hi; subst hi
          obtain ⟨a, ha, hc0⟩ := hcl 0 _ rfl
          exact ⟨a, ha, by rw [Nat.zero_mul]; exact hc0, trivial⟩
        | 1, hi =>
          simp at hi; subst hi
          obtain ⟨a, ha, hc0⟩ := hcl 1 _ rfl
          exact ⟨a, ha, by rw [Nat.one_mul, add_zero]; exact hc0, trivial⟩
        | i + 2, hi => simp at hi
      · have hbc := hb.ext hE'
        simp only [List.mem_cons, List.not_mem_nil, or_false] at hq
        rcases hq with rfl | rfl
        · exact ⟨hbc, hl, hB, by show n ≤ 1048700; omega⟩
        · exact ⟨by have := hbc.take (n / 2); rwa [← List.map_take] at this, by show (bs.take (n / 2)).length = n / 2; rw [List.length_take]; omega, hB.take _, by show n / 2 ≤ 1048700; omega⟩
    refine (bdBytes_spec (m := 2) (hbd3.ext hE5) hP rfl (by omega)).mono ?_
    rintro _ w6 ⟨rfl, hm6, B2, bc2, hnear2, hbd6⟩
    have ht : total [p1, p2] = n + n / 2 := by simp [total, p1, p2]
    rw [ht, if_pos (by omega)] at hbd6 ⊢
    refine ⟨_, rfl, ?_⟩
    refine (num_spec _ w6).mono ?_
    rintro _ w7 ⟨rfl, rfl⟩
    refine ⟨_, rfl, Br.no (by decide) ⟨?_, B2, bc2, _, _, hbd6⟩⟩
    exact (hE3.ext hE5).trans' hm6 fun k hk e => by
      rcases e with rfl | e
      · omega
      · have := own_new hbd3.own k e.symm; omega
  rintro _ w8 ⟨hE8, BA, bc8, bn, xs, hbd8⟩
  exact own_end hE8 (hb.ext hE8) hl hB hc hn (hws.ext hE8) hm (hvs.ext hE8) hv hbd8 (Nat.le_refl _)
end Go.Proofs.Ytdchpilghgnnoaa
