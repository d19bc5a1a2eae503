/- IcmpAgain: bytes and a message's data, changed in place between calls. -/
import Derived.Test.YtjngdcilnipjcaaDoorAg2
namespace Go.Eng
open Go Go.RowKit
theorem parseS_data (v : Int) (src dst : IPV) (bs : List Int) : (parseS v src dst bs).data.length ≤ bs.length := by
  unfold parseS
  repeat' split
  all_goals simp [noneP]
end Go.Eng
namespace Go.Proofs.YtjngdcilnipjcaaDoor
namespace Nd
open Go.Eng Go.RowKit
section
variable {w0 w w' : World} {g1 g2 g3 g4 g5 g6 gw gm : Nat} {src dst : IPV} {m : MsgV} {Lw Lm : List Int}
theorem AgSt.at (h : AgSt w0 w g1 g2 g3 gw gm src dst m Lw Lm) {g : Nat} (hm : Mod (fun k => k = g) w w') (hg : w0.heap.size ≤ g) (n1 : g1 ≠ g) (n2 : g2 ≠ g) (n3 : g3 ≠ g) (n4 : gw ≠ g) (n5 : gm ≠ g) : AgSt w0 w' g1 g2 g3 gw gm src dst m Lw Lm :=
  ⟨h.ext.set hm hg, h.b1.mod hm n1, h.b2.mod hm n2, h.b3.mod hm n3, h.bw.mod hm n4, h.bm.mod hm n5, h.cw, h.cm, h.lw, h.lm⟩
set_option maxHeartbeats 2000000 in
set_option maxRecDepth 20000 in
theorem again_turn {R : Ending → World → Prop} {v : Int} {BA : Option Addr} {bk : Nat} {i : Nat} {tn : Nat} {tA : Option Addr} {l : List (Int × Int × Int)} {K250 : Int → World → Prop}
    (h : AgSt w0 w g1 g2 g3 gw gm src dst m Lw Lm) (hT : Tab w0) (hl : TurnsIs w0 tA tn l) (htn : tn ≤ 1048576) (hs : Bts src.bytes) (hd : Bts dst.bytes) (ne : gw ≠ gm) (hgw : w0.heap.size ≤ gw) (hgm : w0.heap.size ≤ gm)
    (hb4 : Blk w g4 24 (wideM m gm Lm.length).cells) (h4g : w0.heap.size ≤ g4) (n1 : g1 ≠ g4) (n2 : g2 ≠ g4) (n3 : g3 ≠ g4) (n4 : gw ≠ g4) (n5 : gm ≠ g4) (hB : Cells w BA (Lw.map (.int .u8))) (hBn : ∀ a, BA = some a → 0 < Lw.length → a.block ≠ g4)
    (hK : ∀ w' Lw' Lm', Lw'.length = Lw.length → Lm'.length = Lm.length → AgSt w0 w' g1 g2 g3 gw gm src dst m Lw' Lm' → K250 (IntKind.i64.wrap ((i : Int) + 1)) w') :
    weirlaw8_IcmpAgain_D8008 R w g3 g4 g1 g2 v (some ⟨gw, 0, none⟩) Lw.length (2 * Lw.length + 70) BA Lw.length bk (i : Int) tn tA K250 := by
  unfold weirlaw8_IcmpAgain_D8008
  have hlm := h.lm
  have hlw := h.lw
  refine ⟨_, _, _, h.b3.cell 4, ?_⟩
  refine (copied_spec (wide_cells h.bm) rfl (by omega)).mono ?_
  rintro _ w1 ⟨hE1, W, wc, rfl, hownW⟩
  have h1 := h.to hE1
  refine ⟨_, _, _, rfl, ?_⟩
  refine SetVC.blk (g := g4) (i := 4) (hb4.ext hE1) (by simp [MsgV.cells]) fun w2 hz2 hm2 hb42 => ?_
  have hb42 : Blk w2 g4 24 (MsgV.cells ⟨m.v, m.t, m.c, m.r, W, Lm.length, wc⟩) := hb42
  have h2 := h1.at hm2 h4g n1 n2 n3 n4 n5
  have hownW2 := own_mod hownW hm2 (own_ty hownW (hb4.ext hE1) (by decide))
  have hwc : Lm.length ≤ wc := by
    obtain ⟨_, _, hv, hle, _⟩ := own_form hownW
    injection hv with _ _ h3
    omega
  have hB2 : Cells w2 BA (Lw.map (.int .u8)) := (hB.ext hE1).mod hm2 fun a ha h0 => hBn a ha (by simpa using h0)
  refine ⟨_, _, _, _, _, _, _, _, _, _, _, _, _, _, _, _, _, CellsAt.blk h2.b1, _, _, _, _, _, _, _, _, _, _, _, _, _, _, _, _, _, CellsAt.blk h2.b2, ?_⟩
  refine (parse_spec (v := v) (src := src) (dst := dst) (c := 2 * Lw.length + 70) (wide_cells h2.bw) rfl h.cw (by omega) hs hd).mono ?_
  rintro _ w3 ⟨hE3, A5, rfl, h5, -⟩
  have hq := parseS_data v src dst Lw
  generalize hqe : parseS v src dst Lw = q at h5 hq ⊢
  refine ⟨_, _, _, _, _, _, _, _, rfl, ?_⟩
  have s3 := hE3.size
  have l4 := hb42.lt
  refine NewVC.blk fun g5 w4 hg5 hz4 hE4 hb5 => ?_
  refine setAll (q.msg A5 q.data.length).cells 0 w4 _ _ hb5 rfl fun w5 hz5 hm5 hb5 => ?_
  have hb5 : Blk w5 g5 24 (q.msg A5 q.data.length).cells := hb5
  have hE35 : Ext w3 w5 := hE4.set hm5 (by omega)
  have hE25 := hE3.ext hE35
  have h5' := h5.ext hE35
  have hst5 := h2.to hE25
  refine DrawVC.of (fun w' => Ext w5 w') fun w6 hE6 _ => ⟨hE6, ?_⟩
  refine ⟨_, _, _, _, _, _, _, _, _, _, _, _, _, _, _, _, _, fun w' hw' => CellsAt.blk (hst5.to hw').b1, _, _, _, _, _, _, _, _, _, _, _, _, _, _, _, _, _, fun w' hw' => CellsAt.blk (hst5.to hw').b2, ?_⟩
  have s5 : w0.heap.size ≤ w5.heap.size := hst5.ext.size
  /- what is left when both are there -/
  have last : ∀ {w' : World} {g6 : Nat} {A6 : Option Addr} {k6 : Nat}, Ext w5 w' → Blk w' g6 24 (q.msg A6 k6).cells → Cells w' A6 (q.data.map (.int .u8)) →
      weirlaw8_IcmpAgain_D64078 R q.err q.err w' g5 g6 g1 g2 g3 g4 (some ⟨gw, 0, none⟩) Lw.length (2 * Lw.length + 70) BA Lw.length bk (i : Int) tn tA K250 := fun hE' hb6 h6 =>
    again_rest (hst5.to hE') hT hl htn hs hd ne hgw hgm (hb5.ext hE') hb6 (h5'.ext hE') h6 (by omega) ((hb42.ext hE25).ext hE') (own_cells (own_ext hownW2 (hE25.ext hE'))) hwc (hB2.ext (hE25.ext hE')) hK
  have ask : ∀ {w' : World} {C : Option Addr} {ck : Nat}, Cells w' C (Lw.map (.int .u8)) → Calls Tryd.prog 30 #[.int .i64 v, src.val, dst.val, .slice C Lw.length ck] w' fun e w'' => Ext w' w'' ∧ ∃ A' k, e = .returned (.tuple #[(q.msg A' k).val, .int .i64 q.err]) ∧
      w''.ownsRow w'.heap.size 5 1 (.slice A' q.data.length k) q.data.length (q.data.map (.int .u8)) := fun {w' C ck} hc => by
    have := refParse_spec (v := v) (src := src) (dst := dst) (c := ck) hc rfl h.cw hs hd
    rw [hqe] at this
    exact this
  refine ⟨?_, ?_⟩
  · refine (copied_spec (wide_cells (hst5.to hE6).bw) rfl (by omega)).mono ?_
    rintro _ w7 ⟨hE7, C, ck, rfl, hownC⟩
    have hE57 := hE6.ext hE7
    refine ⟨_, _, _, rfl, hE57, ?_, ?_⟩
    · refine (ask (own_cells hownC)).mono ?_
      rintro _ w8 ⟨hE8, A6, k6, rfl, hown6⟩
      have hE58 := hE57.ext hE8
      refine ⟨_, _, _, _, _, _, _, _, rfl, hE58, ?_⟩
      have s8 := hE58.size
      refine NewVC.blk fun g6 w9 hg6 hz9 hE9 hb6 => ⟨hE58.ext hE9, ?_⟩
      refine setAll (q.msg A6 k6).cells 0 w9 _ _ hb6 rfl fun w10 hz10 hm10 hb6 => ?_
      have hE810 : Ext w8 w10 := hE9.set hm10 (by omega)
      exact ⟨hE58.ext hE810, last (hE58.ext hE810) hb6 (own_cells (own_ext hown6 hE810))⟩
    · refine NewVC.blk fun g6 w8 hg6 hz8 hE8 hb6 => ⟨hE57.ext hE8, ?_⟩
      have hE58 := hE57.ext hE8
      refine (ask (own_cells (own_ext hownC hE8))).mono ?_
      rintro _ w9 ⟨hE9, A6, k6, rfl, hown6⟩
      have hE59 := hE58.ext hE9
      refine ⟨_, _, _, _, _, _, _, _, rfl, hE59, ?_⟩
      have s7 := hE57.size
      have hb69 := hb6.ext hE9
      refine setAll (q.msg A6 k6).cells 0 w9 _ _ hb69 rfl fun w10 hz10 hm10 hb6 => ?_
      have hE510 : Ext w5 w10 := hE59.set hm10 (by omega)
      exact ⟨hE510, last hE510 hb6 (own_cells (own_mod hown6 hm10 (own_ty hown6 hb69 (by decide))))⟩
  · refine NewVC.blk fun g6 w7 hg6 hz7 hE7 hb6 => ⟨hE6.ext hE7, ?_⟩
    have hE57 := hE6.ext hE7
    refine (copied_spec (wide_cells (hst5.to hE57).bw) rfl (by omega)).mono ?_
    rintro _ w8 ⟨hE8, C, ck, rfl, hownC⟩
    have hE58 := hE57.ext hE8
    refine ⟨_, _, _, rfl, hE58, ?_⟩
    refine (ask (own_cells hownC)).mono ?_
    rintro _ w9 ⟨hE9, A6, k6, rfl, hown6⟩
    have hE59 := hE58.ext hE9
    refine ⟨_, _, _, _, _, _, _, _, rfl, hE59, ?_⟩
    have s6 := hE6.size
    have hb69 := (hb6.ext hE8).ext hE9
    refine setAll (q.msg A6 k6).cells 0 w9 _ _ hb69 rfl fun w10 hz10 hm10 hb6 => ?_
    have hE510 : Ext w5 w10 := hE59.set hm10 (by omega)
    exact ⟨hE510, last hE510 hb6 (own_cells (own_mod hown6 hm10 (own_ty hown6 hb69 (by decide))))⟩
end
section
variable {w : World} {src dst : IPV} {m : MsgV}
set_option maxHeartbeats 2000000 in
set_option maxRecDepth 20000 in
theorem again_law {v : Int} {A : Option Addr} {n c : Nat} {bs data : List Int} {tA : Option Addr} {tn tc : Nat} {l : List (Int × Int × Int)} (hs : Bts src.bytes) (hd : Bts dst.bytes)
    (hb : Cells w A (bs.map (.int .u8))) (hbl : bs.length = n) (hbB : Bts bs) (hbc : n ≤ c) (hm : Cells w m.A (data.map (.int .u8))) (hml : data.length = m.n) (hmB : Bts data) (hmc : m.n ≤ m.k) (hl : TurnsIs w tA tn l) (htn : tn ≤ 1048576) (hT : Tab w) :
    Calls Tryd.prog 9 #[.int .i64 v, src.val, dst.val, .slice A n c, m.val, .slice tA tn tc] w fun e w' => e = .returned (.bool true) ∧ Ext w w' := by
  refine weirlaw8_IcmpAgain_of v src.v src.a0 src.a1 src.a2 src.a3 src.a4 src.a5 src.a6 src.a7 src.a8 src.a9 src.a10 src.a11 src.a12 src.a13 src.a14 src.a15 dst.v dst.a0 dst.a1 dst.a2 dst.a3 dst.a4 dst.a5 dst.a6 dst.a7 dst.a8 dst.a9 dst.a10 dst.a11 dst.a12 dst.a13 dst.a14 dst.a15 A n c m.v m.t m.c m.r m.A m.n m.k tA tn tc w _ ?_
  unfold weirlaw8_IcmpAgain_VC
  refine NewVC.blk fun g1 w1 hg1 hz1 hE1 hb1 => NewVC.blk fun g2 w2 hg2 hz2 hE2 hb2 => NewVC.blk fun g3 w3 hg3 hz3 hE3 hb3 => ?_
  have hb1 : Blk w3 g1 31 src.cells := (hb1.ext hE2).ext hE3
  have hb2 : Blk w3 g2 31 dst.cells := hb2.ext hE3
  have hb3 : Blk w3 g3 24 m.cells := hb3
  have hE03 := (hE1.ext hE2).ext hE3
  refine awake_spec.mono ?_
  rintro _ w4 ⟨hE4, rfl⟩
  refine ⟨_, rfl, Br.f rfl ?_⟩
  refine (neighbours_spec (hT.ext (hE03.ext hE4))).mono ?_
  rintro _ w5 ⟨hE5, rfl⟩
  have hE35 := hE4.ext hE5
  have hE05 := hE03.ext hE35
  refine ⟨_, rfl, Br.f rfl ?_⟩
  refine (shorter_spec (hb.ext hE05) hbl hbc).mono ?_
  rintro _ _ ⟨rfl, c1, rfl, hc1⟩
  have hLw : (bs.take 66000).length ≤ 66000 := by rw [List.length_take]; omega
  have hLwB : Bts (bs.take 66000) := hbB.take _
  have hcw : Cells w5 A ((bs.take 66000).map (.int .u8)) := by rw [List.map_take]; exact (hb.ext hE05).take _
  generalize bs.take 66000 = Lw at hc1 hLw hLwB hcw ⊢
  refine ⟨_, _, _, rfl, ?_⟩
  refine (Wide_spec (c := c1) hcw rfl hLw).mono ?_
  rintro _ w6 ⟨hE6, gw, hgw, hsz6, rfl, hbw⟩
  have hE36 := hE35.ext hE6
  refine ⟨_, _, _, rfl, _, _, _, (hb3.ext hE36).cell 4, ?_⟩
  have hE06 := hE03.ext hE36
  refine (shorter_spec (hm.ext hE06) hml hmc).mono ?_
  rintro _ _ ⟨rfl, c2, rfl, hc2⟩
  have hLm : (data.take 66000).length ≤ 66000 := by rw [List.length_take]; omega
  have hLmB : Bts (data.take 66000) := hmB.take _
  have hcm : Cells w6 m.A ((data.take 66000).map (.int .u8)) := by rw [List.map_take]; exact (hm.ext hE06).take _
  generalize data.take 66000 = Lm at hc2 hLm hLmB hcm ⊢
  refine ⟨_, _, _, rfl, ?_⟩
  refine (Wide_spec (c := c2) hcm rfl hLm).mono ?_
  rintro _ w7 ⟨hE7, gm, hgm, hsz7, rfl, hbm⟩
  refine ⟨_, _, _, rfl, ?_⟩
  have hE37 := hE36.ext hE7
  have s35 := hE35.size
  have s03 := hE03.size
  have hb37 := hb3.ext hE37
  refine SetVC.blk (g := g3) (i := 4) hb37 (by simp [MsgV.cells]) fun w8 hz8 hm8 hb38 => ?_
  have ngw : gw ≠ g3 := by omega
  have ngm : gm ≠ g3 := by omega
  have st0 : AgSt w w8 g1 g2 g3 gw gm src dst m Lw Lm :=
    ⟨(hE03.ext hE37).set hm8 (by omega), (hb1.ext hE37).mod hm8 (by show ¬ g1 = g3; omega), (hb2.ext hE37).mod hm8 (by show ¬ g2 = g3; omega), hb38, (hbw.ext hE7).mod hm8 ngw, hbm.mod hm8 ngm, hLwB, hLmB, hLw, hLm⟩
  have h1lt : g1 < w8.heap.size := st0.b1.lt
  have h2lt : g2 < w8.heap.size := st0.b2.lt
  have h3lt : g3 < w8.heap.size := st0.b3.lt
  have hwlt : gw < w8.heap.size := st0.bw.lt
  have hmlt : gm < w8.heap.size := st0.bm.lt
  obtain ⟨nw, hnw⟩ : ∃ nw, nw = Lw.length := ⟨_, rfl⟩
  obtain ⟨nm, hnm⟩ : ∃ nm, nm = Lm.length := ⟨_, rfl⟩
  rw [← hnw]
  refine JoinVC.of (fun _ w' => Ext w w') ?_ ?_
  · refine LoopVC.of (fun st w' => ∃ (i : Nat) (Lw Lm : List Int), st = (i : Int) ∧ i ≤ 13 ∧ Lw.length = nw ∧ Lm.length = nm ∧ AgSt w w' g1 g2 g3 gw gm src dst m Lw Lm) (fun st _ => ((13 : Int) - st).toNat)
      ⟨0, Lw, Lm, rfl, by decide, hnw.symm, hnm.symm, st0⟩ ?_
    rintro _ w9 ⟨i, Lw, Lm, rfl, hi, rfl, hnm, h⟩
    show weirlaw8_IcmpAgain_L250 _ v tA tn g1 g2 g3 (some ⟨gw, 0, none⟩) Lw.length (2 * Lw.length + 70) _ (i : Int) w9 _
    unfold weirlaw8_IcmpAgain_L250
    refine Br.dec (fun hit => Br.dec (fun h12 => ?_) fun _ => h.ext) fun _ => h.ext
    have hlw := h.lw
    have hK : ∀ w' Lw' Lm', Lw'.length = Lw.length → Lm'.length = Lm.length → AgSt w w' g1 g2 g3 gw gm src dst m Lw' Lm' →
        (∃ (i' : Nat) (Lw'' Lm'' : List Int), IntKind.i64.wrap ((i : Int) + 1) = (i' : Int) ∧ i' ≤ 13 ∧ Lw''.length = Lw.length ∧ Lm''.length = nm ∧ AgSt w w' g1 g2 g3 gw gm src dst m Lw'' Lm'') ∧ ((13 : Int) - IntKind.i64.wrap ((i : Int) + 1)).toNat < ((13 : Int) - (i : Int)).toNat := fun w' Lw' Lm' e1 e2 h' => by
      have e3 : IntKind.i64.wrap ((i : Int) + 1) = ((i + 1 : Nat) : Int) := by rw [w64 (by omega) (by omega)]; omega
      rw [e3]
      exact ⟨⟨i + 1, Lw', Lm', rfl, by omega, e1, e2.trans hnm, h'⟩, by omega⟩
    have hlm := h.lm
    refine DrawVC.of (fun w' => Ext w9 w') fun w10 hE10 _ => ⟨hE10, ?_⟩
    have h10 := h.to hE10
    refine ⟨_, _, _, _, _, _, _, fun w' hw' => CellsAt.blk (h.to hw').b3, ?_, ?_⟩
    · refine (copied_spec (wide_cells h10.bw) rfl (by omega)).mono ?_
      rintro _ w11 ⟨hE11, B, bk, rfl, hownB⟩
      have hE911 := hE10.ext hE11
      refine ⟨_, _, _, rfl, hE911, ?_⟩
      have h11 := h.to hE911
      have s11 := h11.ext.size
      refine NewVC.blk fun g4 w12 hg4 hz12 hE12 hb4 => ⟨hE911.ext hE12, ?_⟩
      refine setAll (wideM m gm Lm.length).cells 0 w12 _ _ hb4 rfl fun w13 hz13 hm13 hb4' => ?_
      have hE1113 : Ext w11 w13 := hE12.set hm13 (by omega)
      have n1 := h11.b1.lt
      have n2 := h11.b2.lt
      have n3 := h11.b3.lt
      have n4 := h11.bw.lt
      have n5 := h11.bm.lt
      refine again_turn (h11.to hE1113) hT hl htn hs hd (by omega) (by omega) (by omega) hb4' (by omega) (by omega) (by omega) (by omega) (by omega) (by omega) (own_cells (own_ext hownB hE1113)) (fun a ha h0 => ?_) hK
      have := (own_cells hownB).lt (by simpa using h0) ha
      omega
    · refine NewVC.blk fun g4 w11 hg4 hz11 hE11 hb4 => ⟨hE10.ext hE11, ?_⟩
      have h11 := h10.to hE11
      refine (copied_spec (wide_cells h11.bw) rfl (by omega)).mono ?_
      rintro _ w12 ⟨hE12, B, bk, rfl, hownB⟩
      have hE912 := (hE10.ext hE11).ext hE12
      refine ⟨_, _, _, rfl, hE912, ?_⟩
      have h12' := h11.to hE12
      have s10 := h10.ext.size
      have hb412 := hb4.ext hE12
      refine setAll (wideM m gm Lm.length).cells 0 w12 _ _ hb412 rfl fun w13 hz13 hm13 hb4' => ?_
      have n1 := h10.b1.lt
      have n2 := h10.b2.lt
      have n3 := h10.b3.lt
      have n4 := h10.bw.lt
      have n5 := h10.bm.lt
      have hownB13 := own_mod hownB hm13 (own_ty hownB hb412 (by decide))
      refine again_turn (h12'.at hm13 (by omega) (by omega) (by omega) (by omega) (by omega) (by omega)) hT hl htn hs hd (by omega) (by omega) (by omega) hb4' (by omega) (by omega) (by omega) (by omega) (by omega) (by omega) (own_cells hownB13) (fun a ha h0 => ?_) hK
      have := own_new hownB13 a.block (by
        obtain ⟨_, _, hv, _, hz, hq⟩ := own_form hownB13
        injection hv with e1 _ _
        rcases hz with hz | ⟨g, hg, hg1, hg2⟩
        · omega
        · rw [← e1] at hg
          rw [ha] at hg ⊢
          cases hg
          rfl)
      omega
  rintro _ w9 hE9
  unfold weirlaw8_IcmpAgain_J31
  refine awake_spec.mono ?_
  rintro _ w10 ⟨hE10, rfl⟩
  exact ⟨_, rfl, rfl, hE9.ext hE10⟩
end
end Nd
end Go.Proofs.YtjngdcilnipjcaaDoor
