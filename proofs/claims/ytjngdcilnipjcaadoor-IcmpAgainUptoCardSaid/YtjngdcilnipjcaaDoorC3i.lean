/- Contracts of package view's Fields and what it stands on. -/
import Derived.Test.YtjngdcilnipjcaaDoorC2i
import Derived.Test.YtjngdcilnipjcaaDoorPlain2
namespace Go.Proofs.YtjngdcilnipjcaaDoor
open Go.Eng Go.RowKit

theorem tyInt : TypeIs Tryd.prog 3 (.int .i64 0) 1 8 := .of (by kernel_rfl)
theorem tyByte : TypeIs Tryd.prog 5 (.int .u8 0) 1 1 := .of (by kernel_rfl)

theorem bits_yes {A : Option Addr} {n c : Nat} {ws : List Int} {w : World} (hb : Cells w A (ws.map (.int .i64))) (hl : ws.length = n) (h : widthsOk ws) :
    Calls Tryd.prog 88 #[.slice A n c] w fun e w' => w = w' ∧ e = .returned (.tuple #[.int .i64 (psum ws / 8), .int .i64 0]) := by
  obtain ⟨h64, hW, h8⟩ := h
  refine view_bits_of A n c w _ ?_
  unfold view_bits_VC
  refine Br.no (by omega) ?_
  refine LoopVC.of (fun s w1 => w = w1 ∧ ∃ i : Nat, i ≤ n ∧ s = (psum (ws.take i), (i : Int))) (fun s _ => (n - s.2).toNat) ⟨rfl, 0, by omega, rfl⟩ ?_
  rintro _ w1 ⟨rfl, i, hi, rfl⟩
  have hb1 := psum_bound (hW.take i)
  have hle : (ws.take i).length ≤ 64 := by rw [List.length_take]; omega
  show view_bits_L122 _ A n (psum (ws.take i)) (i : Int) w _
  unfold view_bits_L122
  refine Br.dec (fun h1 => ?_) (fun h1 => ?_)
  · refine IdxVC.int hb (by omega) (by omega) hl fun a hc => ⟨_, hc, ?_⟩
    have hil : i < ws.length := by omega
    have hx := hW ws[i] (List.getElem_mem hil)
    rw [getD_cast _ _ hil]
    refine Br.no (by omega) (Br.no (by omega) ?_)
    have e2 : psum (ws.take (i + 1)) = psum (ws.take i) + ws[i] := by
      rw [List.take_succ_eq_append_getElem hil, psum_snoc]
    refine ⟨⟨rfl, i + 1, by omega, ?_⟩, ?_⟩
    · rw [w64 (n := psum (ws.take i) + ws[i]) (by omega) (by omega), w64 (n := (i : Int) + 1) (by omega) (by omega), e2]; simp
    · simp only
      rw [w64 (n := (i : Int) + 1) (by omega) (by omega)]; omega
  · have hin : i = ws.length := by omega
    subst hin
    rw [List.take_length] at hb1 ⊢
    have e8 : Int.tmod (psum ws) 8 = 0 := by rw [Int.tmod_eq_emod_of_nonneg hb1.1]; exact h8
    rw [e8]
    refine Br.no (by decide) ⟨rfl, ?_⟩
    rw [Int.tdiv_eq_ediv_of_nonneg hb1.1, w64 (by omega) (by omega)]
theorem bits_no {A : Option Addr} {n c : Nat} {ws : List Int} {w : World} (hb : Cells w A (ws.map (.int .i64))) (hl : ws.length = n) (h : ¬ widthsOk ws) :
    Calls Tryd.prog 88 #[.slice A n c] w fun e w' => w = w' ∧ e = .returned (.tuple #[.int .i64 0, .int .i64 11]) := by
  refine view_bits_of A n c w _ ?_
  unfold view_bits_VC
  refine Br.dec (fun _ => ⟨rfl, rfl⟩) (fun h64 => ?_)
  refine LoopVC.of (fun s w1 => w = w1 ∧ ∃ i : Nat, i ≤ n ∧ s = (psum (ws.take i), (i : Int)) ∧ W32 (ws.take i)) (fun s _ => (n - s.2).toNat) ⟨rfl, 0, by omega, rfl, fun x hx => by simp at hx⟩ ?_
  rintro _ w1 ⟨rfl, i, hi, rfl, hWi⟩
  have hb1 := psum_bound hWi
  have hle : (ws.take i).length ≤ 64 := by rw [List.length_take]; omega
  show view_bits_L122 _ A n (psum (ws.take i)) (i : Int) w _
  unfold view_bits_L122
  refine Br.dec (fun h1 => ?_) (fun h1 => ?_)
  · refine IdxVC.int hb (by omega) (by omega) hl fun a hc => ⟨_, hc, ?_⟩
    have hil : i < ws.length := by omega
    rw [getD_cast _ _ hil]
    refine Br.dec (fun _ => ⟨rfl, rfl⟩) (fun h2 => Br.dec (fun _ => ⟨rfl, rfl⟩) (fun h3 => ?_))
    have e2 : psum (ws.take (i + 1)) = psum (ws.take i) + ws[i] := by
      rw [List.take_succ_eq_append_getElem hil, psum_snoc]
    refine ⟨⟨rfl, i + 1, by omega, ?_, ?_⟩, ?_⟩
    · rw [w64 (n := psum (ws.take i) + ws[i]) (by omega) (by omega), w64 (n := (i : Int) + 1) (by omega) (by omega), e2]; simp
    · intro x hx
      rw [List.take_succ_eq_append_getElem hil] at hx
      rcases List.mem_append.1 hx with hx | hx
      · exact hWi x hx
      · simp at hx; omega
    · simp only
      rw [w64 (n := (i : Int) + 1) (by omega) (by omega)]; omega
  · have hin : i = ws.length := by omega
    subst hin
    rw [List.take_length] at hb1 hWi ⊢
    have e8 : Int.tmod (psum ws) 8 ≠ 0 := by
      rw [Int.tmod_eq_emod_of_nonneg hb1.1]
      exact fun e => h ⟨by omega, hWi, e⟩
    exact Br.yes e8 ⟨rfl, rfl⟩

/-- What Fields answers. -/
theorem fields_inner {bs : List Int} {A : Option Addr} {n c B : Nat} {wide : Int} {w : World}
    {R : Ending → World → Prop} {g1 g2 g3 : Nat} {t30 : Int} {K : Int × Int → World → Prop}
    (hb : Cells w A (bs.map (.int .u8))) (hl : bs.length = n) (hB : Bts bs) (hw0 : 1 ≤ wide) (hw1 : wide ≤ 32) (hfit : (B : Int) + wide ≤ 8 * n) (hn : n ≤ 4096)
    (hend : view_Fields_L1042842 R g1 g2 g3 A n c t30 K wide ((B : Int) + wide) (fieldV (bitAt bs) B wide.toNat) wide w (fun _ _ => False)) :
    LoopVC (S := Int × Int × Int) (fun s w12 K1042842 => view_Fields_L1042842 R g1 g2 g3 A n c t30 K wide s.1 s.2.1 s.2.2 w12 K1042842) ((B : Int), 0, 0) w := by
  refine LoopVC.of (fun s w' => w = w' ∧ ∃ k : Nat, (k : Int) ≤ wide ∧ s = ((B : Int) + k, fieldV (bitAt bs) B k, (k : Int))) (fun s _ => (wide - s.2.2).toNat) ⟨rfl, 0, by omega, by simp [fieldV]⟩ ?_
  rintro _ w1 ⟨rfl, k, hk, rfl⟩
  by_cases h : (k : Int) < wide
  · show view_Fields_L1042842 R g1 g2 g3 A n c t30 K wide ((B : Int) + k) (fieldV (bitAt bs) B k) (k : Int) w _
    unfold view_Fields_L1042842
    refine Br.yes h ?_
    have e1 : Int.tdiv ((B : Int) + k) 8 = (((B + k) / 8 : Nat) : Int) := by
      rw [Int.tdiv_eq_ediv_of_nonneg (by omega)]; omega
    rw [e1, w64 (n := (((B + k) / 8 : Nat) : Int)) (by omega) (by omega)]
    refine (look_yes hb hl (by omega) (by omega)).mono ?_
    rintro _ w2 ⟨rfl, rfl⟩
    have hlt : (B + k) / 8 < bs.length := by omega
    have hx := hB.at hlt
    rw [getD_cast _ _ hlt]
    refine ⟨_, rfl, ?_, rfl, ?_⟩
    · have e1 : Int.tmod ((B : Int) + k) 8 = (((B + k) % 8 : Nat) : Int) := by rw [Int.tmod_eq_emod_of_nonneg (by omega)]; omega
      rw [e1, wu64 (n := (((B + k) % 8 : Nat) : Int)) (by omega) (by omega), wu64 (by omega) (by omega)]
      omega
    · have hb := fieldV_bound (f := bitAt bs) (bitAt_01 bs) B k
      have hp := pow2_32 (n := k) (by omega)
      have hr := bit_read hx.1 hx.2 (B + k)
      rw [show ((B + k : Nat) : Int) = (B : Int) + k by omega] at hr
      rw [hr]
      have hbit : (bs[(B + k) / 8] / 2 ^ (7 - (B + k) % 8)) % 2 = bitAt bs (B + k) := by
        unfold bitAt; simp [hlt]
      have h01 := bitAt_01 bs (B + k)
      rw [hbit, bit_join hb.1 (by omega) h01.1 h01.2, w64 (n := (B : Int) + k + 1) (by omega) (by omega), w64 (n := (k : Int) + 1) (by omega) (by omega)]
      refine ⟨⟨rfl, k + 1, by omega, ?_⟩, by simp only; omega⟩
      simp only [fieldV]
      rw [show (B : Int) + k + 1 = (B : Int) + ((k + 1 : Nat) : Int) by omega, show ((k + 1 : Nat) : Int) = (k : Int) + 1 by omega]
  · have hkw : (k : Int) = wide := by omega
    have hk2 : k = wide.toNat := by omega
    have := hend
    show view_Fields_L1042842 R g1 g2 g3 A n c t30 K wide ((B : Int) + k) (fieldV (bitAt bs) B k) (k : Int) w _
    rw [← hk2, ← hkw] at this
    rw [← hkw]
    unfold view_Fields_L1042842 at this ⊢
    rw [decide_eq_false (by omega)] at this ⊢
    exact this

/-- Fields, where it answers: the values lie in a row of the caller's own. -/
theorem fields_yes {A W : Option Addr} {n c m d : Nat} {p : Int} {bs ws : List Int} {w : World} (hb : Cells w A (bs.map (.int .u8))) (hl : bs.length = n) (hB : Bts bs) (hc : n ≤ c) (hn : n ≤ 140737488355328)
    (hws : Cells w W (ws.map (.int .i64))) (hm : ws.length = m) (hok : widthsOk ws) (h0 : 0 ≤ p) (h1 : p + psum ws / 8 ≤ n) :
    Calls Tryd.prog 65 #[.slice A n c, .int .i64 p, .slice W m d] w fun e w' => Ext w w' ∧ ∃ A' c', e = .returned (.tuple #[.slice A' m c', .int .i64 (p + psum ws / 8), .int .i64 0]) ∧
      w'.ownsRow w.heap.size 3 1 (.slice A' m c') m ((fieldsV (bitAt ((bs.drop p.toNat).take (psum ws / 8).toNat)) 0 ws).map (.int .i64)) := by
  have hW := hok.2.1
  have hpb := psum_bound hW
  have h64 : ws.length ≤ 64 := hok.1
  have h8 := hok.2.2
  refine view_Fields_of A n c p W m d w _ ?_
  unfold view_Fields_VC
  refine NewVC.blk fun g1 w1 hg1 hz1 hE1 hb1 => NewVC.blk fun g2 w2 hg2 hz2 hE2 hb2 => NewVC.blk fun g3 w3 hg3 hz3 hE3 hb3 => ?_
  have hE : Ext w w3 := (hE1.ext hE2).ext hE3
  have hb1 := (hb1.ext hE2).ext hE3
  have hb2 := hb2.ext hE3
  refine (bits_yes (hws.ext hE) hm hok).mono ?_
  rintro _ w4 ⟨rfl, rfl⟩
  refine ⟨_, _, rfl, ?_⟩
  refine SetVC.blk hb3 (by simp) fun w5 hz5 hm5 hb3 => ?_
  have hb1 := hb1.mod hm5 (show ¬ g1 = g3 by omega)
  have hb2 := hb2.mod hm5 (show ¬ g2 = g3 by omega)
  have hE5 : Ext w w5 := hE.trans' hm5 (fun i hi e => by omega)
  refine ⟨_, hb3.cell 0, Br.no (by simp) ?_⟩
  refine (part_yes (hb.ext hE5) (by simpa using hl) hc (by omega) h0 (by omega) h1).mono ?_
  rintro _ w10 ⟨rfl, A1, rfl, -, hA1⟩
  refine ⟨_, _, _, rfl, ?_⟩
  have hbA : Cells w A1 (((bs.map (Value.int .u8)).drop p.toNat).take (psum ws / 8).toNat) := by rw [hA1]; exact hb.win
  generalize hbs : (bs.drop p.toNat).take (psum ws / 8).toNat = ds
  have hds : ds.length = (psum ws / 8).toNat := by subst hbs; rw [List.length_take, List.length_drop]; omega
  have hdB : Bts ds := by subst hbs; exact (hB.drop _).take _
  have hdc : Cells w A1 (ds.map (.int .u8)) := by
    subst hbs; rw [List.map_take, List.map_drop]; exact hbA
  obtain ⟨i3, hi3, hz3', hs3, hy3⟩ := tyInt
  have hg1w : w.heap.size ≤ g1 := by omega
  have hg15 : g1 < w5.heap.size := hb1.lt
  have hg25 : g2 < w5.heap.size := hb2.lt
  have hg35 : g3 < w5.heap.size := hb3.lt
  refine LoopVC.of (fun s w' => ∃ (i : Nat) (A2 : Option Addr) (c2 : Nat), i ≤ m ∧ s = (psum (ws.take i), (i : Int)) ∧ Ext w w' ∧ Mod (fun k => k = g1) w5 w' ∧
      Blk w' g1 108 [.slice A2 i c2] ∧ w'.ownsRow w5.heap.size 3 1 (.slice A2 i c2) i ((fieldsV (bitAt ds) 0 (ws.take i)).map (.int .i64))) (fun s _ => (m - s.2).toNat) ?_ ?_
  · exact ⟨0, none, 0, by omega, rfl, hE5, Mod.refl _ _, hb1, World.ownsRow_nil _ _ _ _⟩
  · rintro _ w11 ⟨i, A2, c2, him, rfl, hE11, hM11, hb1, hown⟩
    show view_Fields_L1018 _ p W m g1 g2 g3 (psum ws / 8) A1 (psum ws / 8).toNat (psum ws / 8).toNat (psum (ws.take i)) (i : Int) w11 _
    unfold view_Fields_L1018
    have hz11 := hM11.size
    refine Br.dec (fun hlt => ?_) (fun hge => ?_)
    · have hil : i < ws.length := by omega
      refine IdxVC.int (hws.ext hE11) (by omega) hlt hm fun a hc => ⟨_, hc, ?_⟩
      rw [getD_cast _ _ hil]
      have hwi := hW ws[i] (List.getElem_mem hil)
      have hsn : psum (ws.take (i + 1)) = psum (ws.take i) + ws[i] := by rw [List.take_succ_eq_append_getElem hil, psum_snoc]
      have hle := psum_take_le hW (i + 1)
      have hp0 := psum_bound (hW.take i)
      obtain ⟨B, hBe⟩ := Int.eq_ofNat_of_zero_le hp0.1
      rw [hBe]
      refine fields_inner (hdc.ext hE11) hds hdB hwi.1 hwi.2 (by omega) (by omega) ?_
      unfold view_Fields_L1042842
      refine Br.no (by omega) ⟨_, _, _, hb1.cell 0, ?_⟩
      refine NewVC.blk fun g4 w15 hg4 hz15 hE15 hb4 => ?_
      have hown15 := own_ext hown hE15
      have hb1' := hb1.ext hE15
      refine AppVC.own Tryd.underlying108 hi3 hz3' hs3 hy3 rfl (by decide) hown15 (by simpa using Cells.of_blk hb4 0) rfl (by simp [Value.oneCell']) (by omega) (by decide) (by omega) fun A3 c3 w16 hown16 hm16 hc3 => ?_
      have hz16 := hm16.size
      have hnb : ¬ some g1 = (Value.slice A2 i c2).ownBlock := fun e => by
        have := own_new hown15 g1 e.symm; omega
      have hb1 := hb1'.mod hm16 hnb
      refine SetVC.blk hb1 (by simp) fun w17 hz17 hm17 hb1 => ?_
      refine ⟨rfl, ⟨i + 1, A3, c3, by omega, ?_, ?_, ?_, hb1, ?_⟩, ?_⟩
      · rw [w64 (n := (i : Int) + 1) (by omega) (by omega), hsn, hBe]; simp
      · refine (((hE11.ext hE15).trans' hm16 fun k hk e => ?_).trans' hm17 fun k hk e => ?_)
        · have := own_new hown15 k e.symm; have := hE5.size; omega
        · omega
      · refine (((hM11.ext hE15).trans' hm16 fun k hk e => ?_).trans' hm17 fun k hk e => e)
        have := own_new hown15 k e.symm; omega
      · rw [List.take_succ_eq_append_getElem hil, fieldsV_snoc _ _ _ _ (hW.take i), List.map_append]
        have := own_mod hown16 hm17 (fun g hg e => by have := own_new hown16 g hg; omega)
        have e2 : (0 + (psum (ws.take i)).toNat) = B := by omega
        rw [e2]
        simpa using this
      · simp only
        rw [w64 (n := (i : Int) + 1) (by omega) (by omega)]; omega
    · have him' : i = m := by omega
      subst him'
      refine ⟨_, _, _, hb1.cell 0, ?_⟩
      have hb2 := hb2.mod hM11 (show ¬ g2 = g1 by omega)
      have hb3 := hb3.mod hM11 (show ¬ g3 = g1 by omega)
      refine SetVC.blk hb1 (by simp) fun w18 hz18 hm18 hb1 => ?_
      have hb2 := hb2.mod hm18 (show ¬ g2 = g1 by omega)
      have hb3 := hb3.mod hm18 (show ¬ g3 = g1 by omega)
      refine SetVC.blk hb2 (by simp) fun w19 hz19 hm19 hb2 => ?_
      have hb1 := hb1.mod hm19 (show ¬ g1 = g2 by omega)
      have hb3 := hb3.mod hm19 (show ¬ g3 = g2 by omega)
      refine SetVC.blk hb3 (by simp) fun w20 hz20 hm20 hb3 => ?_
      have hb1 := hb1.mod hm20 (show ¬ g1 = g3 by omega)
      have hb2 := hb2.mod hm20 (show ¬ g2 = g3 by omega)
      refine leave_ret rfl nofun fields_idle rfl ?_
      refine ⟨_, _, _, hb1.cell 0, _, hb2.cell 0, _, hb3.cell 0, ?_, A2, c2, ?_, ?_⟩
      · exact ((hE11.trans' hm18 fun k hk e => by omega).trans' hm19 fun k hk e => by omega).trans' hm20 fun k hk e => by omega
      · rw [w64 (n := p + psum ws / 8) (by omega) (by omega)]
      · have h1 := own_mod hown hm18 (fun g hg e => by have := own_new hown g hg; omega)
        have h2 := own_mod h1 hm19 (fun g hg e => by have := own_new hown g hg; omega)
        have h3 := own_mod h2 hm20 (fun g hg e => by have := own_new hown g hg; omega)
        rw [← hm, List.take_length] at h3
        rw [← hm]
        exact own_base h3 hE5.size
end Go.Proofs.YtjngdcilnipjcaaDoor
