/- Contracts of package view's Fields and what it stands on. -/
import Derived.Test.YthhgbpmihhljdaaDoorBaj
import Derived.Test.YthhgbpmihhljdaaDoorBai
import Derived.Test.YthhgbpmihhljdaaDoorBaf
namespace Go.Proofs.YthhgbpmihhljdaaDoor
open Go.Eng Go.RowKit

theorem tyInt : TypeIs Tryd.prog 3 (.int .i64 0) 1 8 := .of (by kernel_rfl)

theorem bits_yes {A : Option Addr} {n c : Nat} {ws : List Int} {w : World} (hb : Cells w A (ws.map (.int .i64))) (hl : ws.length = n) (h : widthsOk ws) :
    Calls Tryd.prog 56 #[.slice A n c] w fun e w' => w = w' ∧ e = .returned (.tuple #[.int .i64 (psum ws / 8), .int .i64 0]) := by
  obtain ⟨h64, hW, h8⟩ := h
  refine view_bits_of A n c w _ ?_
  unfold view_bits_VC
  refine Br.no (by omega) ?_
  refine LoopVC.of (fun s w1 => w = w1 ∧ ∃ i : Nat, i ≤ n ∧ s = (psum (ws.take i), (i : Int))) (fun s _ => (n - s.2).toNat) ⟨rfl, 0, by omega, rfl⟩ ?_
  rintro _ w1 ⟨rfl, i, hi, rfl⟩
  have hb1 := psum_bound (hW.take i)
  have hle : (ws.take i).length ≤ 64 := by rw [List.length_take]; omega
  show view_bits_L122 _ A n (psum (ws.take i)) (i : Int) w _
  unfold view_bits_L122
  refine Br.dec (fun h1 => ?_) (fun h1 => ?_)
  · refine IdxVC.int hb (by omega) (by omega) hl fun a hc => ⟨_, hc, ?_⟩
    have hil : i < ws.length := by omega
    have hx := hW ws[i] (List.getElem_mem hil)
    rw [getD_cast _ _ hil]
    refine Br.no (by omega) (Br.no (by omega) ?_)
    have e2 : psum (ws.take (i + 1)) = psum (ws.take i) + ws[i] := by
      rw [List.take_succ_eq_append_getElem hil, psum_snoc]
    refine ⟨⟨rfl, i + 1, by omega, ?_⟩, ?_⟩
    · rw [w64 (n := psum (ws.take i) + ws[i]) (by omega) (by omega), w64 (n := (i : Int) + 1) (by omega) (by omega), e2]; simp
    · simp only
      rw [w64 (n := (i : Int) + 1) (by omega) (by omega)]; omega
  · have hin : i = ws.length := by omega
    subst hin
    rw [List.take_length] at hb1 ⊢
    have e8 : Int.tmod (psum ws) 8 = 0 := by rw [Int.tmod_eq_emod_of_nonneg hb1.1]; exact h8
    rw [e8]
    refine Br.no (by decide) ⟨rfl, ?_⟩
    rw [Int.tdiv_eq_ediv_of_nonneg hb1.1, w64 (by omega) (by omega)]

/-- What Fields answers. -/
theorem fields_inner {bs : List Int} {A : Option Addr} {n c B : Nat} {wide : Int} {w : World}
    {R : Ending → World → Prop} {g1 g2 g3 : Nat} {t30 : Int} {K : Int × Int → World → Prop}
    (hb : Cells w A (bs.map (.int .u8))) (hl : bs.length = n) (hB : Bts bs) (hw0 : 1 ≤ wide) (hw1 : wide ≤ 32) (hfit : (B : Int) + wide ≤ 8 * n) (hn : n ≤ 4096)
    (hend : view_Fields_L1042842 R g1 g2 g3 A n c t30 K wide ((B : Int) + wide) (fieldV (bitAt bs) B wide.toNat) wide w (fun _ _ => False)) :
    LoopVC (S := Int × Int × Int) (fun s w12 K1042842 => view_Fields_L1042842 R g1 g2 g3 A n c t30 K wide s.1 s.2.1 s.2.2 w12 K1042842) ((B : Int), 0, 0) w := by
  refine LoopVC.of (fun s w' => w = w' ∧ ∃ k : Nat, (k : Int) ≤ wide ∧ s = ((B : Int) + k, fieldV (bitAt bs) B k, (k : Int))) (fun s _ => (wide - s.2.2).toNat) ⟨rfl, 0, by omega, by simp [fieldV]⟩ ?_
  rintro _ w1 ⟨rfl, k, hk, rfl⟩
  by_cases h : (k : Int) < wide
  · show view_Fields_L1042842 R g1 g2 g3 A n c t30 K wide ((B : Int) + k) (fieldV (bitAt bs) B k) (k : Int) w _
    unfold view_Fields_L1042842
    refine Br.yes h ?_
    have e1 : Int.tdiv ((B : Int) + k) 8 = (((B + k) / 8 : Nat) : Int) := by
      rw [Int.tdiv_eq_ediv_of_nonneg (by omega)]; omega
    rw [e1, w64 (n := (((B + k) / 8 : Nat) : Int)) (by omega) (by omega)]
    refine (look_yes hb hl (by omega) (by omega)).mono ?_
    rintro _ w2 ⟨rfl, rfl⟩
    have hlt : (B + k) / 8 < bs.length := by omega
    have hx := hB.at hlt
    rw [getD_cast _ _ hlt]
    refine ⟨_, rfl, ?_, rfl, ?_⟩
    · have e1 : Int.tmod ((B : Int) + k) 8 = (((B + k) % 8 : Nat) : Int) := by rw [Int.tmod_eq_emod_of_nonneg (by omega)]; omega
      rw [e1, wu64 (n := (((B + k) % 8 : Nat) : Int)) (by omega) (by omega), wu64 (by omega) (by omega)]
      omega
    · have hb := fieldV_bound (f := bitAt bs) (bitAt_01 bs) B k
      have hp := pow2_32 (n := k) (by omega)
      have hr := bit_read hx.1 hx.2 (B + k)
      rw [show ((B + k : Nat) : Int) = (B : Int) + k by omega] at hr
      rw [hr]
      have hbit : (bs[(B + k) / 8] / 2 ^ (7 - (B + k) % 8)) % 2 = bitAt bs (B + k) := by
        unfold bitAt; simp [hlt]
      have h01 := bitAt_01 bs (B + k)
      rw [hbit, bit_join hb.1 (by omega) h01.1 h01.2, w64 (n := (B : Int) + k + 1) (by omega) (by omega), w64 (n := (k : Int) + 1) (by omega) (by omega)]
      refine ⟨⟨rfl, k + 1, by omega, ?_⟩, by simp only; omega⟩
      simp only [fieldV]
      rw [show (B : Int) + k + 1 = (B : Int) + ((k + 1 : Nat) : Int) by omega, show ((k + 1 : Nat) : Int) = (k : Int) + 1 by omega]
  · have hkw : (k : Int) = wide := by omega
    have hk2 : k = wide.toNat := by omega
    have := hend
    show view_Fields_L1042842 R g1 g2 g3 A n c t30 K wide ((B : Int) + k) (fieldV (bitAt bs) B k) (k : Int) w _
    rw [← hk2, ← hkw] at this
    rw [← hkw]
    unfold view_Fields_L1042842 at this ⊢
    rw [decide_eq_false (by omega)] at this ⊢
    exact this

/-- Fields, where it answers: the values lie in a row of the caller's own. -/
theorem fields_yes {A W : Option Addr} {n c m d : Nat} {p : Int} {bs ws : List Int} {w : World} (hb : Cells w A (bs.map (.int .u8))) (hl : bs.length = n) (hB : Bts bs) (hc : n ≤ c) (hn : n ≤ 140737488355328)
    (hws : Cells w W (ws.map (.int .i64))) (hm : ws.length = m) (hok : widthsOk ws) (h0 : 0 ≤ p) (h1 : p + psum ws / 8 ≤ n) :
    Calls Tryd.prog 75 #[.slice A n c, .int .i64 p, .slice W m d] w fun e w' => Ext w w' ∧ ∃ A' c', e = .returned (.tuple #[.slice A' m c', .int .i64 (p + psum ws / 8), .int .i64 0]) ∧
      w'.ownsRow w.heap.size 3 1 (.slice A' m c') m ((fieldsV (bitAt ((bs.drop p.toNat).take (psum ws / 8).toNat)) 0 ws).map (.int .i64)) := by
  have hW := hok.2.1
  have hpb := psum_bound hW
  have h64 : ws.length ≤ 64 := hok.1
  have h8 := hok.2.2
  refine view_Fields_of A n c p W m d w _ ?_
  unfold view_Fields_VC
  refine NewVC.blk fun g1 w1 hg1 hz1 hE1 hb1 => NewVC.blk fun g2 w2 hg2 hz2 hE2 hb2 => NewVC.blk fun g3 w3 hg3 hz3 hE3 hb3 => ?_
  have hE : Ext w w3 := (hE1.ext hE2).ext hE3
  have hb1 := (hb1.ext hE2).ext hE3
  have hb2 := hb2.ext hE3
  refine (bits_yes (hws.ext hE) hm hok).mono ?_
  rintro _ w4 ⟨rfl, rfl⟩
  refine ⟨_, _, rfl, ?_⟩
  refine SetVC.blk hb3 (by simp) fun w5 hz5 hm5 hb3 => ?_
  have hb1 := hb1.mod hm5 (show ¬ g1 = g3 by omega)
  have hb2 := hb2.mod hm5 (show ¬ g2 = g3 by omega)
  have hE5 : Ext w w5 := hE.trans' hm5 (fun i hi e => by omega)
  refine ⟨_, hb3.cell 0, Br.no (by simp) ?_⟩
  refine (part_yes (hb.ext hE5) (by simpa using hl) hc (by omega) h0 (by omega) h1).mono ?_
  rintro _ w10 ⟨rfl, A1, rfl, -, hA1⟩
  refine ⟨_, _, _, rfl, ?_⟩
  have hbA : Cells w A1 (((bs.map (Value.int .u8)).drop p.toNat).take (psum ws / 8).toNat) := by rw [hA1]; exact hb.win
  generalize hbs : (bs.drop p.toNat).take (psum ws / 8).toNat = ds
  have hds : ds.length = (psum ws / 8).toNat := by subst hbs; rw [List.length_take, List.length_drop]; omega
  have hdB : Bts ds := by subst hbs; exact (hB.drop _).take _
  have hdc : Cells w A1 (ds.map (.int .u8)) := by
    subst hbs; rw [List.map_take, List.map_drop]; exact hbA
  obtain ⟨i3, hi3, hz3', hs3, hy3⟩ := tyInt
  have hg1w : w.heap.size ≤ g1 := by omega
  have hg15 : g1 < w5.heap.size := hb1.lt
  have hg25 : g2 < w5.heap.size := hb2.lt
  have hg35 : g3 < w5.heap.size := hb3.lt
  refine LoopVC.of (fun s w' => ∃ (i : Nat) (A2 : Option Addr) (c2 : Nat), i ≤ m ∧ s = (psum (ws.take i), (i : Int)) ∧ Ext w w' ∧ Mod (fun k => k = g1) w5 w' ∧
      Blk w' g1 24 [.slice A2 i c2] ∧ w'.ownsRow w5.heap.size 3 1 (.slice A2 i c2) i ((fieldsV (bitAt ds) 0 (ws.take i)).map (.int .i64))) (fun s _ => (m - s.2).toNat) ?_ ?_
  · exact ⟨0, none, 0, by omega, rfl, hE5, Mod.refl _ _, hb1, World.ownsRow_nil _ _ _ _⟩
  · rintro _ w11 ⟨i, A2, c2, him, rfl, hE11, hM11, hb1, hown⟩
    show view_Fields_L1018 _ p W m g1 g2 g3 (psum ws / 8) A1 (psum ws / 8).toNat (psum ws / 8).toNat (psum (ws.take i)) (i : Int) w11 _
    unfold view_Fields_L1018
    have hz11 := hM11.size
    refine Br.dec (fun hlt => ?_) (fun hge => ?_)
    · have hil : i < ws.length := by omega
      refine IdxVC.int (hws.ext hE11) (by omega) hlt hm fun a hc => ⟨_, hc, ?_⟩
      rw [getD_cast _ _ hil]
      have hwi := hW ws[i] (List.getElem_mem hil)
      have hsn : psum (ws.take (i + 1)) = psum (ws.take i) + ws[i] := by rw [List.take_succ_eq_append_getElem hil, psum_snoc]
      have hle := psum_take_le hW (i + 1)
      have hp0 := psum_bound (hW.take i)
      obtain ⟨B, hBe⟩ := Int.eq_ofNat_of_zero_le hp0.1
      rw [hBe]
      refine fields_inner (hdc.ext hE11) hds hdB hwi.1 hwi.2 (by omega) (by omega) ?_
      unfold view_Fields_L1042842
      refine Br.no (by omega) ⟨_, _, _, hb1.cell 0, ?_⟩
      refine NewVC.blk fun g4 w15 hg4 hz15 hE15 hb4 => ?_
      have hown15 := own_ext hown hE15
      have hb1' := hb1.ext hE15
      refine AppVC.own Tryd.underlying24 hi3 hz3' hs3 hy3 rfl (by decide) hown15 (by simpa using Cells.of_blk hb4 0) rfl (by simp [Value.oneCell']) (by omega) (by decide) (by omega) fun A3 c3 w16 hown16 hm16 hc3 => ?_
      have hz16 := hm16.size
      have hnb : ¬ some g1 = (Value.slice A2 i c2).ownBlock := fun e => by
        have := own_new hown15 g1 e.symm; omega
      have hb1 := hb1'.mod hm16 hnb
      refine SetVC.blk hb1 (by simp) fun w17 hz17 hm17 hb1 => ?_
      refine ⟨rfl, ⟨i + 1, A3, c3, by omega, ?_, ?_, ?_, hb1, ?_⟩, ?_⟩
      · rw [w64 (n := (i : Int) + 1) (by omega) (by omega), hsn, hBe]; simp
      · refine (((hE11.ext hE15).trans' hm16 fun k hk e => ?_).trans' hm17 fun k hk e => ?_)
        · have := own_new hown15 k e.symm; have := hE5.size; omega
        · omega
      · refine (((hM11.ext hE15).trans' hm16 fun k hk e => ?_).trans' hm17 fun k hk e => e)
        have := own_new hown15 k e.symm; omega
      · rw [List.take_succ_eq_append_getElem hil, fieldsV_snoc _ _ _ _ (hW.take i), List.map_append]
        have := own_mod hown16 hm17 (fun g hg e => by have := own_new hown16 g hg; omega)
        have e2 : (0 + (psum (ws.take i)).toNat) = B := by omega
        rw [e2]
        simpa using this
      · simp only
        rw [w64 (n := (i : Int) + 1) (by omega) (by omega)]; omega
    · have him' : i = m := by omega
      subst him'
      refine ⟨_, _, _, hb1.cell 0, ?_⟩
      have hb2 := hb2.mod hM11 (show ¬ g2 = g1 by omega)
      have hb3 := hb3.mod hM11 (show ¬ g3 = g1 by omega)
      refine SetVC.blk hb1 (by simp) fun w18 hz18 hm18 hb1 => ?_
      have hb2 := hb2.mod hm18 (show ¬ g2 = g1 by omega)
      have hb3 := hb3.mod hm18 (show ¬ g3 = g1 by omega)
      refine SetVC.blk hb2 (by simp) fun w19 hz19 hm19 hb2 => ?_
      have hb1 := hb1.mod hm19 (show ¬ g1 = g2 by omega)
      have hb3 := hb3.mod hm19 (show ¬ g3 = g2 by omega)
      refine SetVC.blk hb3 (by simp) fun w20 hz20 hm20 hb3 => ?_
      have hb1 := hb1.mod hm20 (show ¬ g1 = g3 by omega)
      have hb2 := hb2.mod hm20 (show ¬ g2 = g3 by omega)
      refine leave_ret rfl nofun fields_idle rfl ?_
      refine ⟨_, _, _, hb1.cell 0, _, hb2.cell 0, _, hb3.cell 0, ?_, A2, c2, ?_, ?_⟩
      · exact ((hE11.trans' hm18 fun k hk e => by omega).trans' hm19 fun k hk e => by omega).trans' hm20 fun k hk e => by omega
      · rw [w64 (n := p + psum ws / 8) (by omega) (by omega)]
      · have h1 := own_mod hown hm18 (fun g hg e => by have := own_new hown g hg; omega)
        have h2 := own_mod h1 hm19 (fun g hg e => by have := own_new hown g hg; omega)
        have h3 := own_mod h2 hm20 (fun g hg e => by have := own_new hown g hg; omega)
        rw [← hm, List.take_length] at h3
        rw [← hm]
        exact own_base h3 hE5.size
end Go.Proofs.YthhgbpmihhljdaaDoor
/- Contracts of package view's Fields where it refuses, and of Pack. -/
namespace Go.Eng
open Go Go.RowKit
theorem zeros_one (z : Value) : ∀ n, zeros [z] n = List.replicate n z
  | 0 => rfl
  | n + 1 => by simp [zeros, zeros_one z n, List.replicate_succ]
theorem MakeVC.blk {w : World} {e bytes : Nat} {z : Value} {l c : Int} {F : Nat → World → Prop} (h0 : 0 ≤ l) (h1 : l ≤ c) (h2 : bytes * c ≤ 281474976710656)
    (h : ∀ g w', g = w.heap.size → w'.heap.size = w.heap.size + 1 → Ext w w' → Blk w' g e (List.replicate c.toNat z) → F g w') : MakeVC w e bytes [z] l c F :=
  ⟨h0, h1, h2, NewVC.blk fun g w' hg hz hE hb => h g w' hg hz hE (by rw [zeros_one] at hb; simpa using hb)⟩
theorem IdxVC.blk {g n : Nat} {i : Int} {F : Addr → Prop} (h0 : 0 ≤ i) (h1 : i < n) (hF : F ⟨g, i.toNat, none⟩) : IdxVC (some ⟨g, 0, none⟩) n 1 i F :=
  ⟨_, rfl, h0, h1, by rw [addr_add]; simpa using hF⟩
theorem own_of_blk {w : World} {g base n c : Nat} {e : TypeId} {cs : List Value} (h : Blk w g e cs) (hb : base ≤ g) (hc : cs.length = c) (hn : n ≤ c) (hm : c ≤ maxLen) :
    w.ownsRow base e 1 (.slice (some ⟨g, 0, none⟩) n c) n (cs.take n) :=
  ⟨by simp [hc, hn], .inr ⟨g, c, cs.toArray, rfl, hb, h, hn, hm, by simp [hc], by simp⟩⟩
theorem and1_i64 {y : Int} (h0 : 0 ≤ y) (h1 : y < 9223372036854775808) : bitv .and .i64 y 1 = y % 2 := by
  obtain ⟨a, rfl⟩ := Int.eq_ofNat_of_zero_le h0
  unfold bitv
  simp only
  have e1 : (BitVec.ofInt IntKind.i64.bits (a : Int) &&& BitVec.ofInt IntKind.i64.bits 1).toNat = a % 2 := by
    rw [BitVec.toNat_and]
    have t1 : (BitVec.ofInt IntKind.i64.bits (a : Int)).toNat = a := by simp [IntKind.bits]; omega
    have t2 : (BitVec.ofInt IntKind.i64.bits 1).toNat = 1 := by decide
    rw [t1, t2, Nat.and_one_is_mod]
  rw [e1]
  have : ((a % 2 : Nat) : Int) = (a : Int) % 2 := by omega
  rw [this]
  exact w64 (by omega) (by omega)
theorem map_set {α β : Type} (f : α → β) (l : List α) (i : Nat) (a : α) : (l.map f).set i (f a) = (l.set i a).map f := by
  simp [List.map_set]
theorem bitAt_zeros (n q : Nat) : bitAt (List.replicate n 0) q = 0 := by
  unfold bitAt
  have : (List.replicate n (0 : Int)).getD (q / 8) 0 = 0 := by
    simp [List.getD_eq_getElem?_getD, List.getElem?_replicate]; split <;> rfl
  rw [this]; simp
theorem Bts.set {ds : List Int} (h : Bts ds) (i : Nat) {y : Int} (h0 : 0 ≤ y) (h1 : y < 256) : Bts (ds.set i y) := by
  intro x hx
  rcases List.mem_or_eq_of_mem_set hx with hx | rfl
  · exact h x hx
  · exact ⟨h0, h1⟩
end Go.Eng
namespace Go.Proofs.YthhgbpmihhljdaaDoor
open Go.Eng Go.RowKit

/-- Pack's inner loop: one value's bits. -/
theorem pack_inner {ws vs : List Int} {B g1 : Nat} {L wide v t31 : Int} {w0 : World} {K : Int × Int → World → Prop} {ds : List Int} {w : World} {i : Nat}
    (hM : Mod (fun k => k = g1) w0 w) (hb : Blk w g1 5 (ds.map (.int .u8))) (hl : (ds.length : Int) = L) (hB : Bts ds) (hw0 : 1 ≤ wide) (hw1 : wide ≤ 32) (hfit : (B : Int) + wide ≤ 8 * L) (hL : L ≤ 4096)
    (hv0 : 0 ≤ v) (hv1 : v < 2 ^ wide.toNat) (hz : ∀ q, B ≤ q → bitAt ds q = 0) (hW : W32 (ws.take i)) (hpB : (psum (ws.take i)).toNat = B) (hf : fieldsV (bitAt ds) 0 (ws.take i) = vs.take i)
    (hend : ∀ w' ds', Mod (fun k => k = g1) w0 w' → Blk w' g1 5 (ds'.map (.int .u8)) → ds'.length = ds.length → Bts ds' → (∀ q, B + wide.toNat ≤ q → bitAt ds' q = 0) → fieldsV (bitAt ds') 0 (ws.take i) = vs.take i →
      fieldV (bitAt ds') B wide.toNat = v → K ((B : Int) + wide, IntKind.i64.wrap (t31 + 1)) w') :
    LoopVC (S := Int × Int) (fun s w4 K1042846 => view_Pack_L1042846 L g1 t31 K v s.1 s.2 w4 K1042846) ((B : Int), IntKind.i64.wrap (wide - 1)) w := by
  rw [w64 (n := wide - 1) (by omega) (by omega)]
  refine LoopVC.of (fun s w' => ∃ (j : Nat) (ds' : List Int), (j : Int) ≤ wide ∧ s = ((B : Int) + j, wide - 1 - j) ∧ Mod (fun k => k = g1) w0 w' ∧ Blk w' g1 5 (ds'.map (.int .u8)) ∧ ds'.length = ds.length ∧ Bts ds' ∧
    (∀ q, B + j ≤ q → bitAt ds' q = 0) ∧ fieldsV (bitAt ds') 0 (ws.take i) = vs.take i ∧ fieldV (bitAt ds') B j = v / 2 ^ (wide.toNat - j)) (fun s _ => (s.2 + 1).toNat) ?_ ?_
  · refine ⟨0, ds, by omega, by simp, hM, hb, rfl, hB, fun q hq => hz q (by omega), hf, ?_⟩
    simp only [fieldV, Nat.sub_zero]
    rw [Int.ediv_eq_zero_of_lt hv0 hv1]
  · rintro _ w4 ⟨j, ds', hj, rfl, hM, hb, hl', hB', hz', hf', hfv⟩
    show view_Pack_L1042846 L g1 t31 K v ((B : Int) + j) (wide - 1 - j) w4 _
    unfold view_Pack_L1042846
    refine Br.dec (fun hk => ?_) (fun hk => ?_)
    · have e1 : Int.tdiv ((B : Int) + j) 8 = (((B + j) / 8 : Nat) : Int) := by rw [Int.tdiv_eq_ediv_of_nonneg (by omega)]; omega
      have e2 : Int.tmod ((B : Int) + j) 8 = (((B + j) % 8 : Nat) : Int) := by rw [Int.tmod_eq_emod_of_nonneg (by omega)]; omega
      rw [e1, e2, w64 (n := (((B + j) / 8 : Nat) : Int)) (by omega) (by omega), wu64 (n := (((B + j) % 8 : Nat) : Int)) (by omega) (by omega),
        wu64 (n := 7 - (((B + j) % 8 : Nat) : Int)) (by omega) (by omega), wu64 (n := wide - 1 - (j : Int)) (by omega) (by omega)]
      have hlt : (B + j) / 8 < ds'.length := by omega
      refine IdxVC.blk (by omega) (by omega) ?_
      rw [Int.toNat_natCast]
      refine ⟨ds'[(B + j) / 8], by rw [hb.cell]; simp [hlt], by omega, by omega, ?_⟩
      refine IdxVC.blk (by omega) (by omega) ?_
      rw [Int.toNat_natCast]
      have ek : (min (wide - 1 - (j : Int)).toNat 64) = wide.toNat - (j + 1) := by omega
      have em : (min (7 - (((B + j) % 8 : Nat) : Int)).toNat 8) = 7 - (B + j) % 8 := by omega
      rw [ek, em]
      have hdv : Int.fdiv v (2 ^ (wide.toNat - (j + 1))) = v / 2 ^ (wide.toNat - (j + 1)) := Int.fdiv_eq_ediv_of_nonneg _ (Int.pow_nonneg (by decide))
      have hp := pow2_32 (n := wide.toNat) (by omega)
      have hdb : 0 ≤ v / 2 ^ (wide.toNat - (j + 1)) := Int.ediv_nonneg hv0 (Int.pow_nonneg (by decide))
      have hdb2 : v / 2 ^ (wide.toNat - (j + 1)) ≤ v := Int.ediv_le_self _ hv0
      rw [hdv, and1_i64 hdb (by omega)]
      generalize hbe : (v / 2 ^ (wide.toNat - (j + 1))) % 2 = b
      have hb0 : 0 ≤ b := by omega
      have hb1 : b < 2 := by omega
      have hx := hB'.at hlt
      have hzb : (ds'[(B + j) / 8] / 2 ^ (7 - (B + j) % 8)) % 2 = 0 := by
        have := hz' (B + j) (by omega)
        unfold bitAt at this
        simpa [hlt] using this
      obtain ⟨y0, y1, hy⟩ := or_bit (m := 7 - (B + j) % 8) hx.1 hx.2 (by omega) hb0 hb1 hzb
      rw [wu8 (n := b) hb0 (by omega)]
      generalize bitv .or .u8 ds'[(B + j) / 8] (IntKind.u8.wrap (b * 2 ^ (7 - (B + j) % 8))) = y at y0 y1 hy
      have hbs := bitAt_set hlt hy
      refine SetVC.blk hb (by simp [hlt]) fun w5 hz5 hm5 hb5 => ?_
      rw [map_set] at hb5
      rw [w64 (n := (B : Int) + j + 1) (by omega) (by omega), w64 (n := wide - 1 - (j : Int) - 1) (by omega) (by omega)]
      refine ⟨⟨j + 1, ds'.set ((B + j) / 8) y, by omega, ?_, hM.trans hm5, hb5, by simpa using hl', hB'.set _ y0 y1, ?_, ?_, ?_⟩, ?_⟩
      · rw [Prod.mk.injEq]; constructor <;> omega
      · intro q hq
        rw [hbs, if_neg (by omega)]
        exact hz' q (by omega)
      · rw [← hf']
        refine fieldsV_congr _ _ hW fun q hq => ?_
        rw [hbs, if_neg (by omega)]
      · simp only [fieldV]
        rw [hbs, if_pos rfl]
        have hc : fieldV (bitAt (ds'.set ((B + j) / 8) y)) B j = fieldV (bitAt ds') B j := fieldV_congr _ _ _ fun q hq => by
          rw [hbs, if_neg (by omega)]
        rw [hc, hfv, ← hbe]
        have := half_join v (wide.toNat - (j + 1)) hv0
        rwa [show wide.toNat - (j + 1) + 1 = wide.toNat - j by omega] at this
      · simp only; omega
    · have hjw : (j : Int) = wide := by omega
      have hj2 : j = wide.toNat := by omega
      have hfv2 : fieldV (bitAt ds') B wide.toNat = v := by rw [← hj2, hfv, ← hj2]; simp
      rw [hjw]
      exact hend w4 ds' hM hb hl' hB' (by rw [← hj2]; exact hz') hf' hfv2

theorem pack_ok {A W : Option Addr} {n c m d : Nat} {ws vs : List Int} {w : World} (hws : Cells w W (ws.map (.int .i64))) (hm : ws.length = m) (hvs : Cells w A (vs.map (.int .i64))) (hn : vs.length = n)
    (hok : widthsOk ws) (hnm : n = m) :
    Calls Tryd.prog 46 #[.slice W m d, .slice A n c] w fun e w' => Ext w w' ∧
      ((valuesOk ws vs ∧ ∃ A' ds, Packed ws vs ds ∧ e = .returned (.tuple #[.slice A' ds.length ds.length, .int .i64 0]) ∧ w'.ownsRow w.heap.size 5 1 (.slice A' ds.length ds.length) ds.length (ds.map (.int .u8))) ∨
       (¬ valuesOk ws vs ∧ e = .returned (.tuple #[.slice none 0 0, .int .i64 12]))) := by
  have hW := hok.2.1
  have hpb := psum_bound hW
  have h64 : ws.length ≤ 64 := hok.1
  have h8 := hok.2.2
  refine view_Pack_of W m d A n c w _ ?_
  unfold view_Pack_VC
  refine (bits_yes hws hm hok).mono ?_
  rintro _ w1 ⟨rfl, rfl⟩
  refine ⟨_, _, rfl, Br.no (by omega) (Br.no (by omega) ?_)⟩
  refine MakeVC.blk (by omega) (by omega) (by omega) fun g1 w2 hg1 hz2 hE2 hb => ?_
  refine LoopVC.of (fun s w' => ∃ (i : Nat) (ds : List Int), i ≤ m ∧ s = (psum (ws.take i), (i : Int)) ∧ Mod (fun k => k = g1) w2 w' ∧ Blk w' g1 5 (ds.map (.int .u8)) ∧ (ds.length : Int) = psum ws / 8 ∧ Bts ds ∧
    (∀ q, (psum (ws.take i)).toNat ≤ q → bitAt ds q = 0) ∧ fieldsV (bitAt ds) 0 (ws.take i) = vs.take i ∧ (∀ j, j < i → 0 ≤ vs.getD j 0 ∧ vs.getD j 0 < 2 ^ (ws.getD j 0).toNat)) (fun s _ => (m - s.2).toNat) ?_ ?_
  · refine ⟨0, List.replicate (psum ws / 8).toNat 0, by omega, by simp [psum], Mod.refl _ _, by simpa using hb, by simp; omega, ?_, fun q _ => bitAt_zeros _ _, by simp [fieldsV], fun j hj => by omega⟩
    intro x hx
    have := List.eq_of_mem_replicate hx
    omega
  · rintro _ w3 ⟨i, ds, him, rfl, hM, hb, hl, hB, hz, hf, hvok⟩
    have hE3 : Ext w w3 := hE2.trans' hM fun k hk e => by omega
    show view_Pack_L1018 _ W m A n (psum ws / 8) g1 (psum (ws.take i)) (i : Int) w3 _
    unfold view_Pack_L1018
    refine Br.dec (fun hlt => ?_) (fun hge => ?_)
    · have hil : i < ws.length := by omega
      have hiv : i < vs.length := by omega
      have hwi := hW ws[i] (List.getElem_mem hil)
      refine IdxVC.int (hws.ext hE3) (by omega) hlt hm fun a hc => ⟨_, hc, ?_⟩
      refine IdxVC.int (hvs.ext hE3) (by omega) (by omega) hn fun a1 hc1 => ⟨_, hc1, ?_⟩
      rw [getD_cast _ _ hil, getD_cast _ _ hiv]
      have gw : ws.getD i 0 = ws[i] := by simp [hil]
      have gv : vs.getD i 0 = vs[i] := by simp [hiv]
      refine Br.dec (fun hneg => ⟨hE3, .inr ⟨fun hv => ?_, rfl⟩⟩) (fun hneg => ⟨by rw [wu64 (by omega) (by omega)]; omega, ?_⟩)
      · have := hv.2 i hil; omega
      rw [wu64 (n := ws[i]) (by omega) (by omega)]
      have ek : min (ws[i]).toNat 64 = (ws[i]).toNat := by omega
      have hdv : Int.fdiv vs[i] (2 ^ (ws[i]).toNat) = vs[i] / 2 ^ (ws[i]).toNat := Int.fdiv_eq_ediv_of_nonneg _ (Int.pow_nonneg (by decide))
      have hpos : (0 : Int) < 2 ^ (ws[i]).toNat := Int.pow_pos (by decide)
      rw [ek, hdv]
      refine Br.dec (fun hbig => ⟨hE3, .inr ⟨fun hv => hbig ?_, rfl⟩⟩) (fun hsm => ?_)
      · have := hv.2 i hil
        rw [gv, gw] at this
        exact Int.ediv_eq_zero_of_lt this.1 this.2
      have hvlt : vs[i] < 2 ^ (ws[i]).toNat := by
        have h0 : vs[i] / 2 ^ (ws[i]).toNat = 0 := by simpa using hsm
        have h1 := Int.mul_ediv_add_emod vs[i] (2 ^ (ws[i]).toNat)
        have h2 := Int.emod_lt_of_pos vs[i] hpos
        rw [h0, Int.mul_zero, Int.zero_add] at h1
        omega
      have hp0 := psum_bound (hW.take i)
      have hsn : psum (ws.take (i + 1)) = psum (ws.take i) + ws[i] := by rw [List.take_succ_eq_append_getElem hil, psum_snoc]
      have hle := psum_take_le hW (i + 1)
      obtain ⟨B, hBe⟩ := Int.eq_ofNat_of_zero_le hp0.1
      rw [hBe]
      refine pack_inner (ws := ws) (vs := vs) (i := i) hM hb hl hB hwi.1 hwi.2 (by omega) (by omega) (by omega) hvlt (fun q hq => hz q (by omega)) (hW.take i) (by omega) hf ?_
      intro w' ds' hM' hb' hl' hB' hz' hf' hfv'
      refine ⟨⟨i + 1, ds', by omega, ?_, hM', hb', by omega, hB', ?_, ?_, ?_⟩, ?_⟩
      · rw [w64 (n := (i : Int) + 1) (by omega) (by omega), hsn, hBe]; simp
      · intro q hq; exact hz' q (by omega)
      · rw [List.take_succ_eq_append_getElem hil, fieldsV_snoc _ _ _ _ (hW.take i), hf', List.take_succ_eq_append_getElem hiv]
        have e2 : (0 + (psum (ws.take i)).toNat) = B := by omega
        rw [e2, hfv']
      · intro j hj
        rcases Nat.lt_succ_iff_lt_or_eq.1 hj with hj | rfl
        · exact hvok j hj
        · rw [gv, gw]; exact ⟨by omega, hvlt⟩
      · simp only
        rw [w64 (n := (i : Int) + 1) (by omega) (by omega)]; omega
    · have him' : i = ws.length := by omega
      subst him'
      rw [List.take_length] at hf hz
      have hvt : vs.take ws.length = vs := List.take_of_length_le (by omega)
      rw [hvt] at hf
      refine ⟨hE3, .inl ⟨⟨by omega, fun j hj => hvok j hj⟩, some ⟨g1, 0, none⟩, ds, ⟨hl, hB, hf⟩, ?_, ?_⟩⟩
      · have : (psum ws / 8).toNat = ds.length := by omega
        rw [this]
      · have := own_of_blk (n := ds.length) (base := w.heap.size) hb (by omega) (by simp) (Nat.le_refl _) (by simp only [maxLen]; omega)
        rwa [List.take_of_length_le (by simp)] at this
end Go.Proofs.YthhgbpmihhljdaaDoor
/- Sums by ones' complement: the plain law of folding, and both programs' sums over parts. -/
namespace Go.Eng
open Go Go.RowKit

structure PartV where
  A : Option Addr
  n : Nat
  c : Nat
  bs : List Int
def PartV.val (p : PartV) : Value := .slice p.A p.n p.c
structure PartsAt (w : World) (PA : Option Addr) (ps : List PartV) : Prop where
  top : Cells w PA (ps.map PartV.val)
  each : ∀ p ∈ ps, Cells w p.A (p.bs.map (.int .u8)) ∧ p.bs.length = p.n ∧ Bts p.bs ∧ p.n ≤ 70000
theorem PartsAt.ext {w w' : World} {PA : Option Addr} {ps : List PartV} (h : PartsAt w PA ps) (hE : Ext w w') : PartsAt w' PA ps :=
  ⟨h.top.ext hE, fun p hp => ⟨(h.each p hp).1.ext hE, (h.each p hp).2⟩⟩
theorem PartsAt.read {w : World} {PA : Option Addr} {ps : List PartV} (h : PartsAt w PA ps) {i m : Nat} (hi : i < ps.length) (hm : ps.length = m) {F : Addr → Prop} (hF : ∀ a, w.cell? a = some (.slice ps[i].A ps[i].n ps[i].c) → F a) : IdxVC PA m 1 (i : Int) F :=
  IdxVC.of h.top (by omega) (by omega) (by simpa using hm) fun a _ ha => hF _ (by rw [ha]; simp [PartV.val])
end Go.Eng
namespace Go.Proofs.YthhgbpmihhljdaaDoor
open Go.Eng Go.RowKit

section
variable {w : World} {PA : Option Addr} {m mc : Nat} {ps : List PartV}
end
end Go.Proofs.YthhgbpmihhljdaaDoor
