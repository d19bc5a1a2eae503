/- Every look over one buffer and two lists that are filled anew ahead of it. -/
import Derived.Test.YtdchpilghgnnoaaL6
namespace Go.Eng
theorem Mod.set {w0 w w' : World} {g : Nat} (hE : Mod None w0 w) (hm : Mod (fun k => k = g) w w') (hg : w0.heap.size ≤ g) : Ext w0 w' := Ext.set hE hm hg
end Go.Eng
namespace Go.Proofs.Ytdchpilghgnnoaa
open Go.Eng Go.RowKit
theorem filledBy_spec {w : World} {g n d m c : Nat} {B : Option Addr} {L bs : List Int} (hb : Blk w g 5 (L.map (.int .u8))) (hn : L.length = n) (hn2 : n ≤ 1048576) (hL : Bts L) (hB : ∀ w', Mod (fun k => k = g) w w' → Cells w' B (bs.map (.int .u8))) (hm : bs.length = m) (hbb : Bts bs) :
    Calls Try.prog 37 #[.slice (some ⟨g, 0, none⟩) n c, .slice B m d] w fun e w' => Mod (fun k => k = g) w w' ∧ e = .returned (.tuple #[]) ∧ ∃ L' : List Int, L'.length = n ∧ Bts L' ∧ Blk w' g 5 (L'.map (.int .u8)) := by
  refine weirlaw1_filledBy_of (some ⟨g, 0, none⟩) n c B m d  w _ ?_
  unfold weirlaw1_filledBy_VC
  refine LoopVC.of (fun i w' => Mod (fun k => k = g) w w' ∧ ∃ (j : Nat) (L' : List Int), i = (j : Int) ∧ j ≤ n ∧ L'.length = n ∧ Bts L' ∧ Blk w' g 5 (L'.map (.int .u8))) (fun i _ => ((n : Int) - i).toNat) ⟨Mod.refl _ _, 0, L, rfl, by omega, hn, hL, hb⟩ ?_
  rintro _ w1 ⟨hM, j, L1, rfl, hj, hl, hL1, hb⟩
  show weirlaw1_filledBy_L6 _ (some ⟨g, 0, none⟩) n B m  (j : Int) w1 _
  unfold weirlaw1_filledBy_L6
  have hwr : IntKind.i64.wrap ((j : Int) + 1) = ((j + 1 : Nat) : Int) := by rw [w64 (by omega) (by omega)]; omega
  refine Br.dec (fun hlt => ?_) (fun hge => ⟨hM, rfl, L1, hl, hL1, hb⟩)
  refine IdxVC.blk (by omega) hlt ?_
  rw [Int.toNat_natCast]
  refine SetVC.blk hb (by simp; omega) fun w2 hz2 hm2 hb2 => ?_
  rw [map_set] at hb2
  have hM2 := hM.trans hm2
  rw [hwr]
  refine Br.dec (fun hlt2 => ?_) (fun _ => ⟨⟨hM2, j + 1, _, rfl, by omega, by simpa using hl, hL1.set _ (by decide) (by decide), hb2⟩, by omega⟩)
  refine IdxVC.int (hB w2 hM2) (by omega) hlt2 hm fun a ha => ⟨_, ha, ?_⟩
  refine IdxVC.blk (by omega) hlt ?_
  rw [getD_cast _ _ (by omega), Int.toNat_natCast]
  refine SetVC.blk hb2 (by simp; omega) fun w3 hz3 hm3 hb3 => ?_
  rw [map_set] at hb3
  exact ⟨⟨hM2.trans hm3, j + 1, _, rfl, by omega, by simpa using hl, (hL1.set _ (by decide) (by decide)).set _ (hbb.at (by omega)).1 (hbb.at (by omega)).2, hb3⟩, by omega⟩
theorem filledInts_spec {w : World} {g n d m c : Nat} {B : Option Addr} {L bs : List Int} {mark : Int} (hb : Blk w g 3 (L.map (.int .i64))) (hn : L.length = n) (hn2 : n ≤ 1048576) (hB : ∀ w', Mod (fun k => k = g) w w' → Cells w' B (bs.map (.int .i64))) (hm : bs.length = m) :
    Calls Try.prog 38 #[.slice (some ⟨g, 0, none⟩) n c, .slice B m d, .int .i64 mark] w fun e w' => Mod (fun k => k = g) w w' ∧ e = .returned (.tuple #[]) ∧ ∃ L' : List Int, L'.length = n ∧  Blk w' g 3 (L'.map (.int .i64)) := by
  refine weirlaw1_filledInts_of (some ⟨g, 0, none⟩) n c B m d mark w _ ?_
  unfold weirlaw1_filledInts_VC
  refine LoopVC.of (fun i w' => Mod (fun k => k = g) w w' ∧ ∃ (j : Nat) (L' : List Int), i = (j : Int) ∧ j ≤ n ∧ L'.length = n ∧  Blk w' g 3 (L'.map (.int .i64))) (fun i _ => ((n : Int) - i).toNat) ⟨Mod.refl _ _, 0, L, rfl, by omega, hn,  hb⟩ ?_
  rintro _ w1 ⟨hM, j, L1, rfl, hj, hl,  hb⟩
  show weirlaw1_filledInts_L6 _ (some ⟨g, 0, none⟩) n B m mark (j : Int) w1 _
  unfold weirlaw1_filledInts_L6
  have hwr : IntKind.i64.wrap ((j : Int) + 1) = ((j + 1 : Nat) : Int) := by rw [w64 (by omega) (by omega)]; omega
  refine Br.dec (fun hlt => ?_) (fun hge => ⟨hM, rfl, L1, hl,  hb⟩)
  refine IdxVC.blk (by omega) hlt ?_
  rw [Int.toNat_natCast]
  refine SetVC.blk hb (by simp; omega) fun w2 hz2 hm2 hb2 => ?_
  rw [map_set] at hb2
  have hM2 := hM.trans hm2
  rw [hwr]
  refine Br.dec (fun hlt2 => ?_) (fun _ => ⟨⟨hM2, j + 1, _, rfl, by omega, by simpa using hl,  hb2⟩, by omega⟩)
  refine IdxVC.int (hB w2 hM2) (by omega) hlt2 hm fun a ha => ⟨_, ha, ?_⟩
  refine IdxVC.blk (by omega) hlt ?_
  rw [getD_cast _ _ (by omega), Int.toNat_natCast]
  refine SetVC.blk hb2 (by simp; omega) fun w3 hz3 hm3 hb3 => ?_
  rw [map_set] at hb3
  exact ⟨⟨hM2.trans hm3, j + 1, _, rfl, by omega, by simpa using hl,  hb3⟩, by omega⟩

/-- A copy of numbers in memory of the call's own, behind an empty literal. -/
theorem copy_ints {w : World} {A : Option Addr} {n c : Nat} {bs : List Int} {F : Option Addr → Nat → Nat → World → Prop} (hb : Cells w A (bs.map (.int .i64))) (hl : bs.length = n) (hn : n ≤ 1048700)
    (h : ∀ B d w', Ext w w' → w'.ownsRow w.heap.size 3 1 (.slice B n d) n (bs.map (.int .i64)) → F B n d w') :
    NewVC w (.cells #[] 3) fun g2 w9 => AppVC Try.prog #[55, 55] 55 (.slice (some ⟨g2, 0, none⟩) 0 0) (.slice A n c) w9 F := by
  obtain ⟨ti, hti, htz, hts, hty⟩ := tyInt
  refine NewVC.blk fun g2 w9 hg2 hz9 hE9 hb2 => ?_
  have ho : w9.ownsRow w.heap.size 3 1 (.slice (some ⟨g2, 0, none⟩) 0 0) 0 [] := own_of_blk (n := 0) (c := 0) hb2 (by omega) rfl (Nat.le_refl _) (Nat.zero_le _)
  refine AppVC.own Try.underlying55 hti htz hts hty rfl (by decide) ho (hb.ext hE9) (by simpa using hl) (ints_one _ _) (by omega) (by decide) (by omega) fun B d w' hown hm hc => ?_
  rw [Nat.zero_add] at hown ⊢
  rw [List.nil_append] at hown
  refine h B d w' (hE9.trans' hm fun k hk e => ?_) hown
  simp [Value.ownBlock] at e; omega

set_option maxHeartbeats 2000000 in
theorem again_law {A : Option Addr} {n c : Nat} {l : List OpV} {size few : Int} {w : World} (h : ScriptIs w A n l) (hn : n ≤ 1048576) :
    Calls Try.prog 12 #[.int .i64 size, .int .i64 few, .slice A n c] w fun e w' => e = .returned (.bool true) ∧ Ext w w' := by
  refine weirlaw1_ViewAgain_of size few A n c w _ ?_
  unfold weirlaw1_ViewAgain_VC
  have hs1 : -400 < Int.tmod size 400 ∧ Int.tmod size 400 < 400 := ⟨by have := Int.lt_tmod_of_pos size (show (0 : Int) < 400 by decide); omega, Int.tmod_lt_of_pos size (by decide)⟩
  have hf1 : -40 < Int.tmod few 40 ∧ Int.tmod few 40 < 40 := ⟨by have := Int.lt_tmod_of_pos few (show (0 : Int) < 40 by decide); omega, Int.tmod_lt_of_pos few (by decide)⟩
  refine JoinVC.of (fun s w' => w = w' ∧ 0 ≤ s ∧ s < 400) (Br.dec (fun h0 => ⟨rfl, by rw [w64 (by omega) (by omega)]; omega⟩) (fun h0 => ⟨rfl, by omega⟩)) ?_
  rintro s1 w1 ⟨rfl, hs0, hs1⟩
  unfold weirlaw1_ViewAgain_J7
  refine JoinVC.of (fun s w' => w = w' ∧ 0 ≤ s ∧ s < 40) (Br.dec (fun h0 => ⟨rfl, by rw [w64 (by omega) (by omega)]; omega⟩) (fun h0 => ⟨rfl, by omega⟩)) ?_
  rintro f1 w2 ⟨rfl, hf0, hf1⟩
  unfold weirlaw1_ViewAgain_J31
  obtain ⟨sz, rfl⟩ := Int.eq_ofNat_of_zero_le hs0
  obtain ⟨fw, rfl⟩ := Int.eq_ofNat_of_zero_le hf0
  refine MakeVC.blk (by omega) (by omega) (by omega) fun g1 w3 hg1 hz3 hE3 hb1 => ?_
  refine MakeVC.blk (by omega) (by omega) (by omega) fun g2 w4 hg2 hz4 hE4 hb2 => ?_
  refine MakeVC.blk (by omega) (by omega) (by omega) fun g3 w5 hg3 hz5 hE5 hb3 => ?_
  rw [Int.toNat_natCast] at hb1 hb2 hb3
  have hlen := h.len
  refine LoopVC.of (fun i w' => Ext w w' ∧ (∃ Lb : List Int, Lb.length = sz ∧ Bts Lb ∧ Blk w' g1 5 (Lb.map (.int .u8))) ∧ (∃ Lw : List Int, Lw.length = fw ∧ Blk w' g2 3 (Lw.map (.int .i64))) ∧ (∃ Lv : List Int, Lv.length = fw ∧ Blk w' g3 3 (Lv.map (.int .i64))) ∧
    ∃ j : Nat, i = (j : Int) ∧ j ≤ 2 * n) (fun i _ => (2 * (n : Int) - i).toNat) ?_ ?_
  · refine ⟨(hE3.ext hE4).ext hE5, ⟨List.replicate sz 0, by simp, ?_, by simpa using (hb1.ext hE4).ext hE5⟩, ⟨List.replicate fw 0, by simp, by simpa using hb2.ext hE5⟩, ⟨List.replicate fw 0, by simp, by simpa using hb3⟩, 0, rfl, by omega⟩
    intro x hx
    have := List.eq_of_mem_replicate hx
    omega
  have s3 : w.heap.size ≤ g1 := by omega
  have s4 : w.heap.size ≤ g2 := by omega
  have s5 : w.heap.size ≤ g3 := by omega
  have n12 : g1 ≠ g2 := by omega
  have n13 : g1 ≠ g3 := by omega
  have n23 : g2 ≠ g3 := by omega
  clear hb1 hb2 hb3
  rintro _ w6 ⟨hE6, ⟨Lb, hlb, hBb, hb1⟩, ⟨Lw, hlw, hb2⟩, ⟨Lv, hlv, hb3⟩, j, rfl, hj⟩
  have t1 := hb1.lt
  have t2 := hb2.lt
  have t3 := hb3.lt
  show weirlaw1_ViewAgain_L4090 _ A n (sz : Int) (fw : Int) g1 g2 g3 (j : Int) w6 _
  unfold weirlaw1_ViewAgain_L4090
  rw [w64 (n := 2 * (n : Int)) (by omega) (by omega)]
  refine Br.dec (fun hlt => ?_) (fun hge => ?_)
  · have e1 : Int.tdiv (j : Int) 2 = ((j / 2 : Nat) : Int) := by rw [Int.tdiv_eq_ediv_of_nonneg (by omega)]; omega
    have e2 : Int.tmod (j : Int) 2 = ((j % 2 : Nat) : Int) := by rw [Int.tmod_eq_emod_of_nonneg (by omega)]; omega
    rw [e1, e2, w64 (n := ((j / 2 : Nat) : Int)) (by omega) (by omega), w64 (n := ((j / 2 : Nat) : Int) + ((j % 2 : Nat) : Int)) (by omega) (by omega)]
    have e3 : Int.tmod (((j / 2 : Nat) : Int) + ((j % 2 : Nat) : Int)) (n : Int) = (((j / 2 + j % 2) % n : Nat) : Int) := by
      rw [Int.tmod_eq_emod_of_nonneg (by omega)]; push_cast; rfl
    rw [e3]
    have hmod : (j / 2 + j % 2) % n < n := Nat.mod_lt _ (by omega)
    refine ⟨by omega, ?_⟩
    have h6 := h.ext hE6
    have hil : (j / 2 + j % 2) % n < l.length := by omega
    refine IdxVC.rec h6.recs (by omega) (by omega) (by simpa using hlen) fun a hc => ?_
    have hrec : (l.map fun o => o.vals.toList).getD (((j / 2 + j % 2) % n : Nat) : Int).toNat [] = (l[(j / 2 + j % 2) % n]).vals.toList := by rw [Int.toNat_natCast]; simp [hil]
    rw [hrec] at hc
    obtain ⟨bs, ws, vs, ho, -⟩ := h.ok _ (List.getElem_mem hil)
    generalize l[(j / 2 + j % 2) % n] = o at hc ho
    refine ⟨_, _, _, _, _, _, _, _, _, _, _, _, hc, ?_⟩
    refine NewVC.blk fun g4 w7 hg4 hz7 hE7 hb4 => ?_
    have hg : w6.heap.size ≤ g4 := by omega
    refine SetVC.blk hb4 (by simp) fun w8 hz8 hm8 hb4 => SetVC.blk hb4 (by simp) fun w9 hz9 hm9 hb4 => SetVC.blk hb4 (by simp) fun w10 hz10 hm10 hb4 =>
      SetVC.blk hb4 (by simp) fun w11 hz11 hm11 hb4 => SetVC.blk hb4 (by simp) fun w12 hz12 hm12 hb4 => SetVC.blk hb4 (by simp) fun w13 hz13 hm13 hb4 => ?_
    have hE613 : Ext w6 w13 := (((((hE7.set hm8 hg).set hm9 hg).set hm10 hg).set hm11 hg).set hm12 hg).set hm13 hg
    have hE13 := hE6.ext hE613
    have hb1 := hb1.ext hE613
    have hb2 := hb2.ext hE613
    have hb3 := hb3.ext hE613
    have l4 : g1 < g4 := by omega
    have l42 : g2 < g4 := by omega
    have l43 : g3 < g4 := by omega
    refine ⟨_, _, _, hb4.cell 1, ?_⟩
    refine (filledBy_spec hb1 hlb (by omega) hBb (fun w' hM => ho.cb.ext (hE13.set hM s3)) ho.bl ho.bb).mono ?_
    rintro _ w14 ⟨hm14, rfl, Lb', hlb', hBb', hb1⟩
    have hE14 := hE13.set hm14 s3
    have hb4 := hb4.mod hm14 (by omega)
    have hb2 := hb2.mod hm14 (by omega)
    have hb3 := hb3.mod hm14 (by omega)
    refine ⟨rfl, _, _, _, hb4.cell 4, ?_⟩
    refine (filledInts_spec hb2 hlw (by omega) (fun w' hM => ho.cw.ext (hE14.set hM s4)) ho.wl).mono ?_
    rintro _ w15 ⟨hm15, rfl, Lw', hlw', hb2⟩
    have hE15 := hE14.set hm15 s4
    have hb4 := hb4.mod hm15 (by omega)
    have hb1 := hb1.mod hm15 (by omega)
    have hb3 := hb3.mod hm15 (by omega)
    refine ⟨rfl, _, _, _, hb4.cell 5, ?_⟩
    refine (filledInts_spec hb3 hlv (by omega) (fun w' hM => ho.cv.ext (hE15.set hM s5)) ho.vl).mono ?_
    rintro _ w16 ⟨hm16, rfl, Lv', hlv', hb3⟩
    have hE16 := hE15.set hm16 s5
    have hb1 := hb1.mod hm16 (by omega)
    have hb2 := hb2.mod hm16 (by omega)
    have h16 := h.ext hE16
    have hil2 : j / 2 < l.length := by omega
    refine ⟨rfl, IdxVC.rec h16.recs (by omega) (by omega) (by simpa using hlen) fun a hc => ?_⟩
    have hrec : (l.map fun o => o.vals.toList).getD ((j / 2 : Nat) : Int).toNat [] = (l[j / 2]).vals.toList := by rw [Int.toNat_natCast]; simp [hil2]
    rw [hrec] at hc
    generalize l[j / 2] = o2 at hc
    refine ⟨_, _, _, _, _, _, _, _, _, _, _, _, hc, ?_⟩
    refine NewVC.blk fun g5 w17 hg5 hz17 hE17 hb5 => ?_
    have hg : w16.heap.size ≤ g5 := by omega
    refine SetVC.blk hb5 (by simp) fun w18 hz18 hm18 hb5 => SetVC.blk hb5 (by simp) fun w19 hz19 hm19 hb5 => SetVC.blk hb5 (by simp) fun w20 hz20 hm20 hb5 =>
      SetVC.blk hb5 (by simp) fun w21 hz21 hm21 hb5 => SetVC.blk hb5 (by simp) fun w22 hz22 hm22 hb5 => SetVC.blk hb5 (by simp) fun w23 hz23 hm23 hb5 => ?_
    have hE1623 : Ext w16 w23 := (((((hE17.set hm18 hg).set hm19 hg).set hm20 hg).set hm21 hg).set hm22 hg).set hm23 hg
    have hc1 : Cells w16 (some ⟨g1, 0, none⟩) (Lb'.map (.int .u8)) := by simpa using Cells.of_blk hb1 0
    have hc2 : Cells w16 (some ⟨g2, 0, none⟩) (Lw'.map (.int .i64)) := by simpa using Cells.of_blk hb2 0
    have hc3 : Cells w16 (some ⟨g3, 0, none⟩) (Lv'.map (.int .i64)) := by simpa using Cells.of_blk hb3 0
    rw [Int.toNat_natCast, Int.toNat_natCast]
    refine copy_own (hc1.ext hE1623) hlb' (by omega) fun B1 d1 w25 hE25 hown1 hlt1 => ?_
    refine SetVC.blk (hb5.ext hE25) (by simp) fun w26 hz26 hm26 hb5 => ?_
    have hE1626 := (hE1623.ext hE25).set hm26 hg
    have hown1 := own_mod hown1 hm26 fun k hk e => by have := hlt1 k hk.symm; have := hE1623.size; omega
    refine copy_ints (hc2.ext hE1626) hlw' (by omega) fun B2 d2 w28 hE28 hown2 => ?_
    have hg2628 := hb5.lt
    have hlt2 : ∀ k, (Value.slice B2 fw d2).ownBlock = some k → w26.heap.size ≤ k := fun k hk => own_new hown2 k hk
    refine SetVC.blk (hb5.ext hE28) (by simp) fun w29 hz29 hm29 hb5 => ?_
    have hE1629 := (hE1626.ext hE28).set hm29 hg
    have hown1 := own_mod (own_ext hown1 hE28) hm29 fun k hk e => by have := hlt1 k hk.symm; have := hE1623.size; omega
    have hown2 := own_mod hown2 hm29 fun k hk e => by have := hlt2 k hk; omega
    refine copy_ints (hc3.ext hE1629) hlv' (by omega) fun B3 d3 w31 hE31 hown3 => ?_
    have hg2931 := hb5.lt
    have hlt3 : ∀ k, (Value.slice B3 fw d3).ownBlock = some k → w29.heap.size ≤ k := fun k hk => own_new hown3 k hk
    refine SetVC.blk (hb5.ext hE31) (by simp) fun w32 hz32 hm32 hb5 => ?_
    have hE1632 := (hE1629.ext hE31).set hm32 hg
    have hown1 := own_mod (own_ext hown1 hE31) hm32 fun k hk e => by have := hlt1 k hk.symm; have := hE1623.size; omega
    have hown2 := own_mod (own_ext hown2 hE31) hm32 fun k hk e => by have := hlt2 k hk; omega
    have hown3 := own_mod hown3 hm32 fun k hk e => by have := hlt3 k hk; omega
    refine ⟨_, _, _, _, _, _, _, _, _, _, _, _, CellsAt.blk hb5, ?_⟩
    refine NewVC.blk fun g9 w33 hg9 hz33 hE33 hb9 => ?_
    have hg' : w32.heap.size ≤ g9 := by omega
    refine SetVC.blk hb9 (by simp) fun w34 hz34 hm34 hb9 => SetVC.blk hb9 (by simp) fun w35 hz35 hm35 hb9 => SetVC.blk hb9 (by simp) fun w36 hz36 hm36 hb9 =>
      SetVC.blk hb9 (by simp) fun w37 hz37 hm37 hb9 => SetVC.blk hb9 (by simp) fun w38 hz38 hm38 hb9 => SetVC.blk hb9 (by simp) fun w39 hz39 hm39 hb9 =>
      SetVC.blk hb9 (by simp) fun w40 hz40 hm40 hb9 => SetVC.blk hb9 (by simp) fun w41 hz41 hm41 hb9 => SetVC.blk hb9 (by simp) fun w42 hz42 hm42 hb9 => ?_
    have hE3242 : Ext w32 w42 := ((((((((hE33.set hm34 hg').set hm35 hg').set hm36 hg').set hm37 hg').set hm38 hg').set hm39 hg').set hm40 hg').set hm41 hg').set hm42 hg'
    have hE1642 := hE1632.ext hE3242
    refine ⟨_, _, _, _, _, _, _, _, _, _, _, _, CellsAt.blk hb9, ?_⟩
    have hop : OpIs w42 ⟨o2.kind, some ⟨g1, 0, none⟩, sz, sz, o2.at_, o2.n, some ⟨g2, 0, none⟩, fw, fw, some ⟨g3, 0, none⟩, fw, fw⟩ Lb' Lw' Lv' :=
      ⟨hc1.ext hE1642, hlb', hBb', Nat.le_refl _, by simp only; omega, hc2.ext hE1642, hlw', by simp only; omega, hc3.ext hE1642, hlv', by simp only; omega⟩
    refine (answered_spec hop).mono ?_
    rintro _ w43 ⟨hE43, rfl⟩
    have hE3243 := hE3242.ext hE43
    have hE1643 := hE1642.ext hE43
    refine ⟨_, rfl, Br.f rfl ⟨_, _, _, (hb5.ext hE3243).cell 1, ?_⟩⟩
    refine (same_spec (hc1.ext hE1643) (own_cells (own_ext hown1 hE3243)) hlb' hlb' hBb' hBb').mono ?_
    rintro _ w44 ⟨rfl, rfl⟩
    refine ⟨_, rfl, Br.f (by simp) ⟨_, _, _, (hb5.ext hE3243).cell 4, ?_⟩⟩
    refine (sameInts_spec (hc2.ext hE1643) (own_cells (own_ext hown2 hE3243)) hlw' hlw' (by omega)).mono ?_
    rintro _ w45 ⟨hE45, rfl⟩
    have hE3245 := hE3243.ext hE45
    have hE1645 := hE1643.ext hE45
    refine ⟨_, rfl, Br.f (by simp) ⟨_, _, _, (hb5.ext hE3245).cell 5, ?_⟩⟩
    refine (sameInts_spec (hc3.ext hE1645) (own_cells (own_ext hown3 hE3245)) hlv' hlv' (by omega)).mono ?_
    rintro _ w46 ⟨hE46, rfl⟩
    have hE1646 := hE1645.ext hE46
    refine ⟨_, rfl, Br.f (by simp) ?_⟩
    rw [w64 (n := (j : Int) + 1) (by omega) (by omega)]
    exact ⟨⟨hE16.ext hE1646, ⟨Lb', hlb', hBb', hb1.ext hE1646⟩, ⟨Lw', hlw', hb2.ext hE1646⟩, ⟨Lv', hlv', hb3.ext hE1646⟩, j + 1, by omega, by omega⟩, by omega⟩
  · refine (started_spec w6).mono ?_
    rintro _ w47 ⟨hE47, rfl⟩
    exact ⟨_, rfl, rfl, hE6.ext hE47⟩
end Go.Proofs.Ytdchpilghgnnoaa
