/- Contracts of the law's small helpers: same, sameInts, started. -/
import Derived.Test.YtdchpilghgnnoaaC4
namespace Go.Proofs.Ytdchpilghgnnoaa
open Go.Eng Go.RowKit

theorem same_spec {A B : Option Addr} {n c m d : Nat} {xs ys : List Int} {w : World} (hx : Cells w A (xs.map (.int .u8))) (hy : Cells w B (ys.map (.int .u8))) (hn : xs.length = n) (hm : ys.length = m) (bx : Bts xs) (by_ : Bts ys) :
    Calls Try.prog 22 #[.slice A n c, .slice B m d] w fun e w' => w = w' ∧ e = .returned (.bool (decide (xs = ys))) := by
  subst hn; subst hm
  refine weirlaw1_same_of A xs.length c B ys.length d w _ ?_
  unfold weirlaw1_same_VC
  refine StrVC.of hx (StrVC.of hy ⟨rfl, ?_⟩)
  rw [str_eq xs ys bx by_]
theorem sameInts_spec {A B : Option Addr} {n c m d : Nat} {xs ys : List Int} {w : World} (hx : Cells w A (xs.map (.int .i64))) (hy : Cells w B (ys.map (.int .i64))) (hn : xs.length = n) (hm : ys.length = m) (hb : n ≤ 4611686018427387904) :
    Calls Try.prog 31 #[.slice A n c, .slice B m d] w fun e w' => Ext w w' ∧ e = .returned (.bool (decide (xs = ys))) := by
  refine weirlaw1_sameInts_of A n c B m d w _ ?_
  unfold weirlaw1_sameInts_VC
  refine Br.dec (fun h => ⟨Mod.refl _ _, ?_⟩) (fun h => ?_)
  · rw [decide_eq_false (fun e => h (by rw [← hn, ← hm, e]))]
  refine LoopVC.of (fun s w' => Ext w w' ∧ ∃ i : Nat, s = (i : Int) ∧ i ≤ n ∧ xs.take i = ys.take i) (fun s _ => (n - s).toNat) ⟨Mod.refl _ _, 0, rfl, by omega, by simp⟩ ?_
  rintro _ w1 ⟨hE, i, rfl, hi, ht⟩
  show weirlaw1_sameInts_L58 _ A n B m (i : Int) w1 _
  unfold weirlaw1_sameInts_L58
  have hmn : m = n := by omega
  subst hmn
  refine Br.dec (fun hlt => ?_) (fun hge => ⟨hE, ?_⟩)
  · intro w2 hw2
    have hE2 : Ext w w2 := by subst hw2; exact hE.ext (Ext.drew w1)
    refine ⟨fun w' => Cells w' A (xs.map (.int .i64)) ∧ Cells w' B (ys.map (.int .i64)), ⟨hx.ext hE2, hy.ext hE2⟩, ?_⟩
    have hix : i < xs.length := by omega
    have hiy : i < ys.length := by omega
    obtain ⟨a, ha, _⟩ := (hx.ext hE2).at (i := i) (by simpa using hix)
    obtain ⟨b, hb', _⟩ := (hy.ext hE2).at (i := i) (by simpa using hiy)
    refine ⟨a, ha, by omega, by omega, xs[i], fun w' hS => ?_, b, hb', by omega, by omega, ys[i], fun w' hS => ?_, ?_⟩
    · obtain ⟨a', ha', hc⟩ := hS.1.at (i := i) (by simpa using hix)
      rw [ha] at ha'; cases ha'
      simpa using hc
    · obtain ⟨a', ha', hc⟩ := hS.2.at (i := i) (by simpa using hiy)
      rw [hb'] at ha'; cases ha'
      simpa using hc
    · refine Br.dec (fun hne => ⟨hE2, ?_⟩) (fun heq => ⟨⟨hE2, i + 1, ?_, by omega, ?_⟩, ?_⟩)
      · rw [decide_eq_false]
        rintro rfl
        exact hne rfl
      · rw [w64 (by omega) (by omega)]; omega
      · have heq : xs[i] = ys[i] := by simpa using heq
        rw [List.take_succ_eq_append_getElem hix, List.take_succ_eq_append_getElem hiy, ht, heq]
      · rw [w64 (by omega) (by omega)]; omega
  · have him : i = m := by omega
    subst him
    rw [List.take_of_length_le (by omega), List.take_of_length_le (by omega)] at ht
    rw [decide_eq_true ht]
theorem started_spec (w : World) : Calls Try.prog 32 #[] w fun e w' => Ext w w' ∧ e = .returned (.bool true) := by
  refine weirlaw1_started_of w _ ?_
  unfold weirlaw1_started_VC
  refine NewVC.blk fun g1 w1 hg1 hz1 hE1 hb1 => ?_
  refine (uint_spec (bs := [1, 2, 3]) (by simpa using Cells.of_blk hb1 0) rfl (by intro x hx; simp at hx; omega) (by decide)).mono ?_
  rintro _ w2 ⟨hE2, rfl⟩
  refine ⟨_, _, rfl, ?_⟩
  refine NewVC.blk fun g2 w3 hg2 hz3 hE3 hb2 => NewVC.blk fun g3 w4 hg3 hz4 hE4 hb3 => ?_
  have hok : widthsOk [4, 4, 6, 2] := ⟨by decide, by intro x hx; simp at hx; omega, by decide⟩
  refine (fields_yes (bs := [69, 192, 255]) (ws := [4, 4, 6, 2]) (by simpa using Cells.of_blk (hb2.ext hE4) 0) rfl (by intro x hx; simp at hx; omega) (by decide) (by decide) (by simpa using Cells.of_blk hb3 0) rfl hok (by omega) (by decide)).mono ?_
  rintro _ w5 ⟨hE5, A', c', rfl, hown⟩
  refine ⟨_, _, _, _, _, rfl, ?_⟩
  have e1 : (uintS [1, 2, 3] 1 2).1 = 515 := by decide
  have e2 : (uintS [1, 2, 3] 1 2).2 = 0 := by decide
  have hE : Ext w w5 := (((hE1.ext hE2).ext hE3).ext hE4).ext hE5
  rw [e1, e2]
  refine Br.yes rfl ?_
  refine (num_spec 0 w5).mono ?_
  rintro _ w6 ⟨rfl, rfl⟩
  refine ⟨_, rfl, Br.yes rfl ?_⟩
  refine NewVC.blk fun g4 w7 hg4 hz7 hE7 hb4 => ?_
  refine (sameInts_spec (xs := [4, 5, 48, 0]) (ys := [4, 5, 48, 0]) ?_ (by simpa using Cells.of_blk hb4 0) rfl rfl (by decide)).mono ?_
  · have := own_cells (own_ext hown hE7)
    have e3 : fieldsV (bitAt (([69, 192, 255] : List Int).drop ((0 : Int).toNat) |>.take (psum [4, 4, 6, 2] / 8).toNat)) 0 [4, 4, 6, 2] = [4, 5, 48, 0] := by decide
    rw [e3] at this
    exact this
  rintro _ w8 ⟨hE8, rfl⟩
  refine ⟨_, rfl, Br.t rfl ?_⟩
  have e4 : (0 : Int) + psum [4, 4, 6, 2] / 8 = 2 := by decide
  rw [e4]
  refine Br.yes rfl ?_
  refine (num_spec 0 w8).mono ?_
  rintro _ w9 ⟨rfl, rfl⟩
  exact ⟨_, rfl, (hE.ext hE7).ext hE8, rfl⟩
end Go.Proofs.Ytdchpilghgnnoaa
