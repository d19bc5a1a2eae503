/- Wide rooms: what lies behind the bytes; the small functions of IcmpAgain. -/
import Derived.Test.YtjngdcilnipjcaaDoorVa
import Derived.Test.YtjngdcilnipjcaaDoorNd6
import Derived.Test.YtjngdcilnipjcaaDoorIc7
namespace Go.Eng
open Go Go.RowKit
theorem CopyVC.part {P : Program} {w : World} {dT sT ty e : TypeId} {g N n c c' : Nat} {A : Option Addr} {olds cs : List Value} {F : Int → World → Prop} (hu : P.underlying dT = some (.slice e)) (hs : (P.info? e).map (·.size) = some 1)
    (hb : Blk w g e olds) (hl : olds.length = N) (hc : Cells w A cs) (hn : cs.length = n) (hN : n ≤ N) (h1 : ∀ v ∈ cs, v.oneCell' = true)
    (h : ∀ m w', w'.heap.size = w.heap.size → Mod (fun k => k = g) w w' → Blk w' g e (cs ++ olds.drop n) → F m w') : CopyVC P #[dT, sT] ty (.slice (some ⟨g, 0, none⟩) N c) (.slice A n c') w F := by
  by_cases h0 : n = 0
  · refine ⟨0, w, run_copy_none w dT sT ty e _ _ _ _ _ _ hu hs (by subst h0; simp), h 0 w rfl (Mod.refl _ _) ?_⟩
    have e2 : cs = [] := List.eq_nil_of_length_eq_zero (by omega)
    subst h0
    rw [e2]; exact hb
  · obtain ⟨a, ha, _⟩ := hc.at (i := 0) (by omega)
    subst ha
    have hr := run_copy_row (P := P) w dT sT ty e g 0 N c a n c' olds.toArray e cs hu hs hb (by rw [hn]; exact (Nat.min_eq_left hN).symm) (fun j v hv => by obtain ⟨a', ha', hcv⟩ := hc j v hv; cases ha'; exact hcv) (by simp; omega) h1
    refine ⟨_, _, hr, h _ _ ?_ ?_ ?_⟩
    · simp [World.setRow]
    · refine ⟨rfl, rfl, rfl, by simp [World.setRow], fun k hk hn => ?_⟩
      simp only [World.setRow, Array.getElem?_modify]
      rw [if_neg (fun e => hn e.symm)]
    · unfold Blk
      have := setRow_heap w g olds.toArray ((olds.take 0 ++ cs ++ olds.drop (0 + cs.length)).toArray) e (0, 0) hb
      rw [this]
      simp [hn]
def behindS (i : Nat) : Int := (203 - 5 * (i : Int)) % 256
/-- The bytes, and the marks behind them. -/
def wideC (L : List Int) : List Int := L ++ (List.range (L.length + 70)).map behindS
theorem wideC_len (L : List Int) : (wideC L).length = 2 * L.length + 70 := by simp [wideC]; omega
theorem wideC_getD (L : List Int) (i : Nat) (h : i < L.length + 70) : (wideC L).getD (L.length + i) 0 = behindS i := by
  unfold wideC
  rw [List.getD_eq_getElem?_getD, List.getElem?_append_right (by omega), show L.length + i - L.length = i by omega, List.getElem?_map, List.getElem?_range h]
  rfl
theorem wideC_front (L : List Int) (i : Nat) (h : i < L.length) : (wideC L).getD i 0 = L.getD i 0 := by
  unfold wideC
  rw [List.getD_eq_getElem?_getD, List.getElem?_append_left h, List.getD_eq_getElem?_getD]
theorem wideC_set (L : List Int) (i : Nat) (x : Int) (h : i < L.length) : (wideC L).set i x = wideC (L.set i x) := by
  unfold wideC
  rw [List.set_append_left _ _ h, List.length_set]
theorem wideC_take (L : List Int) : (wideC L).take L.length = L := by
  unfold wideC; rw [List.take_left']; rfl
theorem and_mask {x : Int} : 0 ≤ bitv .and .i64 x 1099511627775 ∧ bitv .and .i64 x 1099511627775 ≤ 1099511627775 := by
  unfold bitv
  simp only
  rw [BitVec.toNat_and]
  have h : (BitVec.ofInt IntKind.i64.bits 1099511627775).toNat = 1099511627775 := by rfl
  rw [h]
  have hle : (BitVec.ofInt IntKind.i64.bits x).toNat &&& 1099511627775 ≤ 1099511627775 := Nat.and_le_right
  rw [w64 (by omega) (by omega)]
  omega
end Go.Eng
namespace Go.Proofs.YtjngdcilnipjcaaDoor
namespace Nd
open Go.Eng Go.RowKit
section
variable {w : World} {L : List Int} {g n c : Nat} {A : Option Addr} {bs : List Int}
theorem behind_spec {i : Nat} (hi : i ≤ 1000000) : Calls Tryd.prog 67 #[.int .i64 (i : Int)] w fun e w' => w = w' ∧ e = .returned (.int .u8 (behindS i)) := by
  refine weirlaw2_behind_of (i : Int) w _ ?_
  unfold weirlaw2_behind_VC
  rw [w64 (n := 5 * (i : Int)) (by omega) (by omega), w64 (n := 203 - 5 * (i : Int)) (by omega) (by omega), u8_eq]
  exact ⟨rfl, rfl⟩
theorem Place_spec {x : Int} (hn : 0 < n) (hn2 : n ≤ 1000000) : Calls Tryd.prog 68 #[.int .i64 x, .int .i64 (n : Int)] w fun e w' => w = w' ∧ ∃ q : Nat, q < n ∧ e = .returned (.int .i64 (q : Int)) := by
  refine weirlaw2_Place_of x (n : Int) w _ ?_
  unfold weirlaw2_Place_VC
  have hb := and_mask (x := x)
  have h1 : 0 ≤ bitv .and .i64 x 1099511627775 % (n : Int) := Int.emod_nonneg _ (by omega)
  have h2 : bitv .and .i64 x 1099511627775 % (n : Int) < (n : Int) := Int.emod_lt_of_pos _ (by omega)
  refine ⟨by omega, rfl, (bitv .and .i64 x 1099511627775 % (n : Int)).toNat, by omega, ?_⟩
  rw [Int.tmod_eq_emod_of_nonneg hb.1, Int.toNat_of_nonneg h1]
theorem put_spec {at_ by_ : Int} (hb : Blk w g 5 ((wideC L).map (.int .u8))) (hB : Bts L) (hn : L.length ≤ 66000) :
    Calls Tryd.prog 34 #[.slice (some ⟨g, 0, none⟩) L.length c, .int .i64 at_, .int .i64 by_] w fun e w' => Mod (fun k => k = g) w w' ∧ e = .returned (.tuple #[]) ∧ ∃ L' : List Int, L'.length = L.length ∧ Bts L' ∧ Blk w' g 5 ((wideC L').map (.int .u8)) := by
  refine weirlaw8_put_of _ L.length c at_ by_ w _ ?_
  unfold weirlaw8_put_VC
  refine Br.dec (fun h => ?_) fun h => ⟨Mod.refl _ _, rfl, L, rfl, hB, hb⟩
  refine (Place_spec (n := L.length) (by omega) (by omega)).mono ?_
  rintro _ _ ⟨rfl, q, hq, rfl⟩
  refine ⟨_, rfl, IdxVC.blk (by omega) (by omega) ?_⟩
  refine SetVC.blk hb (by simp [wideC_len]; omega) fun w1 hz1 hm1 hb1 => ⟨hm1, rfl, L.set q (IntKind.u8.wrap by_), by simp, fun x hx => ?_, ?_⟩
  · rcases List.mem_or_eq_of_mem_set hx with h | rfl
    · exact hB x h
    · rw [u8_eq]; omega
  · rw [← wideC_set L q _ hq, List.map_set]
    rw [Int.toNat_natCast] at hb1
    exact hb1
theorem shorter_spec (_ : Cells w A (bs.map (.int .u8))) (hl : bs.length = n) (hc : n ≤ c) : Calls Tryd.prog 32 #[.slice A n c] w fun e w' => w = w' ∧ ∃ c', e = .returned (.slice A (bs.take 66000).length c') ∧ (bs.take 66000).length ≤ c' := by
  refine weirlaw8_shorter_of A n c w _ ?_
  unfold weirlaw8_shorter_VC
  have hlt : (bs.take 66000).length = min 66000 n := by rw [List.length_take, hl]
  refine Br.dec (fun h => ⟨by omega, by omega, ?_⟩) fun h => ⟨rfl, c, ?_, by omega⟩
  · exact ⟨rfl, c, by rw [hlt, show min 66000 n = (66000 : Int).toNat by omega], by omega⟩
  · rw [hlt, show min 66000 n = n by omega]
theorem Wide_spec (hb : Cells w A (bs.map (.int .u8))) (hl : bs.length = n) (hn : n ≤ 66000) :
    Calls Tryd.prog 31 #[.slice A n c] w fun e w' => Ext w w' ∧ ∃ g, g = w.heap.size ∧ w.heap.size < w'.heap.size ∧ e = .returned (.slice (some ⟨g, 0, none⟩) n (2 * n + 70)) ∧ Blk w' g 5 ((wideC bs).map (.int .u8)) := by
  refine weirlaw2_Wide_of A n c w _ ?_
  unfold weirlaw2_Wide_VC
  have e1 : IntKind.i64.wrap (IntKind.i64.wrap (2 * (n : Int)) + 70) = ((2 * n + 70 : Nat) : Int) := by
    rw [w64 (n := 2 * (n : Int)) (by omega) (by omega), w64 (by omega) (by omega)]; omega
  rw [e1]
  refine MakeVC.blk (by omega) (Int.le_refl _) (by omega) fun g w1 hg hz1 hE1 hb1 => ?_
  rw [Int.toNat_natCast] at hb1 ⊢
  refine CopyVC.part (N := 2 * n + 70) Tryd.underlying22 (by kernel_rfl) hb1 (by simp) (hb.ext hE1) (by simpa using hl) (by omega) (ints_one _ _) fun _m w2 hz2 hm2 hb2 => ?_
  have hE2 : Ext w w2 := hE1.set hm2 (by omega)
  have hb2 : Blk w2 g 5 ((bs ++ (List.range 0).map behindS ++ List.replicate (n + 70 - 0) 0).map (.int .u8)) := by
    rw [List.drop_replicate, show 2 * n + 70 - n = n + 70 - 0 by omega] at hb2
    simpa using hb2
  refine LoopVC.of (fun st w' => Mod (fun k => k = g) w2 w' ∧ w'.heap.size = w2.heap.size ∧ ∃ j : Nat, st = ((n + j : Nat) : Int) ∧ j ≤ n + 70 ∧ Blk w' g 5 ((bs ++ (List.range j).map behindS ++ List.replicate (n + 70 - j) 0).map (.int .u8))) (fun st _ => (((2 * n + 70 : Nat) : Int) - st).toNat)
    ⟨Mod.refl _ _, rfl, 0, rfl, by omega, hb2⟩ ?_
  rintro _ w3 ⟨hm3, hz3, j, rfl, hj, hb3⟩
  show weirlaw2_Wide_L122 _ n g ((n + j : Nat) : Int) w3 _
  unfold weirlaw2_Wide_L122
  rw [e1, Int.toNat_natCast]
  refine Br.dec (fun h => ?_) fun h => ?_
  · have e2 : IntKind.i64.wrap (((n + j : Nat) : Int) - (n : Int)) = (j : Int) := by rw [w64 (by omega) (by omega)]; omega
    rw [e2]
    refine (behind_spec (i := j) (by omega)).mono ?_
    rintro _ _ ⟨rfl, rfl⟩
    refine ⟨_, rfl, IdxVC.blk (by omega) (by omega) ?_⟩
    refine SetVC.blk hb3 (by simp; omega) fun w4 hz4 hm4 hb4 => ⟨⟨hm3.trans hm4, by omega, j + 1, ?_, by omega, ?_⟩, ?_⟩
    · rw [w64 (by omega) (by omega)]; omega
    · rw [Int.toNat_natCast, ← List.map_set] at hb4
      have e3 : (bs ++ (List.range j).map behindS ++ List.replicate (n + 70 - j) 0).set (n + j) (behindS j) = bs ++ (List.range (j + 1)).map behindS ++ List.replicate (n + 70 - (j + 1)) 0 := by
        rw [List.set_append_right _ _ (by simp; omega), show n + 70 - j = (n + 70 - (j + 1)) + 1 by omega, List.replicate_succ]
        simp only [List.length_append, List.length_map, List.length_range, hl, show n + j - (n + j) = 0 by omega, List.set_cons_zero, List.range_succ, List.map_append, List.map_cons, List.map_nil, List.append_assoc, List.cons_append, List.nil_append]
      rw [e3] at hb4
      exact hb4
    · rw [w64 (by omega) (by omega)]; omega
  · have : j = n + 70 := by omega
    subst this
    refine ⟨by omega, by omega, hE2.set hm3 (by omega), g, hg, by omega, ?_, ?_⟩
    · simp
    · have e4 : bs ++ (List.range (n + 70)).map behindS ++ List.replicate (n + 70 - (n + 70)) 0 = wideC bs := by simp [wideC, hl]
      rw [e4] at hb3
      exact hb3
theorem WideStands_spec {B : Option Addr} {m d : Nat} (hb : Blk w g 5 ((wideC L).map (.int .u8))) (hc : Cells w B (L.map (.int .u8))) (hm : L.length = m) (hn : L.length ≤ 66000) :
    Calls Tryd.prog 33 #[.slice (some ⟨g, 0, none⟩) L.length (2 * L.length + 70), .slice B m d] w fun e w' => Ext w w' ∧ e = .returned (.bool true) := by
  subst hm
  refine weirlaw2_WideStands_of _ L.length _ B L.length d w _ ?_
  unfold weirlaw2_WideStands_VC
  have e1 : IntKind.i64.wrap (IntKind.i64.wrap (2 * (L.length : Int)) + 70) = ((2 * L.length + 70 : Nat) : Int) := by
    rw [w64 (n := 2 * (L.length : Int)) (by omega) (by omega), w64 (by omega) (by omega)]; omega
  rw [e1]
  refine Br.no (by simp) ⟨by omega, by omega, ?_⟩
  rw [Int.toNat_natCast]
  have hwc : Cells w (some ⟨g, 0, none⟩) ((wideC L).map (.int .u8)) := Cells.of_blk hb 0
  refine LoopVC.of (fun st w' => Ext w w' ∧ ∃ i : Nat, st = (i : Int) ∧ i ≤ 2 * L.length + 70) (fun st _ => (((2 * L.length + 70 : Nat) : Int) - st).toNat) ⟨Mod.refl _ _, 0, rfl, by omega⟩ ?_
  rintro _ w1 ⟨hE1, i, rfl, hi⟩
  show weirlaw2_WideStands_L122 _ B L.length (some ⟨g, 0, none⟩) (2 * L.length + 70) (i : Int) w1 _
  unfold weirlaw2_WideStands_L122
  have hwl := wideC_len L
  have next : ∀ {w' : World}, Ext w w' → i < 2 * L.length + 70 → (Ext w w' ∧ ∃ i' : Nat, IntKind.i64.wrap ((i : Int) + 1) = (i' : Int) ∧ i' ≤ 2 * L.length + 70) ∧ (((2 * L.length + 70 : Nat) : Int) - IntKind.i64.wrap ((i : Int) + 1)).toNat < (((2 * L.length + 70 : Nat) : Int) - (i : Int)).toNat := fun hE h => by
    have e2 : IntKind.i64.wrap ((i : Int) + 1) = ((i + 1 : Nat) : Int) := by rw [w64 (by omega) (by omega)]; omega
    rw [e2]
    exact ⟨⟨hE, i + 1, rfl, by omega⟩, by omega⟩
  refine Br.dec (fun hlt => ?_) fun hge => ⟨hE1, rfl⟩
  have hlt : i < 2 * L.length + 70 := by omega
  refine DrawVC.of (fun w' => Ext w w') fun w2 hE2 _ => ⟨hE1.ext hE2, ?_⟩
  have hE := hE1.ext hE2
  refine Br.dec (fun hin => ?_) fun hout => ?_
  · refine IdxVC.draw (S := fun w' => Ext w w') hE (fun w' h => hwc.ext h) (by omega) (by omega) (by omega) fun a ha => ⟨_, ha, ?_⟩
    refine IdxVC.draw (S := fun w' => Ext w w') hE (fun w' h => hc.ext h) (by omega) (by omega) rfl fun a1 ha1 => ⟨_, ha1, ?_⟩
    refine Br.no ?_ (Br.no (by omega) (next hE hlt))
    rw [Int.toNat_natCast, wideC_front L i (by omega)]
    exact fun h => h rfl
  · refine Br.yes (by omega) ?_
    refine IdxVC.draw (S := fun w' => Ext w w') hE (fun w' h => hwc.ext h) (by omega) (by omega) (by omega) fun a ha => ⟨_, ha, ?_⟩
    have e2 : IntKind.i64.wrap ((i : Int) - (L.length : Int)) = ((i - L.length : Nat) : Int) := by rw [w64 (by omega) (by omega)]; omega
    rw [e2]
    refine (behind_spec (i := i - L.length) (by omega)).mono ?_
    rintro _ _ ⟨rfl, rfl⟩
    refine ⟨_, rfl, hE, Br.no ?_ (next hE hlt)⟩
    have := wideC_getD L (i - L.length) (by omega)
    rw [show L.length + (i - L.length) = i by omega] at this
    rw [Int.toNat_natCast, this]
    exact fun h => h rfl
end
end Nd
end Go.Proofs.YtjngdcilnipjcaaDoor
