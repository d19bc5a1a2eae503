/- Builders, call by call: Put, Patch, Done, Len. -/
import Derived.Test.YtdchpilghgnnoaaBld2
namespace Go.Eng
theorem beBytes_getD (v : Int) (k : Nat) {i : Nat} (h : i < k) : (beBytes v k).getD i 0 = v / 256 ^ (k - 1 - i) % 256 := by
  unfold beBytes patched
  simp [List.getD_eq_getElem?_getD, h]
/-- The document's way to one byte of eight. -/
theorem byte8 {x : Int} (h0 : 0 ≤ x) (h1 : x < 18446744073709551616) :
    IntKind.u8.wrap (IntKind.u64.wrap (Int.tdiv (IntKind.u64.wrap (Int.tdiv (IntKind.u64.wrap (Int.tdiv (IntKind.u64.wrap (Int.tdiv (IntKind.u64.wrap (Int.tdiv (IntKind.u64.wrap (Int.tdiv (IntKind.u64.wrap (Int.tdiv x 256)) 256)) 256)) 256)) 256)) 256)) 256)) = x / 72057594037927936 := by
  rw [Int.tdiv_eq_ediv_of_nonneg h0, wu64 (n := x / 256) (by omega) (by omega)]
  rw [Int.tdiv_eq_ediv_of_nonneg (show 0 ≤ x / 256 by omega), wu64 (n := x / 256 / 256) (by omega) (by omega)]
  rw [Int.tdiv_eq_ediv_of_nonneg (show 0 ≤ x / 256 / 256 by omega), wu64 (n := x / 256 / 256 / 256) (by omega) (by omega)]
  rw [Int.tdiv_eq_ediv_of_nonneg (show 0 ≤ x / 256 / 256 / 256 by omega), wu64 (n := x / 256 / 256 / 256 / 256) (by omega) (by omega)]
  rw [Int.tdiv_eq_ediv_of_nonneg (show 0 ≤ x / 256 / 256 / 256 / 256 by omega), wu64 (n := x / 256 / 256 / 256 / 256 / 256) (by omega) (by omega)]
  rw [Int.tdiv_eq_ediv_of_nonneg (show 0 ≤ x / 256 / 256 / 256 / 256 / 256 by omega), wu64 (n := x / 256 / 256 / 256 / 256 / 256 / 256) (by omega) (by omega)]
  rw [Int.tdiv_eq_ediv_of_nonneg (show 0 ≤ x / 256 / 256 / 256 / 256 / 256 / 256 by omega), wu64 (n := x / 256 / 256 / 256 / 256 / 256 / 256 / 256) (by omega) (by omega)]
  rw [wu8 (by omega) (by omega)]
  omega
theorem shift8 {v : Int} (h0 : 0 ≤ v) (h1 : v < 18446744073709551616) {i : Nat} (hi : i < 8) :
    (v * 256 ^ i % 18446744073709551616) / 72057594037927936 = v / 256 ^ (7 - i) % 256 ∧ (v * 256 ^ i % 18446744073709551616 * 256) % 18446744073709551616 = v * 256 ^ (i + 1) % 18446744073709551616 := by
  match i, hi with
  | 0, _ => simp only [Int.reducePow, Nat.reduceSub, Nat.reduceAdd]; omega
  | 1, _ => simp only [Int.reducePow, Nat.reduceSub, Nat.reduceAdd]; omega
  | 2, _ => simp only [Int.reducePow, Nat.reduceSub, Nat.reduceAdd]; omega
  | 3, _ => simp only [Int.reducePow, Nat.reduceSub, Nat.reduceAdd]; omega
  | 4, _ => simp only [Int.reducePow, Nat.reduceSub, Nat.reduceAdd]; omega
  | 5, _ => simp only [Int.reducePow, Nat.reduceSub, Nat.reduceAdd]; omega
  | 6, _ => simp only [Int.reducePow, Nat.reduceSub, Nat.reduceAdd]; omega
  | 7, _ => simp only [Int.reducePow, Nat.reduceSub, Nat.reduceAdd]; omega
theorem top_zero {v : Int} {q : Nat} (h0 : 0 ≤ v) (h1 : v < 256 ^ (q + 1)) (hz : v / 256 ^ q % 256 = 0) : v < 256 ^ q := by
  have hp : (0 : Int) < 256 ^ q := Int.pow_pos (by decide)
  rw [Int.pow_succ] at h1
  have h2 : v / 256 ^ q < 256 := Int.ediv_lt_of_lt_mul hp (by rwa [Int.mul_comm])
  have h3 : 0 ≤ v / 256 ^ q := Int.ediv_nonneg h0 (by omega)
  have h4 : v / 256 ^ q = 0 := by omega
  have h5 := Int.mul_ediv_add_emod v (256 ^ q)
  have h6 := Int.emod_lt_of_pos v hp
  rw [h4, Int.mul_zero, Int.zero_add] at h5
  omega
set_option maxRecDepth 8000 in
theorem top_not {v : Int} {q k : Nat} (h0 : 0 ≤ v) (hk : k ≤ q) (hz : v / 256 ^ q % 256 ≠ 0) : ¬ v < 256 ^ k := by
  intro h
  have h1 : (256 : Int) ^ k ≤ 256 ^ q := by
    have : (256 : Nat) ^ k ≤ 256 ^ q := Nat.pow_le_pow_right (by decide) hk
    exact_mod_cast this
  rw [Int.ediv_eq_zero_of_lt h0 (by omega)] at hz
  exact hz (by decide)
end Go.Eng
namespace Go.Proofs.Ytdchpilghgnnoaa
open Go.Eng Go.RowKit

/-- Why a number is not laid in. -/
def numErr (k v : Int) : Int := if ¬ (1 ≤ k ∧ k ≤ 8) then 1 else if ¬ (v < 256 ^ k.toNat) then 12 else 0

set_option maxHeartbeats 1000000 in
theorem refBytes_spec {k v : Int} {w : World} (hv : 0 ≤ v ∧ v < 18446744073709551616) :
    Calls Try.prog 72 #[.int .i64 k, .int .u64 v] w fun e w' => Ext w w' ∧ ∃ sA sn sc, e = .returned (.tuple #[.slice sA sn sc, .int .i64 (numErr k v)]) ∧
      (numErr k v = 0 → sn = k.toNat ∧ ∀ (M : Nat → Prop) (w2 : World), Mod M w' w2 → (∀ j, w.heap.size ≤ j → ¬ M j) → Cells w2 sA ((beBytes v k.toNat).map (.int .u8))) := by
  refine weirref1_Bytes_of k v w _ ?_
  unfold weirref1_Bytes_VC
  have hbad : ¬ (1 ≤ k ∧ k ≤ 8) → numErr k v = 1 := fun h => by unfold numErr; rw [if_pos h]
  refine Br.dec (fun h => ⟨Mod.refl _ _, none, 0, 0, by rw [hbad (by omega)], fun e => by rw [hbad (by omega)] at e; omega⟩) (fun h1 => Br.dec (fun h => ⟨Mod.refl _ _, none, 0, 0, by rw [hbad (by omega)], fun e => by rw [hbad (by omega)] at e; omega⟩) (fun h2 => ?_))
  obtain ⟨m, rfl⟩ := Int.eq_ofNat_of_zero_le (show 0 ≤ k by omega)
  refine LoopVC.of (fun s w' => ∃ (i : Nat) (A' : Option Addr) (c' : Nat), i ≤ 8 ∧ s = (v * 256 ^ i % 18446744073709551616, (A', i, c'), (i : Int)) ∧ Ext w w' ∧ i ≤ c' ∧
    w'.ownsRow w.heap.size 5 1 (.slice A' i c') i (((List.range i).map fun (q : Nat) => v / 256 ^ (7 - q) % 256).map (.int .u8))) (fun s _ => (8 - s.2.2).toNat)
    ⟨0, none, 0, by omega, ?_, Mod.refl _ _, by omega, World.ownsRow_nil _ _ _ _⟩ ?_
  · rw [Int.pow_zero, Int.mul_one, Int.emod_eq_of_lt hv.1 hv.2]; rfl
  rintro _ w1 ⟨i, A', c', hi, rfl, hE, hic, hown⟩
  show weirref1_Bytes_L122 _ (m : Int) (v * 256 ^ i % 18446744073709551616) A' i c' (i : Int) w1 _
  unfold weirref1_Bytes_L122
  refine Br.dec (fun hlt => ?_) (fun hge => ?_)
  · have hs := shift8 hv.1 hv.2 (i := i) (by omega)
    rw [byte8 (by omega) (by omega), hs.1]
    refine AppVC.one Try.underlying22 tyByte rfl hown rfl (by omega) (by decide) hE.size fun A2 c2 w2 hown2 hm2 hc2 => ?_
    refine ⟨⟨i + 1, A2, c2, by omega, ?_, Ext.own hE hown hm2, hc2, ?_⟩, ?_⟩
    · rw [u64_eq, hs.2, w64 (by omega) (by omega)]; rfl
    · rw [List.range_succ, List.map_append, List.map_append]; exact hown2
    · simp only
      rw [w64 (by omega) (by omega)]; omega
  · have h8 : i = 8 := by omega
    subst h8
    have hl8 : ((List.range 8).map fun (q : Nat) => v / 256 ^ (7 - q) % 256).length = 8 := by simp
    have hm8 : m ≤ 8 := by omega
    refine LoopVC.of (fun s w' => w1 = w' ∧ ∃ j : Nat, j ≤ 8 - m ∧ s = (j : Int) ∧ v < 256 ^ (8 - j)) (fun s _ => (8 - s).toNat) ⟨rfl, 0, by omega, rfl, by rw [Nat.sub_zero, show (256 : Int) ^ 8 = 18446744073709551616 by decide]; exact hv.2⟩ ?_
    rintro _ w2 ⟨rfl, j, hj, rfl, hvj⟩
    show weirref1_Bytes_L250 _ (m : Int) A' 8 c' (j : Int) w1 _
    unfold weirref1_Bytes_L250
    rw [w64 (n := 8 - (m : Int)) (by omega) (by omega)]
    refine Br.dec (fun hlt => ?_) (fun hge => ?_)
    · refine IdxVC.int (own_cells hown) (by omega) (by omega) hl8 fun a hc => ⟨_, hc, ?_⟩
      have hg : ((List.range 8).map fun (q : Nat) => v / 256 ^ (7 - q) % 256).getD (j : Int).toNat 0 = v / 256 ^ (7 - j) % 256 := by
        rw [Int.toNat_natCast]
        simp [List.getD_eq_getElem?_getD, show j < 8 by omega]
      rw [hg]
      refine Br.dec (fun hne => ?_) (fun heq => ?_)
      · have he : numErr (m : Int) v = 12 := by
          unfold numErr
          rw [if_neg (by omega), if_pos (by rw [Int.toNat_natCast]; exact top_not hv.1 (by omega) hne)]
        exact ⟨hE, none, 0, 0, by rw [he], fun e => by omega⟩
      · have hz : v / 256 ^ (7 - j) % 256 = 0 := by simpa using heq
        refine ⟨⟨rfl, j + 1, by omega, by rw [w64 (by omega) (by omega)]; omega, ?_⟩, by rw [w64 (by omega) (by omega)]; omega⟩
        rw [show 8 - (j + 1) = 7 - j by omega]
        exact top_zero hv.1 (by rwa [show 7 - j + 1 = 8 - j by omega]) hz
    · have hjm : j = 8 - m := by omega
      subst hjm
      have he : numErr (m : Int) v = 0 := by
        unfold numErr
        rw [if_neg (by omega), if_neg (by rw [Int.toNat_natCast]; rw [show 8 - (8 - m) = m by omega] at hvj; omega)]
      refine ⟨by omega, by omega, ?_⟩
      have et : (8 - (m : Int)).toNat = 8 - m := by omega
      rw [et, if_neg (by omega), he, Int.toNat_natCast]
      refine ⟨hE, _, _, _, rfl, fun _ => ⟨by omega, fun M w2 hM hn => ?_⟩⟩
      have hown2 := own_mod hown hM fun g hg => hn g (own_new hown g hg)
      have := (own_cells hown2).drop (8 - m) (c := 9 + 8) (by simp) 1 (.inl rfl)
      rw [if_neg (by omega), ← List.map_drop] at this
      have hd : ((List.range 8).map fun (q : Nat) => v / 256 ^ (7 - q) % 256).drop (8 - m) = beBytes v m := by
        apply List.ext_getElem
        · simp [beBytes_length]; omega
        · intro q h1 h2
          rw [beBytes_length] at h2
          have hb := beBytes_getD v m h2
          have hb2 : (beBytes v m).getD q 0 = (beBytes v m)[q] := by simp [beBytes_length, h2]
          rw [← hb2, hb]
          simp only [List.getElem_drop, List.getElem_map, List.getElem_range]
          rw [show 7 - (8 - m + q) = m - 1 - q by omega]
      rwa [hd] at this
end Go.Proofs.Ytdchpilghgnnoaa
