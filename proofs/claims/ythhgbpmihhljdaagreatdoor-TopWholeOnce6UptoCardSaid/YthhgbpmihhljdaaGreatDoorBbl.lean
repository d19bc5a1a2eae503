/- Contracts of the document's own answer for Pack and Bytes (package weirref1). -/
import Derived.Test.YthhgbpmihhljdaaGreatDoorBah
import Derived.Test.YthhgbpmihhljdaaGreatDoorBao
import Derived.Test.YthhgbpmihhljdaaGreatDoorBas
namespace Go.Eng
/-- The bits of a number out of bits. -/
theorem bit_of_fieldV {f : Nat → Int} (hf : ∀ i, 0 ≤ f i ∧ f i < 2) (p j : Nat) (hj : j < 8) : (fieldV f p 8 / 2 ^ (7 - j)) % 2 = f (p + j) := by
  have h0 := hf (p + 0)
  have h1 := hf (p + 1)
  have h2 := hf (p + 2)
  have h3 := hf (p + 3)
  have h4 := hf (p + 4)
  have h5 := hf (p + 5)
  have h6 := hf (p + 6)
  have h7 := hf (p + 7)
  simp only [fieldV]
  match j, hj with
  | 0, _ => simp only [Int.reducePow, Nat.sub_zero]; omega
  | 1, _ => simp only [Int.reducePow, Nat.reduceSub]; omega
  | 2, _ => simp only [Int.reducePow, Nat.reduceSub]; omega
  | 3, _ => simp only [Int.reducePow, Nat.reduceSub]; omega
  | 4, _ => simp only [Int.reducePow, Nat.reduceSub]; omega
  | 5, _ => simp only [Int.reducePow, Nat.reduceSub]; omega
  | 6, _ => simp only [Int.reducePow, Nat.reduceSub]; omega
  | 7, _ => simp only [Int.reducePow, Nat.reduceSub]; omega
/-- A row of bits. -/
def Row01 (row : List Int) : Prop := ∀ x ∈ row, 0 ≤ x ∧ x < 2
theorem Row01.at {row : List Int} (h : Row01 row) (i : Nat) : 0 ≤ row.getD i 0 ∧ row.getD i 0 < 2 := by
  by_cases hi : i < row.length
  · have e : row.getD i 0 = row[i] := by simp [hi]
    rw [e]; exact h _ (List.getElem_mem hi)
  · have e : row.getD i 0 = 0 := by simp [Nat.le_of_not_lt hi]
    omega
theorem Row01.snoc {row : List Int} (h : Row01 row) {b : Int} (h0 : 0 ≤ b) (h1 : b < 2) : Row01 (row ++ [b]) := by
  intro x hx
  rcases List.mem_append.1 hx with hx | hx
  · exact h x hx
  · simp at hx; omega
theorem getD_append_left {row : List Int} {q : Nat} (h : q < row.length) (l : List Int) : (row ++ l).getD q 0 = row.getD q 0 := by
  simp [List.getElem?_append_left h]
theorem getD_snoc (row : List Int) (b : Int) : (row ++ [b]).getD row.length 0 = b := by simp
theorem bitAt_rows {row l : List Int} {t : Nat} (hr : Row01 row) (hl : l = (List.range t).map fun q => fieldV (fun i => row.getD i 0) (8 * q) 8) {i : Nat} (hi : i < 8 * t) : bitAt l i = row.getD i 0 := by
  subst hl
  unfold bitAt
  have e : ((List.range t).map fun q => fieldV (fun i => row.getD i 0) (8 * q) 8).getD (i / 8) 0 = fieldV (fun i => row.getD i 0) (8 * (i / 8)) 8 := by
    simp [List.getD_eq_getElem?_getD, show i / 8 < t by omega]
  rw [e, bit_of_fieldV hr.at _ _ (by omega)]
  rw [show 8 * (i / 8) + i % 8 = i by omega]
def beBytes (v : Int) (k : Nat) : List Int := (List.range k).map fun i => v / 256 ^ (k - 1 - i) % 256
theorem beBytes_length (v : Int) (k : Nat) : (beBytes v k).length = k := by simp [beBytes]
theorem beBytes_getD (v : Int) (k : Nat) {i : Nat} (h : i < k) : (beBytes v k).getD i 0 = v / 256 ^ (k - 1 - i) % 256 := by
  simp [beBytes, List.getD_eq_getElem?_getD, h]
/-- The document's way to one byte of eight. -/
theorem byte8 {x : Int} (h0 : 0 ≤ x) (h1 : x < 18446744073709551616) :
    IntKind.u8.wrap (IntKind.u64.wrap (Int.tdiv (IntKind.u64.wrap (Int.tdiv (IntKind.u64.wrap (Int.tdiv (IntKind.u64.wrap (Int.tdiv (IntKind.u64.wrap (Int.tdiv (IntKind.u64.wrap (Int.tdiv (IntKind.u64.wrap (Int.tdiv x 256)) 256)) 256)) 256)) 256)) 256)) 256)) = x / 72057594037927936 := by
  rw [Int.tdiv_eq_ediv_of_nonneg h0, wu64 (n := x / 256) (by omega) (by omega)]
  rw [Int.tdiv_eq_ediv_of_nonneg (show 0 ≤ x / 256 by omega), wu64 (n := x / 256 / 256) (by omega) (by omega)]
  rw [Int.tdiv_eq_ediv_of_nonneg (show 0 ≤ x / 256 / 256 by omega), wu64 (n := x / 256 / 256 / 256) (by omega) (by omega)]
  rw [Int.tdiv_eq_ediv_of_nonneg (show 0 ≤ x / 256 / 256 / 256 by omega), wu64 (n := x / 256 / 256 / 256 / 256) (by omega) (by omega)]
  rw [Int.tdiv_eq_ediv_of_nonneg (show 0 ≤ x / 256 / 256 / 256 / 256 by omega), wu64 (n := x / 256 / 256 / 256 / 256 / 256) (by omega) (by omega)]
  rw [Int.tdiv_eq_ediv_of_nonneg (show 0 ≤ x / 256 / 256 / 256 / 256 / 256 by omega), wu64 (n := x / 256 / 256 / 256 / 256 / 256 / 256) (by omega) (by omega)]
  rw [Int.tdiv_eq_ediv_of_nonneg (show 0 ≤ x / 256 / 256 / 256 / 256 / 256 / 256 by omega), wu64 (n := x / 256 / 256 / 256 / 256 / 256 / 256 / 256) (by omega) (by omega)]
  rw [wu8 (by omega) (by omega)]
  omega
theorem shift8 {v : Int} (h0 : 0 ≤ v) (h1 : v < 18446744073709551616) {i : Nat} (hi : i < 8) :
    (v * 256 ^ i % 18446744073709551616) / 72057594037927936 = v / 256 ^ (7 - i) % 256 ∧ (v * 256 ^ i % 18446744073709551616 * 256) % 18446744073709551616 = v * 256 ^ (i + 1) % 18446744073709551616 := by
  match i, hi with
  | 0, _ => simp only [Int.reducePow, Nat.reduceSub, Nat.reduceAdd]; omega
  | 1, _ => simp only [Int.reducePow, Nat.reduceSub, Nat.reduceAdd]; omega
  | 2, _ => simp only [Int.reducePow, Nat.reduceSub, Nat.reduceAdd]; omega
  | 3, _ => simp only [Int.reducePow, Nat.reduceSub, Nat.reduceAdd]; omega
  | 4, _ => simp only [Int.reducePow, Nat.reduceSub, Nat.reduceAdd]; omega
  | 5, _ => simp only [Int.reducePow, Nat.reduceSub, Nat.reduceAdd]; omega
  | 6, _ => simp only [Int.reducePow, Nat.reduceSub, Nat.reduceAdd]; omega
  | 7, _ => simp only [Int.reducePow, Nat.reduceSub, Nat.reduceAdd]; omega
theorem top_zero {v : Int} {q : Nat} (h0 : 0 ≤ v) (h1 : v < 256 ^ (q + 1)) (hz : v / 256 ^ q % 256 = 0) : v < 256 ^ q := by
  have hp : (0 : Int) < 256 ^ q := Int.pow_pos (by decide)
  rw [Int.pow_succ] at h1
  have h2 : v / 256 ^ q < 256 := Int.ediv_lt_of_lt_mul hp (by rwa [Int.mul_comm])
  have h3 : 0 ≤ v / 256 ^ q := Int.ediv_nonneg h0 (by omega)
  have h4 : v / 256 ^ q = 0 := by omega
  have h5 := Int.mul_ediv_add_emod v (256 ^ q)
  have h6 := Int.emod_lt_of_pos v hp
  rw [h4, Int.mul_zero, Int.zero_add] at h5
  omega
set_option maxRecDepth 8000 in
theorem top_not {v : Int} {q k : Nat} (h0 : 0 ≤ v) (hk : k ≤ q) (hz : v / 256 ^ q % 256 ≠ 0) : ¬ v < 256 ^ k := by
  intro h
  have h1 : (256 : Int) ^ k ≤ 256 ^ q := by
    have : (256 : Nat) ^ k ≤ 256 ^ q := Nat.pow_le_pow_right (by decide) hk
    exact_mod_cast this
  rw [Int.ediv_eq_zero_of_lt h0 (by omega)] at hz
  exact hz (by decide)
end Go.Eng
namespace Go.Proofs.YthhgbpmihhljdaaGreatDoor
namespace N6
open Go.Eng Go.RowKit
theorem refBits_spec {A : Option Addr} {n c : Nat} {ws : List Int} {w : World} (hb : Cells w A (ws.map (.int .i64))) (hl : ws.length = n) :
    Calls Tryz.prog 68 #[.slice A n c] w fun e w' => w = w' ∧ ((widthsOk ws ∧ e = .returned (.int .i64 (psum ws))) ∨ (¬ widthsOk ws ∧ e = .returned (.int .i64 (-1)))) := by
  refine weirref1_bits_of A n c w _ ?_
  unfold weirref1_bits_VC
  refine Br.dec (fun h => ⟨rfl, .inr ⟨fun hok => ?_, rfl⟩⟩) (fun h64 => ?_)
  · have := hok.1; omega
  refine LoopVC.of (fun s w1 => w = w1 ∧ ∃ i : Nat, i ≤ n ∧ s = (psum (ws.take i), (i : Int)) ∧ W32 (ws.take i)) (fun s _ => (n - s.2).toNat) ⟨rfl, 0, by omega, rfl, fun x hx => by simp at hx⟩ ?_
  rintro _ w1 ⟨rfl, i, hi, rfl, hWi⟩
  have hb1 := psum_bound hWi
  have hle : (ws.take i).length ≤ 64 := by rw [List.length_take]; omega
  show weirref1_bits_L122 _ A n (psum (ws.take i)) (i : Int) w _
  unfold weirref1_bits_L122
  refine Br.dec (fun h1 => ?_) (fun h1 => ?_)
  · refine IdxVC.int hb (by omega) (by omega) hl fun a hc => ⟨_, hc, ?_⟩
    have hil : i < ws.length := by omega
    rw [getD_cast _ _ hil]
    refine Br.dec (fun h2 => ⟨rfl, .inr ⟨fun hok => ?_, rfl⟩⟩) (fun h2 => ?_)
    · have := hok.2.1 _ (List.getElem_mem hil); omega
    refine IdxVC.int hb (by omega) (by omega) hl fun a hc => ⟨_, hc, ?_⟩
    rw [getD_cast _ _ hil]
    refine Br.dec (fun h3 => ⟨rfl, .inr ⟨fun hok => ?_, rfl⟩⟩) (fun h3 => ?_)
    · have := hok.2.1 _ (List.getElem_mem hil); omega
    refine IdxVC.int hb (by omega) (by omega) hl fun a hc => ⟨_, hc, ?_⟩
    rw [getD_cast _ _ hil]
    have e2 : psum (ws.take (i + 1)) = psum (ws.take i) + ws[i] := by
      rw [List.take_succ_eq_append_getElem hil, psum_snoc]
    refine ⟨⟨rfl, i + 1, by omega, ?_, ?_⟩, ?_⟩
    · rw [w64 (n := psum (ws.take i) + ws[i]) (by omega) (by omega), w64 (n := (i : Int) + 1) (by omega) (by omega), e2]; simp
    · intro x hx
      rw [List.take_succ_eq_append_getElem hil] at hx
      rcases List.mem_append.1 hx with hx | hx
      · exact hWi x hx
      · simp at hx; omega
    · simp only
      rw [w64 (n := (i : Int) + 1) (by omega) (by omega)]; omega
  · have hin : i = ws.length := by omega
    subst hin
    rw [List.take_length] at hb1 hWi ⊢
    rw [Int.tmod_eq_emod_of_nonneg hb1.1]
    refine Br.dec (fun h8 => ⟨rfl, .inr ⟨fun hok => h8 hok.2.2, rfl⟩⟩) (fun h8 => ⟨rfl, .inl ⟨⟨by omega, hWi, by omega⟩, rfl⟩⟩)
theorem power_spec {k : Nat} {w : World} (hk : k ≤ 62) : Calls Tryz.prog 69 #[.int .i64 (k : Int)] w fun e w' => w = w' ∧ e = .returned (.int .i64 (2 ^ k)) := by
  refine weirref1_power_of (k : Int) w _ ?_
  unfold weirref1_power_VC
  refine LoopVC.of (fun s w1 => w = w1 ∧ ∃ i : Nat, i ≤ k ∧ s = ((2 : Int) ^ i, (i : Int))) (fun s _ => (k - s.2).toNat) ⟨rfl, 0, by omega, rfl⟩ ?_
  rintro _ w1 ⟨rfl, i, hi, rfl⟩
  show weirref1_power_L58 _ (k : Int) ((2 : Int) ^ i) (i : Int) w _
  unfold weirref1_power_L58
  refine Br.dec (fun h => ⟨⟨rfl, i + 1, by omega, ?_⟩, ?_⟩) (fun h => ⟨rfl, ?_⟩)
  · have hp : (2 : Int) ^ i ≤ 2 ^ 61 := by
      have : (2 : Nat) ^ i ≤ 2 ^ 61 := Nat.pow_le_pow_right (by decide) (by omega)
      exact_mod_cast this
    have hp' : (2 : Int) ^ 61 = 2305843009213693952 := by decide
    have hp0 : (0 : Int) < 2 ^ i := Int.pow_pos (by decide)
    rw [w64 (n := 2 * (2 : Int) ^ i) (by omega) (by omega), w64 (by omega) (by omega), Int.pow_succ, Int.mul_comm]
    rfl
  · simp only
    rw [w64 (by omega) (by omega)]; omega
  · have : i = k := by omega
    subst this
    rfl
/-- How a row of bits stands for the first values. -/
structure BitRow (ws vs row : List Int) (i : Nat) : Prop where
  bits : Row01 row
  len : (row.length : Int) = psum (ws.take i)
  vals : fieldsV (fun q => row.getD q 0) 0 (ws.take i) = vs.take i

theorem pack_tail {w0 w : World} {R : Ending → World → Prop} {RA : Option Addr} {row ws vs : List Int} (hE : Ext w0 w) (hrow : Cells w RA (row.map (.int .i64))) (hok : widthsOk ws) (hv : vs.length = ws.length) (hb : BitRow ws vs row ws.length)
    (h : ∀ w' A' c' ds, Ext w0 w' → Packed ws vs ds → w'.ownsRow w.heap.size 5 1 (.slice A' ds.length c') ds.length (ds.map (.int .u8)) → R (.returned (.tuple #[.slice A' ds.length c', .int .i64 0])) w') :
    LoopVC (S := (Option Addr × Nat × Nat) × Int) (fun s w10 K2042 => weirref1_Pack_L2042 R (psum ws) RA row.length s.1.1 s.1.2.1 s.1.2.2 s.2 w10 K2042) ((none, 0, 0), 0) w := by
  have hW := hok.2.1
  have hpb := psum_bound hW
  have h64 : ws.length ≤ 64 := hok.1
  have h8 := hok.2.2
  have hlen := hb.len
  have hvals := hb.vals
  rw [List.take_length] at hlen hvals
  rw [List.take_of_length_le (by omega)] at hvals
  refine LoopVC.of (fun s w' => ∃ (t : Nat) (A2 : Option Addr) (c2 : Nat), 8 * t ≤ row.length ∧ s = ((A2, t, c2), 8 * (t : Int)) ∧ Ext w w' ∧
    w'.ownsRow w.heap.size 5 1 (.slice A2 t c2) t (((List.range t).map fun q => fieldV (fun i => row.getD i 0) (8 * q) 8).map (.int .u8))) (fun s _ => (row.length - s.2).toNat) ⟨0, none, 0, by omega, by simp, Mod.refl _ _, World.ownsRow_nil _ _ _ _⟩ ?_
  rintro _ w1 ⟨t, A2, c2, ht, rfl, hE1, hown⟩
  show weirref1_Pack_L2042 R (psum ws) RA row.length A2 t c2 (8 * (t : Int)) w1 _
  unfold weirref1_Pack_L2042
  refine Br.dec (fun hlt => ?_) (fun hge => ?_)
  · refine LoopVC.of (fun s w' => w1 = w' ∧ ∃ j : Nat, j ≤ 8 ∧ s = (fieldV (fun i => row.getD i 0) (8 * t) j, 8 * (t : Int) + j)) (fun s _ => (8 * t + 8 - s.2).toNat) ⟨rfl, 0, by omega, by simp [fieldV]⟩ ?_
    rintro _ w2 ⟨rfl, j, hj, rfl⟩
    show weirref1_Pack_L522826 RA row.length A2 t c2 (8 * (t : Int)) _ (fieldV (fun i => row.getD i 0) (8 * t) j) (8 * (t : Int) + j) w1 _
    unfold weirref1_Pack_L522826
    have hfb := fieldV_bound hb.bits.at (8 * t) j
    have hp2 := pow2_32 (n := j) (by omega)
    rw [w64 (n := 8 * (t : Int) + 8) (by omega) (by omega)]
    refine Br.dec (fun hjl => ?_) (fun hjg => ?_)
    · refine IdxVC.int (hrow.ext hE1) (by omega) (by omega) rfl fun a hc => ⟨_, hc, ?_⟩
      have e1 : (8 * (t : Int) + j).toNat = 8 * t + j := by omega
      have h01 := hb.bits.at (8 * t + j)
      rw [e1, w64 (n := 2 * fieldV (fun i => row.getD i 0) (8 * t) j) (by omega) (by omega), w64 (n := 2 * fieldV (fun i => row.getD i 0) (8 * t) j + row.getD (8 * t + j) 0) (by omega) (by omega), w64 (n := 8 * (t : Int) + j + 1) (by omega) (by omega)]
      refine ⟨⟨rfl, j + 1, by omega, ?_⟩, by simp only; omega⟩
      simp only [fieldV]
      rw [Prod.mk.injEq]; constructor
      · rfl
      · omega
    · have hj8 : j = 8 := by omega
      subst hj8
      rw [wu8 hfb.1 (by have : (2 : Int) ^ 8 = 256 := by decide
                        omega)]
      refine AppVC.one Tryz.underlying28 tyByte rfl hown rfl (by omega) (by decide) hE1.size fun A3 c3 w7 hown7 hm7 hc7 => ?_
      refine ⟨⟨t + 1, A3, c3, by omega, ?_, Ext.own hE1 hown hm7, ?_⟩, ?_⟩
      · simp; omega
      · rw [List.range_succ, List.map_append, List.map_append]; exact hown7
      · simp only; omega
  · have hl : row.length = 8 * t := by omega
    have hpk : Packed ws vs ((List.range t).map fun q => fieldV (fun i => row.getD i 0) (8 * q) 8) := by
      refine ⟨by simp; omega, ?_, ?_⟩
      · intro x hx
        obtain ⟨q, _, rfl⟩ := List.mem_map.1 hx
        exact fieldV_bound hb.bits.at (8 * q) 8
      · rw [← hvals]
        refine fieldsV_congr ws 0 hW fun i hi => ?_
        rw [Nat.zero_add]
        exact bitAt_rows hb.bits rfl (by omega)
    have := h w1 A2 c2 _ (hE.ext hE1) hpk (by simpa using hown)
    simpa using this

theorem pack_bits {w0 w : World} {A RA : Option Addr} {n rc i : Nat} {wide v : Int} {row ws vs : List Int} {K : (Option Addr × Nat × Nat) × Int → World → Prop} (hE : Ext w0 w) (hvs : Cells w0 A (vs.map (.int .i64))) (hn : vs.length = n) (hi : i < n) (hv : vs.getD i 0 = v)
    (hw0 : 1 ≤ wide) (hw1 : wide ≤ 32) (hv0 : 0 ≤ v) (hv1 : v < 2 ^ wide.toNat) (hown : w.ownsRow w0.heap.size 3 1 (.slice RA row.length rc) row.length (row.map (.int .i64))) (hb : BitRow ws vs row i) (hW : W32 (ws.take i)) (hsz : row.length ≤ 4096)
    (hK : ∀ w' A' c' row', Ext w0 w' → w'.ownsRow w0.heap.size 3 1 (.slice A' row'.length c') row'.length (row'.map (.int .i64)) → Row01 row' → (row'.length : Int) = row.length + wide → fieldsV (fun q => row'.getD q 0) 0 (ws.take i) = vs.take i →
      fieldV (fun q => row'.getD q 0) row.length wide.toNat = v → K ((A', row'.length, c'), IntKind.i64.wrap ((i : Int) + 1)) w') :
    LoopVC (S := (Option Addr × Nat × Nat) × Int) (fun s w5 K64806 => weirref1_Pack_L64806 A n (i : Int) K s.1.1 s.1.2.1 s.1.2.2 s.2 w5 K64806) ((RA, row.length, rc), IntKind.i64.wrap (wide - 1)) w := by
  rw [w64 (n := wide - 1) (by omega) (by omega)]
  have hpsn := psum_bound hW
  have hbl := hb.len
  refine LoopVC.of (fun s w' => ∃ (j : Nat) (A2 : Option Addr) (c2 : Nat) (row2 : List Int), (j : Int) ≤ wide ∧ s = ((A2, row2.length, c2), wide - 1 - j) ∧ Ext w0 w' ∧ w'.ownsRow w0.heap.size 3 1 (.slice A2 row2.length c2) row2.length (row2.map (.int .i64)) ∧
    Row01 row2 ∧ row2.length = row.length + j ∧ fieldsV (fun q => row2.getD q 0) 0 (ws.take i) = vs.take i ∧ fieldV (fun q => row2.getD q 0) row.length j = v / 2 ^ (wide.toNat - j)) (fun s _ => (s.2 + 1).toNat) ?_ ?_
  · refine ⟨0, RA, rc, row, by omega, by simp, hE, hown, hb.bits, rfl, hb.vals, ?_⟩
    simp only [fieldV, Nat.sub_zero]
    rw [Int.ediv_eq_zero_of_lt hv0 hv1]
  rintro _ w1 ⟨j, A2, c2, row2, hj, rfl, hE1, hown1, h01, hlen, hvals, hfv⟩
  show weirref1_Pack_L64806 A n (i : Int) K A2 row2.length c2 (wide - 1 - j) w1 _
  unfold weirref1_Pack_L64806
  refine Br.dec (fun hk => ?_) (fun hk => ?_)
  · intro w2 hw2
    have hE2 : Ext w1 w2 := by subst hw2; exact Ext.drew w1
    have hE02 := hE1.ext hE2
    refine ⟨fun w' => Ext w0 w', hE02, ?_⟩
    refine IdxVC.draw (S := fun w' => Ext w0 w') hE02 (fun w' h => hvs.ext h) (by omega) (by omega) hn fun a hc => ⟨_, hc, ?_⟩
    rw [Int.toNat_natCast, hv]
    have ek : wide - 1 - (j : Int) = ((wide.toNat - (j + 1) : Nat) : Int) := by omega
    rw [ek]
    refine (power_spec (by omega)).mono ?_
    rintro _ w3 ⟨rfl, rfl⟩
    have hpw : (0 : Int) < 2 ^ (wide.toNat - (j + 1)) := Int.pow_pos (by decide)
    refine ⟨_, rfl, hE02, by omega, ?_⟩
    have hp := pow2_32 (n := wide.toNat) (by omega)
    have hdb : 0 ≤ v / 2 ^ (wide.toNat - (j + 1)) := Int.ediv_nonneg hv0 (Int.pow_nonneg (by decide))
    have hdb2 : v / 2 ^ (wide.toNat - (j + 1)) ≤ v := Int.ediv_le_self _ hv0
    rw [Int.tdiv_eq_ediv_of_nonneg hv0, w64 (n := v / 2 ^ (wide.toNat - (j + 1))) (by omega) (by omega), Int.tmod_eq_emod_of_nonneg hdb]
    obtain ⟨ti, hti, htz, hts, hty⟩ := tyInt
    refine NewVC.blk fun g w8 hg hz8 hE8 hb8 => ⟨hE02.ext hE8, ?_⟩
    have hown8 := own_ext hown1 (hE2.ext hE8)
    refine AppVC.own Tryz.underlying31 hti htz hts hty rfl (by decide) hown8 (by simpa using Cells.of_blk hb8 0) rfl (by simp [Value.oneCell']) (by omega) (by decide) (hE02.ext hE8).size fun A3 c3 w9 hown9 hm9 hc9 => ?_
    have hE9 := Ext.own (hE02.ext hE8) hown8 hm9
    refine ⟨hE9, ⟨j + 1, A3, c3, row2 ++ [(v / 2 ^ (wide.toNat - (j + 1))) % 2], by omega, ?_, hE9, ?_, h01.snoc (by omega) (by omega), by simp; omega, ?_, ?_⟩, ?_⟩
    · rw [w64 (by omega) (by omega)]
      simp; omega
    · simpa using hown9
    · rw [← hvals]
      refine fieldsV_congr _ _ hW fun q hq => ?_
      exact getD_append_left (by omega) _
    · simp only [fieldV]
      have e1 : (row2 ++ [(v / 2 ^ (wide.toNat - (j + 1))) % 2]).getD (row.length + j) 0 = (v / 2 ^ (wide.toNat - (j + 1))) % 2 := by
        rw [← hlen]; exact getD_snoc _ _
      have e2 : fieldV (fun q => (row2 ++ [(v / 2 ^ (wide.toNat - (j + 1))) % 2]).getD q 0) row.length j = fieldV (fun q => row2.getD q 0) row.length j :=
        fieldV_congr _ _ _ fun q hq => getD_append_left (by omega) _
      rw [e1, e2, hfv]
      have := half_join v (wide.toNat - (j + 1)) hv0
      rwa [show wide.toNat - (j + 1) + 1 = wide.toNat - j by omega] at this
    · simp only
      rw [w64 (by omega) (by omega)]; omega
  · have hjw : (j : Int) = wide := by omega
    have hj2 : j = wide.toNat := by omega
    refine hK w1 A2 c2 row2 hE1 hown1 h01 (by omega) hvals ?_
    rw [← hj2, hfv, ← hj2]; simp

theorem refPack_spec {A W : Option Addr} {n c m d : Nat} {ws vs : List Int} {w : World} (hws : Cells w W (ws.map (.int .i64))) (hm : ws.length = m) (hvs : Cells w A (vs.map (.int .i64))) (hn : vs.length = n) :
    Calls Tryz.prog 46 #[.slice W m d, .slice A n c] w fun e w' => Ext w w' ∧
      ((widthsOk ws ∧ n = m ∧ valuesOk ws vs ∧ ∃ A' c' ds, Packed ws vs ds ∧ e = .returned (.tuple #[.slice A' ds.length c', .int .i64 0]) ∧ w'.ownsRow w.heap.size 5 1 (.slice A' ds.length c') ds.length (ds.map (.int .u8))) ∨
       (widthsOk ws ∧ n = m ∧ ¬ valuesOk ws vs ∧ e = .returned (.tuple #[.slice none 0 0, .int .i64 12])) ∨
       (widthsOk ws ∧ n ≠ m ∧ e = .returned (.tuple #[.slice none 0 0, .int .i64 1])) ∨
       (¬ widthsOk ws ∧ e = .returned (.tuple #[.slice none 0 0, .int .i64 11]))) := by
  refine weirref1_Pack_of W m d A n c w _ ?_
  unfold weirref1_Pack_VC
  refine (refBits_spec hws hm).mono ?_
  rintro _ w1 ⟨rfl, ⟨hok, rfl⟩ | ⟨hok, rfl⟩⟩
  · refine ⟨_, rfl, ?_⟩
    have hW := hok.2.1
    have hpb := psum_bound hW
    have h64 : ws.length ≤ 64 := hok.1
    have h8 := hok.2.2
    refine Br.no (by omega) (Br.dec (fun hnm => ⟨Mod.refl _ _, .inr (.inr (.inl ⟨hok, by omega, rfl⟩))⟩) (fun hnm => ?_))
    have hnm : n = m := by omega
    refine LoopVC.of (fun s w' => ∃ (i : Nat) (A2 : Option Addr) (c2 : Nat) (row : List Int), i ≤ m ∧ s = ((A2, row.length, c2), (i : Int)) ∧ Ext w w' ∧ w'.ownsRow w.heap.size 3 1 (.slice A2 row.length c2) row.length (row.map (.int .i64)) ∧
      BitRow ws vs row i ∧ (∀ j, j < i → 0 ≤ vs.getD j 0 ∧ vs.getD j 0 < 2 ^ (ws.getD j 0).toNat)) (fun s _ => (m - s.2).toNat)
      ⟨0, none, 0, [], by omega, rfl, Mod.refl _ _, World.ownsRow_nil _ _ _ _, ⟨fun x hx => by simp at hx, by simp [psum], by simp [fieldsV]⟩, fun j hj => by omega⟩ ?_
    rintro _ w2 ⟨i, A2, c2, row, him, rfl, hE2, hown, hbr, hvok⟩
    show weirref1_Pack_L506 _ W m A n (psum ws) A2 row.length c2 (i : Int) w2 _
    unfold weirref1_Pack_L506
    refine Br.dec (fun hlt => ?_) (fun hge => ?_)
    · have hil : i < ws.length := by omega
      have hiv : i < vs.length := by omega
      have hwi := hW ws[i] (List.getElem_mem hil)
      have gw : ws.getD i 0 = ws[i] := by simp [hil]
      have gv : vs.getD i 0 = vs[i] := by simp [hiv]
      intro w3 hw3
      have hE3 : Ext w2 w3 := by subst hw3; exact Ext.drew w2
      have hE03 := hE2.ext hE3
      refine ⟨fun w' => Ext w w', hE03, ?_⟩
      refine IdxVC.draw (S := fun w' => Ext w w') hE03 (fun w' h => hvs.ext h) (by omega) (by omega) hn fun a hc => ⟨_, hc, ?_⟩
      rw [Int.toNat_natCast, gv]
      refine Br.dec (fun hneg => ⟨hE03, .inr (.inl ⟨hok, hnm, fun hv => ?_, rfl⟩)⟩) (fun hneg => ?_)
      · have := hv.2 i hil; omega
      refine IdxVC.draw (S := fun w' => Ext w w') hE03 (fun w' h => hvs.ext h) (by omega) (by omega) hn fun a1 hc1 => ⟨_, hc1, ?_⟩
      refine IdxVC.draw (S := fun w' => Ext w w') hE03 (fun w' h => hws.ext h) (by omega) (by omega) hm fun a2 hc2 => ⟨_, hc2, ?_⟩
      rw [Int.toNat_natCast, gw, gv]
      have ewi : ws[i] = (((ws[i]).toNat : Nat) : Int) := by omega
      have hpow : Calls Tryz.prog 69 #[.int .i64 ws[i]] w3 (fun e w' => w3 = w' ∧ e = .returned (.int .i64 (2 ^ (ws[i]).toNat))) := by
        have := power_spec (k := (ws[i]).toNat) (w := w3) (by omega)
        rwa [← ewi] at this
      refine hpow.mono ?_
      rintro _ w4 ⟨rfl, rfl⟩
      refine ⟨_, rfl, hE03, ?_⟩
      refine Br.dec (fun hbig => ⟨hE03, .inr (.inl ⟨hok, hnm, fun hv => ?_, rfl⟩)⟩) (fun hsm => ?_)
      · have := hv.2 i hil
        rw [gv, gw] at this; omega
      refine IdxVC.int (hws.ext hE03) (by omega) hlt hm fun a3 hc3 => ⟨_, hc3, ?_⟩
      rw [getD_cast _ _ hil]
      have hp0 := psum_bound (hW.take i)
      have hsn : psum (ws.take (i + 1)) = psum (ws.take i) + ws[i] := by rw [List.take_succ_eq_append_getElem hil, psum_snoc]
      have hle := psum_take_le hW (i + 1)
      have hbl := hbr.len
      refine pack_bits (ws := ws) (vs := vs) hE03 hvs hn (by omega) gv hwi.1 hwi.2 (by omega) (by omega) (own_ext hown hE3) hbr (hW.take i) (by omega) ?_
      intro w' A' c' row' hE' hown' h01' hlen' hvals' hfv'
      refine ⟨⟨i + 1, A', c', row', by omega, ?_, hE', hown', ⟨h01', by omega, ?_⟩, ?_⟩, ?_⟩
      · rw [w64 (by omega) (by omega)]; rfl
      · rw [List.take_succ_eq_append_getElem hil, fieldsV_snoc _ _ _ _ (hW.take i), hvals', List.take_succ_eq_append_getElem hiv]
        have e2 : (0 + (psum (ws.take i)).toNat) = row.length := by omega
        rw [e2, hfv']
      · intro j hj
        rcases Nat.lt_succ_iff_lt_or_eq.1 hj with hj | rfl
        · exact hvok j hj
        · rw [gv, gw]; exact ⟨by omega, by omega⟩
      · simp only
        rw [w64 (by omega) (by omega)]; omega
    · have him' : i = ws.length := by omega
      subst him'
      refine pack_tail hE2 (own_cells hown) hok (by omega) hbr fun w' A' c' ds hE' hpk hown' => ⟨hE', .inl ⟨hok, hnm, ⟨by omega, fun j hj => hvok j hj⟩, A', c', ds, hpk, rfl, own_base hown' hE2.size⟩⟩
  · exact ⟨_, rfl, Br.yes (by omega) ⟨Mod.refl _ _, .inr (.inr (.inr ⟨hok, rfl⟩))⟩⟩
/-- Why a number is not laid in. -/
def numErr (k v : Int) : Int := if ¬ (1 ≤ k ∧ k ≤ 8) then 1 else if ¬ (v < 256 ^ k.toNat) then 12 else 0

set_option maxHeartbeats 1000000 in
theorem refBytes_spec {k v : Int} {w : World} (hv : 0 ≤ v ∧ v < 18446744073709551616) :
    Calls Tryz.prog 67 #[.int .i64 k, .int .u64 v] w fun e w' => Ext w w' ∧ ∃ sA sn sc, e = .returned (.tuple #[.slice sA sn sc, .int .i64 (numErr k v)]) ∧
      (numErr k v = 0 → sn = k.toNat ∧ ∀ (M : Nat → Prop) (w2 : World), Mod M w' w2 → (∀ j, w.heap.size ≤ j → ¬ M j) → Cells w2 sA ((beBytes v k.toNat).map (.int .u8))) := by
  refine weirref1_Bytes_of k v w _ ?_
  unfold weirref1_Bytes_VC
  have hbad : ¬ (1 ≤ k ∧ k ≤ 8) → numErr k v = 1 := fun h => by unfold numErr; rw [if_pos h]
  refine Br.dec (fun h => ⟨Mod.refl _ _, none, 0, 0, by rw [hbad (by omega)], fun e => by rw [hbad (by omega)] at e; omega⟩) (fun h1 => Br.dec (fun h => ⟨Mod.refl _ _, none, 0, 0, by rw [hbad (by omega)], fun e => by rw [hbad (by omega)] at e; omega⟩) (fun h2 => ?_))
  obtain ⟨m, rfl⟩ := Int.eq_ofNat_of_zero_le (show 0 ≤ k by omega)
  refine LoopVC.of (fun s w' => ∃ (i : Nat) (A' : Option Addr) (c' : Nat), i ≤ 8 ∧ s = (v * 256 ^ i % 18446744073709551616, (A', i, c'), (i : Int)) ∧ Ext w w' ∧ i ≤ c' ∧
    w'.ownsRow w.heap.size 5 1 (.slice A' i c') i (((List.range i).map fun (q : Nat) => v / 256 ^ (7 - q) % 256).map (.int .u8))) (fun s _ => (8 - s.2.2).toNat)
    ⟨0, none, 0, by omega, ?_, Mod.refl _ _, by omega, World.ownsRow_nil _ _ _ _⟩ ?_
  · rw [Int.pow_zero, Int.mul_one, Int.emod_eq_of_lt hv.1 hv.2]; rfl
  rintro _ w1 ⟨i, A', c', hi, rfl, hE, hic, hown⟩
  show weirref1_Bytes_L122 _ (m : Int) (v * 256 ^ i % 18446744073709551616) A' i c' (i : Int) w1 _
  unfold weirref1_Bytes_L122
  refine Br.dec (fun hlt => ?_) (fun hge => ?_)
  · have hs := shift8 hv.1 hv.2 (i := i) (by omega)
    rw [byte8 (by omega) (by omega), hs.1]
    refine AppVC.one Tryz.underlying28 tyByte rfl hown rfl (by omega) (by decide) hE.size fun A2 c2 w2 hown2 hm2 hc2 => ?_
    refine ⟨⟨i + 1, A2, c2, by omega, ?_, Ext.own hE hown hm2, hc2, ?_⟩, ?_⟩
    · rw [u64_eq, hs.2, w64 (by omega) (by omega)]; rfl
    · rw [List.range_succ, List.map_append, List.map_append]; exact hown2
    · simp only
      rw [w64 (by omega) (by omega)]; omega
  · have h8 : i = 8 := by omega
    subst h8
    have hl8 : ((List.range 8).map fun (q : Nat) => v / 256 ^ (7 - q) % 256).length = 8 := by simp
    have hm8 : m ≤ 8 := by omega
    refine LoopVC.of (fun s w' => w1 = w' ∧ ∃ j : Nat, j ≤ 8 - m ∧ s = (j : Int) ∧ v < 256 ^ (8 - j)) (fun s _ => (8 - s).toNat) ⟨rfl, 0, by omega, rfl, by rw [Nat.sub_zero, show (256 : Int) ^ 8 = 18446744073709551616 by decide]; exact hv.2⟩ ?_
    rintro _ w2 ⟨rfl, j, hj, rfl, hvj⟩
    show weirref1_Bytes_L250 _ (m : Int) A' 8 c' (j : Int) w1 _
    unfold weirref1_Bytes_L250
    rw [w64 (n := 8 - (m : Int)) (by omega) (by omega)]
    refine Br.dec (fun hlt => ?_) (fun hge => ?_)
    · refine IdxVC.int (own_cells hown) (by omega) (by omega) hl8 fun a hc => ⟨_, hc, ?_⟩
      have hg : ((List.range 8).map fun (q : Nat) => v / 256 ^ (7 - q) % 256).getD (j : Int).toNat 0 = v / 256 ^ (7 - j) % 256 := by
        rw [Int.toNat_natCast]
        simp [List.getD_eq_getElem?_getD, show j < 8 by omega]
      rw [hg]
      refine Br.dec (fun hne => ?_) (fun heq => ?_)
      · have he : numErr (m : Int) v = 12 := by
          unfold numErr
          rw [if_neg (by omega), if_pos (by rw [Int.toNat_natCast]; exact top_not hv.1 (by omega) hne)]
        exact ⟨hE, none, 0, 0, by rw [he], fun e => by omega⟩
      · have hz : v / 256 ^ (7 - j) % 256 = 0 := by simpa using heq
        refine ⟨⟨rfl, j + 1, by omega, by rw [w64 (by omega) (by omega)]; omega, ?_⟩, by rw [w64 (by omega) (by omega)]; omega⟩
        rw [show 8 - (j + 1) = 7 - j by omega]
        exact top_zero hv.1 (by rwa [show 7 - j + 1 = 8 - j by omega]) hz
    · have hjm : j = 8 - m := by omega
      subst hjm
      have he : numErr (m : Int) v = 0 := by
        unfold numErr
        rw [if_neg (by omega), if_neg (by rw [Int.toNat_natCast]; rw [show 8 - (8 - m) = m by omega] at hvj; omega)]
      refine ⟨by omega, by omega, ?_⟩
      have et : (8 - (m : Int)).toNat = 8 - m := by omega
      rw [et, if_neg (by omega), he, Int.toNat_natCast]
      refine ⟨hE, _, _, _, rfl, fun _ => ⟨by omega, fun M w2 hM hn => ?_⟩⟩
      have hown2 := own_mod hown hM fun g hg => hn g (own_new hown g hg)
      have := (own_cells hown2).drop (8 - m) (c := 9 + 8) (by simp) 1 (.inl rfl)
      rw [if_neg (by omega), ← List.map_drop] at this
      have hd : ((List.range 8).map fun (q : Nat) => v / 256 ^ (7 - q) % 256).drop (8 - m) = beBytes v m := by
        apply List.ext_getElem
        · simp [beBytes_length]; omega
        · intro q h1 h2
          rw [beBytes_length] at h2
          have hb := beBytes_getD v m h2
          have hb2 : (beBytes v m).getD q 0 = (beBytes v m)[q] := by simp [beBytes_length, h2]
          rw [← hb2, hb]
          simp only [List.getElem_drop, List.getElem_map, List.getElem_range]
          rw [show 7 - (8 - m + q) = m - 1 - q by omega]
      rwa [hd] at this
end N6
end Go.Proofs.YthhgbpmihhljdaaGreatDoor
