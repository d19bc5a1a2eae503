/- Layer 4 (the document's): ParseIP, bits, prefixes, Contains. -/
import Derived.Test.YtjngdcilnipjcaaDoorNc4
namespace Go.Eng
open Go Go.RowKit
/-- A prefix, by value. -/
def preC (P : IPV) (len : Int) : List Value := P.cells ++ [.int .i64 len]
def preV (P : IPV) (len : Int) : Value := .agg (preC P len).toArray
/-- The i-th bit of an address. -/
def bitS (P : IPV) (i : Nat) : Int := P.bytes.getD (i / 8) 0 / 2 ^ (7 - i % 8) % 2
theorem bts_getD {l : List Int} (h : Bts l) (i : Nat) : 0 ≤ l.getD i 0 ∧ l.getD i 0 < 256 := by
  rw [List.getD_eq_getElem?_getD]
  rcases Nat.lt_or_ge i l.length with hi | hi
  · rw [List.getElem?_eq_getElem hi]; exact h _ (List.getElem_mem hi)
  · rw [List.getElem?_eq_none hi]; decide
theorem half_step (b j : Nat) : (b : Int) / 2 ^ (j + 1) = (b : Int) / 2 ^ j / 2 := by
  have h : ((b / 2 ^ (j + 1) : Nat) : Int) = ((b / 2 ^ j / 2 : Nat) : Int) := by rw [Nat.pow_succ, Nat.div_div_eq_div_mul]
  push_cast at h
  exact h
theorem half_bd (b j : Nat) (hb : b < 256) : 0 ≤ (b : Int) / 2 ^ j ∧ (b : Int) / 2 ^ j < 256 := by
  have h : ((b / 2 ^ j : Nat) : Int) = (b : Int) / 2 ^ j := by push_cast; rfl
  have hle : b / 2 ^ j ≤ b := Nat.div_le_self _ _
  generalize hq : b / 2 ^ j = q at h hle
  rw [← h]
  omega
end Go.Eng
namespace Go.Proofs.YtjngdcilnipjcaaDoor
namespace Nd
open Go.Eng Go.RowKit
section
variable {w : World} {s : ByteArray} {P ip : IPV} {len : Int}
/-- What an address's text gives, where two colons or more stand in it. -/
theorem ParseIP_six (hz : s.size ≤ 45) (hc : hasS s 58 = true) (h6 : P.v = 6)
    (hS : ∀ w : World, Calls Tryd.prog 153 #[.string s] w fun e w' => Ext w w' ∧ e = .returned (.tuple #[P.arr, .int .i64 0, .int .i64 0])) :
    Calls Tryd.prog 138 #[.string s] w fun e w' => Ext w w' ∧ e = .returned (.tuple #[P.val, .int .i64 0, .int .i64 0]) := by
  refine weirref4_ParseIP_of s w _ ?_
  unfold weirref4_ParseIP_VC
  refine NewVC.blk fun g1 w1 hg1 hz1 hE1 hb1 => Br.no (by omega) ?_
  refine (has_spec s 58 (by omega)).mono ?_
  rintro _ _ ⟨rfl, rfl⟩
  refine ⟨_, rfl, Br.t hc ?_⟩
  refine (hS w1).mono ?_
  rintro _ w2 ⟨hE2, rfl⟩
  refine ⟨_, _, _, _, _, _, _, _, _, _, _, _, _, _, _, _, _, _, rfl, ?_⟩
  have s2 := hE2.size
  refine NewVC.blk fun g2 w3 hg2 hz3 hE3 hb3 => ?_
  refine setAll P.row 0 w3 _ _ hb3 rfl fun w4 hz4 hm4 hb4 => ?_
  have hb4 : Blk w4 g2 _ P.row := hb4
  refine Br.no (A := False) (p := (0 : Int) ≠ 0) (by decide) ?_
  refine ⟨_, _, _, _, _, _, _, _, _, _, _, _, _, _, _, _, CellsAt.blk hb4, ?_⟩
  have hE4 := ((hE1.ext hE2).ext hE3).set hm4 (by omega)
  have hb1 := ((hb1.ext hE2).ext hE3).mod hm4 (by show ¬ g1 = g2; omega)
  refine setAll (.int .i64 6 :: P.row) 0 w4 _ _ hb1 rfl fun w5 hz5 hm5 hb5 => ?_
  refine ⟨_, _, _, _, _, _, _, _, _, _, _, _, _, _, _, _, _, CellsAt.blk hb5, hE4.set hm5 (by omega), ?_⟩
  have : P.val = .agg (Value.int .i64 6 :: P.row).toArray := by rw [← h6]; rfl
  rw [this]; rfl
/-- Without a colon: no address of version 6. -/
theorem ParseIP_any (hz : s.size ≤ 45) (hc : hasS s 58 = false) :
    Calls Tryd.prog 138 #[.string s] w fun e w' => Ext w w' ∧ ∃ (P : IPV) (x y : Int), Bts P.bytes ∧ (P.v = 0 ∨ P.v = 4) ∧ e = .returned (.tuple #[P.val, .int .i64 x, .int .i64 y]) := by
  refine weirref4_ParseIP_of s w _ ?_
  unfold weirref4_ParseIP_VC
  refine NewVC.blk fun g1 w1 hg1 hz1 hE1 hb1 => Br.no (by omega) ?_
  refine (has_spec s 58 (by omega)).mono ?_
  rintro _ _ ⟨rfl, rfl⟩
  refine ⟨_, rfl, Br.f hc ?_⟩
  refine (dotted_spec s (by omega)).mono ?_
  rintro _ w2 ⟨hE2, A, n, c, x, y, rfl, hbs⟩
  have s2 := hE2.size
  refine ⟨_, _, _, _, _, rfl, Br.dec (fun h => ?_) fun h => ?_⟩
  · refine setAll zeroIP.cells 0 w2 _ _ (hb1.ext hE2) rfl fun w3 hz3 hm3 hb3 => ?_
    exact ⟨_, _, _, _, _, _, _, _, _, _, _, _, _, _, _, _, _, CellsAt.blk hb3, (hE1.ext hE2).set hm3 (by omega), zeroIP, x, y, zeroIP_bts, .inl rfl, rfl⟩
  have hx : x = 0 := by omega
  subst hx
  obtain ⟨rfl, bs, hl, hB, hcell⟩ := hbs rfl
  obtain ⟨b0, b1, b2, b3, rfl⟩ : ∃ b0 b1 b2 b3, bs = [b0, b1, b2, b3] := by
    match bs, hl with
    | [b0, b1, b2, b3], _ => exact ⟨_, _, _, _, rfl⟩
  refine NewVC.blk fun g3 w3 hg3 hz3 hE3 hb3 => ?_
  refine setAll (IPV.cells ⟨4, 0, 0, 0, 0, 0, 0, 0, 0, 0, 0, 0, 0, 0, 0, 0, 0⟩) 0 w3 _ _ hb3 rfl fun w4 hz4 hm4 hb4 => ?_
  have hE4 : Ext w2 w4 := (hE3.set hm4 (by omega))
  have hb14 : Blk w4 g1 _ _ := (hb1.ext hE2).ext hE4
  let q : Nat → IPV := fun i => ⟨4, if 0 < i then b0 else 0, if 1 < i then b1 else 0, if 2 < i then b2 else 0, if 3 < i then b3 else 0, 0, 0, 0, 0, 0, 0, 0, 0, 0, 0, 0, 0⟩
  refine LoopVC.of (fun st w' => Mod (fun k => k = g3) w4 w' ∧ ∃ i : Nat, st = (i : Int) ∧ i ≤ 4 ∧ Blk w' g3 31 (q i).cells) (fun st _ => ((4 : Int) - st).toNat) ⟨Mod.refl _ _, 0, rfl, by decide, hb4⟩ ?_
  rintro _ w5 ⟨hm5, i, rfl, hi, hb5⟩
  show weirref4_ParseIP_L1018 _ g1 A 4 g3 (i : Int) w5 _
  unfold weirref4_ParseIP_L1018
  have hcell4 := (hcell.ext hE4)
  have hcell5 : Cells w5 A ([b0, b1, b2, b3].map (.int .u8)) := hcell4.mod hm5 fun a ha _ => by
    have := hcell.lt (by simp) ha
    show ¬ a.block = g3
    omega
  refine Br.dec (fun hlt => ?_) fun hge => ?_
  · refine IdxVC.int hcell5 (by omega) (by omega) rfl fun a ha => ⟨_, ha, ?_⟩
    refine ⟨_, rfl, by omega, by omega, ?_⟩
    rw [addr_add]
    refine SetVC.blk hb5 (by simp [IPV.cells]; omega) fun w6 hz6 hm6 hb6 => ⟨⟨hm5.trans hm6, i + 1, ?_, by omega, ?_⟩, ?_⟩
    · rw [w64 (by omega) (by omega)]; omega
    · have hlt : i < 4 := by omega
      match i, hlt with
      | 0, _ => exact hb6
      | 1, _ => exact hb6
      | 2, _ => exact hb6
      | 3, _ => exact hb6
    · rw [w64 (by omega) (by omega)]; omega
  · have : i = 4 := by omega
    subst this
    refine ⟨_, _, _, _, _, _, _, _, _, _, _, _, _, _, _, _, _, CellsAt.blk hb5, ?_⟩
    refine setAll (q 4).cells 0 w5 _ _ (hb14.mod hm5 (by show ¬ g1 = g3; omega)) rfl fun w6 hz6 hm6 hb6 => ?_
    refine ⟨_, _, _, _, _, _, _, _, _, _, _, _, _, _, _, _, _, CellsAt.blk hb6, (((hE1.ext hE2).ext hE4).set hm5 (by omega)).set hm6 (by omega), q 4, 0, 0, ?_, .inr rfl, rfl⟩
    intro z hz'
    have h0 := hB b0 (by simp)
    have h1 := hB b1 (by simp)
    have h2 := hB b2 (by simp)
    have h3 := hB b3 (by simp)
    simp [q, IPV.bytes] at hz'
    rcases hz' with h | h | h | h | h <;> omega
theorem width_spec : Calls Tryd.prog 142 #[P.val] w fun e w' => Ext w w' ∧ e = .returned (.int .i64 (if P.v = 4 then 32 else 128)) := by
  refine weirref4_width_of P.v P.a0 P.a1 P.a2 P.a3 P.a4 P.a5 P.a6 P.a7 P.a8 P.a9 P.a10 P.a11 P.a12 P.a13 P.a14 P.a15 w _ ?_
  unfold weirref4_width_VC
  refine NewVC.blk fun g1 w1 hg1 hz1 hE1 hb1 => ⟨_, hb1.cell 0, Br.dec (fun h => ⟨hE1, ?_⟩) fun h => ⟨hE1, ?_⟩⟩
  · rw [if_pos h]
  · rw [if_neg h]
theorem bit_spec {i : Nat} (hi : i < 128) (hB : Bts P.bytes) : Calls Tryd.prog 144 #[P.val, .int .i64 (i : Int)] w fun e w' => Ext w w' ∧ e = .returned (.int .i64 (bitS P i)) := by
  refine weirref4_bit_of P.v P.a0 P.a1 P.a2 P.a3 P.a4 P.a5 P.a6 P.a7 P.a8 P.a9 P.a10 P.a11 P.a12 P.a13 P.a14 P.a15 (i : Int) w _ ?_
  unfold weirref4_bit_VC
  refine NewVC.blk fun g1 w1 hg1 hz1 hE1 hb1 => ?_
  have hc : Cells w1 (some ⟨g1, 1, none⟩) (P.bytes.map (.int .u8)) := Cells.of_blk hb1 1
  have e1 : IntKind.i64.wrap (Int.tdiv (i : Int) 8) = ((i / 8 : Nat) : Int) := by
    rw [Int.tdiv_eq_ediv_of_nonneg (by omega), w64 (by omega) (by omega)]; omega
  have e2 : Int.tmod (i : Int) 8 = ((i % 8 : Nat) : Int) := by
    rw [Int.tmod_eq_emod_of_nonneg (by omega)]; omega
  rw [e1, e2]
  refine IdxVC.int hc (by omega) (by omega) rfl fun a ha => ⟨_, ha, ?_⟩
  have hb := bts_getD hB (i / 8)
  rw [Int.toNat_natCast]
  rw [w64 (n := P.bytes.getD (i / 8) 0) (by omega) (by omega)]
  refine LoopVC.of (fun st w' => w1 = w' ∧ ∃ j : Nat, i % 8 + j ≤ 7 ∧ st = (P.bytes.getD (i / 8) 0 / 2 ^ j, ((i % 8 + j : Nat) : Int))) (fun st _ => ((7 : Int) - st.2).toNat) ⟨rfl, 0, by omega, by simp⟩ ?_
  rintro _ _ ⟨rfl, j, hj, rfl⟩
  show weirref4_bit_L58 _ (P.bytes.getD (i / 8) 0 / 2 ^ j) ((i % 8 + j : Nat) : Int) w1 _
  unfold weirref4_bit_L58
  generalize hbeq : P.bytes.getD (i / 8) 0 = b at hb
  obtain ⟨b, rfl⟩ := Int.eq_ofNat_of_zero_le hb.1
  have hq := half_bd b j (by omega)
  have hstep := half_step b j
  refine Br.dec (fun h => ⟨⟨rfl, j + 1, by omega, ?_⟩, ?_⟩) fun h => ⟨hE1, ?_⟩
  · rw [hstep]
    generalize (b : Int) / 2 ^ j = x at hq
    rw [Int.tdiv_eq_ediv_of_nonneg hq.1, w64 (n := x / 2) (by omega) (by omega), w64 (by omega) (by omega), show ((i % 8 + (j + 1) : Nat) : Int) = ((i % 8 + j : Nat) : Int) + 1 by omega]
  · show ((7 : Int) - IntKind.i64.wrap _).toNat < ((7 : Int) - ((i % 8 + j : Nat) : Int)).toNat
    rw [w64 (by omega) (by omega)]; omega
  · have hj7 : j = 7 - i % 8 := by omega
    have hbit : bitS P i = (b : Int) / 2 ^ j % 2 := by unfold bitS; rw [hbeq, hj7]
    rw [hbit, Int.tmod_eq_emod_of_nonneg hq.1]
theorem refValid4_spec : Calls Tryd.prog 103 #[P.val] w fun e w' => Ext w w' ∧ ∃ b, (P.v = 6 → b = true) ∧ e = .returned (.bool b) := by
  refine weirref4_Valid_of P.v P.a0 P.a1 P.a2 P.a3 P.a4 P.a5 P.a6 P.a7 P.a8 P.a9 P.a10 P.a11 P.a12 P.a13 P.a14 P.a15 w _ ?_
  unfold weirref4_Valid_VC
  refine NewVC.blk fun g1 w1 hg1 hz1 hE1 hb1 => ⟨_, hb1.cell 0, Br.dec (fun h => ⟨_, hb1.cell 0, hE1, _, ?_, rfl⟩) fun h => ?_⟩
  · intro h6; exact decide_eq_true h6
  have hc : Cells w1 (some ⟨g1, 1, none⟩) (P.bytes.map (.int .u8)) := Cells.of_blk hb1 1
  refine LoopVC.of (fun st w' => w1 = w' ∧ ∃ i : Nat, st = (i : Int) ∧ i ≤ 16) (fun st _ => ((16 : Int) - st).toNat) ⟨rfl, 4, rfl, by decide⟩ ?_
  rintro _ _ ⟨rfl, i, rfl, hi⟩
  show weirref4_Valid_L58 _ g1 (i : Int) w1 _
  unfold weirref4_Valid_L58
  refine Br.dec (fun hlt => IdxVC.int hc (by omega) (by omega) rfl fun a ha => ⟨_, ha, Br.dec (fun _ => ⟨hE1, _, fun h6 => by omega, rfl⟩) fun _ => ⟨⟨rfl, i + 1, ?_, by omega⟩, ?_⟩⟩) fun _ => ⟨hE1, _, fun _ => rfl, rfl⟩
  · rw [w64 (by omega) (by omega)]; omega
  · rw [w64 (by omega) (by omega)]; omega
theorem ValidPrefix_spec (hB : Bts P.bytes) : Calls Tryd.prog 143 #[preV P len] w fun e w' => Ext w w' ∧ ∃ x, (x = 0 → 0 ≤ len ∧ len ≤ 128) ∧ (P.v = 6 → 0 ≤ len → len ≤ 128 → (∀ i : Nat, len ≤ i → i < 128 → bitS P i ≠ 1) → x = 0) ∧ e = .returned (.int .i64 x) := by
  refine weirref4_ValidPrefix_of P.v P.a0 P.a1 P.a2 P.a3 P.a4 P.a5 P.a6 P.a7 P.a8 P.a9 P.a10 P.a11 P.a12 P.a13 P.a14 P.a15 len w _ ?_
  unfold weirref4_ValidPrefix_VC
  refine NewVC.blk fun g1 w1 hg1 hz1 hE1 hb1 => ?_
  have hb1 : Blk w1 g1 _ (preC P len) := hb1
  refine ⟨_, _, _, _, _, _, _, _, _, _, _, _, _, _, _, _, _, CellsAt.part hb1 0 (ds := P.cells) (es := [.int .i64 len]) rfl, ?_⟩
  refine (refValid4_spec (P := P)).mono ?_
  rintro _ w2 ⟨hE2, b, hb, rfl⟩
  have hE := hE1.ext hE2
  refine ⟨_, rfl, ?_⟩
  cases b with
  | false => exact Br.t rfl ⟨hE, 40, fun h => (by cases h), fun h => (by have := hb h; cases this), rfl⟩
  | true =>
    refine Br.f rfl ?_
    refine ⟨_, _, _, _, _, _, _, _, _, _, _, _, _, _, _, _, _, CellsAt.part (hb1.ext hE2) 0 (ds := P.cells) (es := [.int .i64 len]) rfl, ?_⟩
    refine (width_spec (P := P)).mono ?_
    rintro _ w3 ⟨hE3, rfl⟩
    have hE' := hE.ext hE3
    have hb3 := (hb1.ext hE2).ext hE3
    have hw : (if P.v = 4 then (32 : Int) else 128) ≤ 128 ∧ (P.v = 6 → (if P.v = 4 then (32 : Int) else 128) = 128) := by
      split
      · exact ⟨by decide, fun h => by omega⟩
      · exact ⟨by decide, fun _ => rfl⟩
    generalize (if P.v = 4 then (32 : Int) else 128) = W at hw
    refine ⟨_, rfl, _, hb3.cell 17, Br.dec (fun h => ⟨hE', 45, fun h => (by cases h), fun _ h0 => by omega, rfl⟩) fun h => ⟨_, hb3.cell 17, Br.dec (fun h1 => ⟨hE', 45, fun h => (by cases h), fun h6 _ h2 => by have := hw.2 h6; omega, rfl⟩) fun h1 => ⟨_, hb3.cell 17, ?_⟩⟩⟩
    refine LoopVC.of (fun st w' => Ext w3 w' ∧ len ≤ st ∧ st ≤ W) (fun st _ => (W - st).toNat) ⟨Mod.refl _ _, by omega, by omega⟩ ?_
    rintro st w4 ⟨hE4, h2, h3⟩
    show weirref4_ValidPrefix_L506 _ g1 W st w4 _
    unfold weirref4_ValidPrefix_L506
    refine Br.dec (fun hlt => ?_) fun _ => ⟨hE'.ext hE4, 0, fun _ => ⟨by omega, by omega⟩, fun _ _ _ _ => rfl, rfl⟩
    obtain ⟨i, rfl⟩ := Int.eq_ofNat_of_zero_le (by omega : 0 ≤ st)
    refine ⟨_, _, _, _, _, _, _, _, _, _, _, _, _, _, _, _, _, CellsAt.part (hb3.ext hE4) 0 (ds := P.cells) (es := [.int .i64 len]) rfl, ?_⟩
    refine (bit_spec (i := i) (by omega) hB).mono ?_
    rintro _ w5 ⟨hE5, rfl⟩
    refine ⟨_, rfl, Br.dec (fun h4 => ⟨(hE'.ext hE4).ext hE5, 46, fun h => (by cases h), fun _ _ _ hz => absurd h4 (hz i h2 (by omega)), rfl⟩) fun h4 => ⟨⟨hE4.ext hE5, ?_, ?_⟩, ?_⟩⟩
    · rw [w64 (by omega) (by omega)]; omega
    · rw [w64 (by omega) (by omega)]; omega
    · rw [w64 (by omega) (by omega)]; omega
theorem Contains_spec (hB : Bts P.bytes) (hI : Bts ip.bytes) : Calls Tryd.prog 127 #[preV P len, ip.val] w fun e w' => Ext w w' ∧ ∃ b, (P.v ≠ ip.v → b = false) ∧
    (P.v = 6 → ip.v = 6 → 0 ≤ len → len ≤ 128 → (∀ i : Nat, len ≤ i → i < 128 → bitS P i ≠ 1) → (b = true ↔ ∀ i : Nat, i < len → bitS P i = bitS ip i)) ∧ e = .returned (.bool b) := by
  refine weirref4_Contains_of P.v P.a0 P.a1 P.a2 P.a3 P.a4 P.a5 P.a6 P.a7 P.a8 P.a9 P.a10 P.a11 P.a12 P.a13 P.a14 P.a15 len ip.v ip.a0 ip.a1 ip.a2 ip.a3 ip.a4 ip.a5 ip.a6 ip.a7 ip.a8 ip.a9 ip.a10 ip.a11 ip.a12 ip.a13 ip.a14 ip.a15 w _ ?_
  unfold weirref4_Contains_VC
  refine NewVC.blk fun g1 w1 hg1 hz1 hE1 hb1 => NewVC.blk fun g2 w2 hg2 hz2 hE2 hb2 => ?_
  have hb1 : Blk w2 g1 _ (preC P len) := hb1.ext hE2
  have hb2 : Blk w2 g2 _ ip.cells := hb2
  have hE := hE1.ext hE2
  refine ⟨_, _, _, _, _, _, _, _, _, _, _, _, _, _, _, _, _, _, CellsAt.blk hb1, ?_⟩
  refine (ValidPrefix_spec (len := len) hB).mono ?_
  rintro _ w3 ⟨hE3, x, hx0, hx6, rfl⟩
  refine ⟨_, rfl, _, _, _, _, _, _, _, _, _, _, _, _, _, _, _, _, _, CellsAt.blk (hb2.ext hE3), ?_⟩
  refine (refValid4_spec (P := ip)).mono ?_
  rintro _ w4 ⟨hE4, b, hb, rfl⟩
  have hE4' := hE3.ext hE4
  have hE' := hE.ext hE4'
  refine ⟨_, rfl, Br.dec (fun h => ⟨hE', false, fun _ => rfl, fun h6 _ h0 h1 hz => absurd (hx6 h6 h0 h1 hz) h, rfl⟩) fun h => ?_⟩
  cases b with
  | false => exact Br.t rfl ⟨hE', false, fun _ => rfl, fun _ h6 => (by have := hb h6; cases this), rfl⟩
  | true =>
    refine Br.f rfl ⟨_, (hb1.ext hE4').cell 0, _, (hb2.ext hE4').cell 0, Br.dec (fun hv => ⟨hE', false, fun _ => rfl, fun h6 h6' => by omega, rfl⟩) fun hv => ?_⟩
    have hlen := hx0 (by omega)
    refine LoopVC.of (fun st w' => Ext w4 w' ∧ ∃ i : Nat, st = (i : Int) ∧ i ≤ len ∧ ∀ j, j < i → bitS P j = bitS ip j) (fun st _ => (len - st).toNat) ⟨Mod.refl _ _, 0, rfl, by omega, fun _ h => absurd h (by omega)⟩ ?_
    rintro _ w5 ⟨hE5, i, rfl, hi, hsame⟩
    show weirref4_Contains_L250 _ g1 g2 (i : Int) w5 _
    unfold weirref4_Contains_L250
    have hb15 := (hb1.ext hE4').ext hE5
    have hb25 := (hb2.ext hE4').ext hE5
    refine ⟨_, hb15.cell 17, Br.dec (fun hlt => ?_) fun hge => ⟨hE'.ext hE5, true, fun h => absurd h hv, fun _ _ _ _ _ => ⟨fun _ j hj => hsame j (by omega), fun _ => rfl⟩, rfl⟩⟩
    refine DrawVC.of (fun w' => Ext w5 w') fun w6 hE6 _ => ⟨hE6, ?_⟩
    refine ⟨_, _, _, _, _, _, _, _, _, _, _, _, _, _, _, _, _, fun w' h => CellsAt.part (hb15.ext h) 0 (ds := P.cells) (es := [.int .i64 len]) rfl, _, _, _, _, _, _, _, _, _, _, _, _, _, _, _, _, _, fun w' h => CellsAt.blk (hb25.ext h), ?_⟩
    refine (bit_spec (i := i) (by omega) hB).mono ?_
    rintro _ w7 ⟨hE7, rfl⟩
    refine ⟨_, rfl, hE6.ext hE7, ?_⟩
    refine (bit_spec (P := ip) (i := i) (by omega) hI).mono ?_
    rintro _ w8 ⟨hE8, rfl⟩
    have hE8' := (hE6.ext hE7).ext hE8
    refine ⟨_, rfl, hE8', Br.dec (fun hne => ⟨(hE'.ext hE5).ext hE8', false, fun _ => rfl, fun _ _ _ _ _ => ⟨fun h => (by cases h), fun h => absurd (h i hlt) hne⟩, rfl⟩) fun heq => ⟨⟨hE5.ext hE8', i + 1, ?_, by omega, fun j hj => ?_⟩, ?_⟩⟩
    · rw [w64 (by omega) (by omega)]; omega
    · rcases Nat.lt_or_ge j i with h' | h'
      · exact hsame j h'
      · have : j = i := by omega
        subst this
        exact Classical.byContradiction heq
    · rw [w64 (by omega) (by omega)]; omega
end
end Nd
end Go.Proofs.YtjngdcilnipjcaaDoor
