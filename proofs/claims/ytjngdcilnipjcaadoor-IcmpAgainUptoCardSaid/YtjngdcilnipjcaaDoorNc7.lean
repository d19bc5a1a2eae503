/- Layer 4 (the document's): the twelve texts of the table; Class; which address may be a target. -/
import Derived.Test.YtjngdcilnipjcaaDoorNc6
namespace Go.Eng
open Go Go.RowKit
theorem below_forall (n : Nat) (p : Nat → Bool) (h : (List.range n).all p = true) : ∀ i, i < n → p i = true := fun i hi => List.all_eq_true.1 h i (List.mem_range.2 hi)
/-- May an address be a target? -/
def targetS (p : IPV) : Bool := decide (p.v = 6) && (p.bytes.any (fun x => decide (x ≠ 0)) && decide (p.a0 ≠ 255))
theorem byte_zero : ∀ b : Nat, b < 256 → (∀ j, j < 8 → b / 2 ^ (7 - j) % 2 = 0) → b = 0 := by
  intro b hb h
  have := h 0 (by decide); have := h 1 (by decide); have := h 2 (by decide); have := h 3 (by decide); have := h 4 (by decide); have := h 5 (by decide); have := h 6 (by decide); have := h 7 (by decide)
  simp at *
  omega
theorem byte_full : ∀ b : Nat, b < 256 → (∀ j, j < 8 → b / 2 ^ (7 - j) % 2 = 1) → b = 255 := by
  intro b hb h
  have := h 0 (by decide); have := h 1 (by decide); have := h 2 (by decide); have := h 3 (by decide); have := h 4 (by decide); have := h 5 (by decide); have := h 6 (by decide); have := h 7 (by decide)
  simp at *
  omega
theorem bitS_nat {p : IPV} {q j b : Nat} (hj : j < 8) (hb : p.bytes.getD q 0 = (b : Int)) : bitS p (8 * q + j) = ((b / 2 ^ (7 - j) % 2 : Nat) : Int) := by
  unfold bitS
  rw [show (8 * q + j) / 8 = q by omega, show (8 * q + j) % 8 = j by omega, hb]
  push_cast
  rfl
theorem bytes_byte {p : IPV} (hB : Bts p.bytes) (q : Nat) : ∃ b : Nat, b < 256 ∧ p.bytes.getD q 0 = (b : Int) := by
  have h := bts_getD hB q
  obtain ⟨b, hb⟩ := Int.eq_ofNat_of_zero_le h.1
  exact ⟨b, by omega, hb⟩
theorem noneIP_bit (i : Nat) (h : i < 128) : bitS noneIP i = 0 := by
  have := below_forall 128 (fun i => decide (bitS noneIP i = 0)) (by decide) i h
  simpa using this
theorem bits_none {p : IPV} (hB : Bts p.bytes) : (∀ i : Nat, (i : Int) < 128 → bitS noneIP i = bitS p i) ↔ p.bytes.any (fun x => decide (x ≠ 0)) = false := by
  constructor
  · intro h
    rw [List.any_eq_false]
    intro x hx
    obtain ⟨q, hq, rfl⟩ := List.mem_iff_getElem.1 hx
    have hq16 : q < 16 := hq
    obtain ⟨b, hb, hbe⟩ := bytes_byte hB q
    have hz : b = 0 := byte_zero b hb fun j hj => by
      have h1 := h (8 * q + j) (by omega)
      rw [noneIP_bit _ (by omega), bitS_nat hj hbe] at h1
      omega
    rw [List.getD_eq_getElem?_getD, List.getElem?_eq_getElem hq] at hbe
    simp at hbe
    rw [hbe, hz]
    decide
  · intro h i hi
    rw [noneIP_bit i (by omega)]
    rw [List.any_eq_false] at h
    have hg : p.bytes.getD (i / 8) 0 = 0 := by
      rw [List.getD_eq_getElem?_getD]
      rcases Nat.lt_or_ge (i / 8) p.bytes.length with hl | hl
      · rw [List.getElem?_eq_getElem hl]
        have := h _ (List.getElem_mem hl)
        simpa using this
      · rw [List.getElem?_eq_none hl]; rfl
    unfold bitS
    rw [hg]
    simp
theorem a0_bytes (p : IPV) : p.bytes.getD 0 0 = p.a0 := rfl
theorem bits_full {p : IPV} (hB : Bts p.bytes) : (∀ i : Nat, (i : Int) < 8 → bitS (headIP 65280) i = bitS p i) ↔ p.a0 = 255 := by
  have hf : ∀ i, i < 8 → bitS (headIP 65280) i = 1 := fun i hi => by
    have := below_forall 8 (fun i => decide (bitS (headIP 65280) i = 1)) (by decide) i hi
    simpa using this
  obtain ⟨b, hb, hbe⟩ := bytes_byte hB 0
  have hbe' := hbe
  rw [a0_bytes] at hbe
  constructor
  · intro h
    have hz : b = 255 := byte_full b hb fun j hj => by
      have h1 := h (8 * 0 + j) (by omega)
      rw [hf _ (by omega), bitS_nat hj hbe'] at h1
      omega
    omega
  · intro h i hi
    have : b = 255 := by omega
    subst this
    have hi8 : i < 8 := by omega
    rw [hf i hi8]
    have h1 := bitS_nat (q := 0) hi8 hbe'
    rw [show 8 * 0 + i = i by omega] at h1
    rw [h1]
    match i, hi8 with
    | 0, _ => rfl
    | 1, _ => rfl
    | 2, _ => rfl
    | 3, _ => rfl
    | 4, _ => rfl
    | 5, _ => rfl
    | 6, _ => rfl
    | 7, _ => rfl
theorem bits_loop {p : IPV} (hB : Bts p.bytes) (h : ∀ i : Nat, (i : Int) < 128 → bitS (tailIP 1) i = bitS p i) : p.a0 = 0 ∧ p.bytes.any (fun x => decide (x ≠ 0)) = true := by
  obtain ⟨b, hb, hbe⟩ := bytes_byte hB 0
  have hf : ∀ i, i < 8 → bitS (tailIP 1) i = 0 := fun i hi => by
    have := below_forall 8 (fun i => decide (bitS (tailIP 1) i = 0)) (by decide) i hi
    simpa using this
  have hz : b = 0 := byte_zero b hb fun j hj => by
    have h1 := h (8 * 0 + j) (by omega)
    rw [hf _ (by omega), bitS_nat hj hbe] at h1
    omega
  refine ⟨by rw [a0_bytes] at hbe; omega, ?_⟩
  have h127 := h 127 (by decide)
  cases hany : p.bytes.any (fun x => decide (x ≠ 0)) with
  | true => rfl
  | false =>
    have := (bits_none hB).2 hany 127 (by decide)
    rw [← this] at h127
    exact absurd h127 (by decide)
end Go.Eng
namespace Go.Proofs.YtjngdcilnipjcaaDoor
namespace Nd
open Go.Eng Go.RowKit
section
variable {w : World} {ip : IPV}
theorem four_text {s : ByteArray} {k0 m : Nat} (hz : s.size ≤ 49) (hk : s.size = k0 + 1 + m) (hm : 0 < m ∧ m ≤ 3) (hno : ∀ i, i < k0 → ch s i ≠ 47) (hsl : ch s k0 = 47) (hd : ∀ i, i < m → isDigit (ch s (k0 + 1 + i)))
    (hc : hasS (s.extract 0 k0) 58 = false) (hl : (s.extract 0 k0).size ≤ 45) (hI : Bts ip.bytes) :
    Calls Tryd.prog 104 #[.string s, ip.val] w fun e w' => Ext w w' ∧ ∃ b, (ip.v = 6 → b = false) ∧ e = .returned (.bool b) := by
  refine (of_spec (Q := fun P _ => P.v = 0 ∨ P.v = 4) hz hk hm hno hsl hd (fun w => ?_) hI).mono ?_
  · refine (ParseIP_any hl hc).mono ?_
    rintro _ w' ⟨hE, P, x, y, hB, hv, rfl⟩
    exact ⟨hE, P, x, y, hv, hB, rfl⟩
  · rintro _ w' ⟨hE, b, hb, _, rfl⟩
    exact ⟨hE, b, fun h => hb h fun P x h' => by rcases h' with h' | h' <;> omega, rfl⟩
theorem six_text {s : ByteArray} {k0 m : Nat} {P0 : IPV} {L : Int} (hz : s.size ≤ 49) (hk : s.size = k0 + 1 + m) (hm : 0 < m ∧ m ≤ 3) (hno : ∀ i, i < k0 → ch s i ≠ 47) (hsl : ch s k0 = 47) (hd : ∀ i, i < m → isDigit (ch s (k0 + 1 + i)))
    (hc : hasS (s.extract 0 k0) 58 = true) (hl : (s.extract 0 k0).size ≤ 45) (h6 : P0.v = 6) (hB0 : Bts P0.bytes)
    (hS : ∀ w : World, Calls Tryd.prog 153 #[.string (s.extract 0 k0)] w fun e w' => Ext w w' ∧ e = .returned (.tuple #[P0.arr, .int .i64 0, .int .i64 0]))
    (hL : decS s (k0 + 1) m 128 = L) (h0 : 0 ≤ L) (h1 : L ≤ 128) (hbits : ∀ i : Nat, L ≤ i → i < 128 → bitS P0 i ≠ 1) (hI : Bts ip.bytes) :
    Calls Tryd.prog 104 #[.string s, ip.val] w fun e w' => Ext w w' ∧ ∃ b, (ip.v = 6 → (b = true ↔ ∀ i : Nat, (i : Int) < L → bitS P0 i = bitS ip i)) ∧ e = .returned (.bool b) := by
  refine (of_spec (Q := fun P x => P = P0 ∧ x = 0) hz hk hm hno hsl hd (fun w => ?_) hI).mono ?_
  · refine (ParseIP_six hl hc h6 hS).mono ?_
    rintro _ w' ⟨hE, rfl⟩
    exact ⟨hE, P0, 0, 0, ⟨rfl, rfl⟩, hB0, rfl⟩
  · rintro _ w' ⟨hE, b, _, hb, rfl⟩
    refine ⟨hE, b, fun h => ?_, rfl⟩
    have := hb P0 (fun P x h' => h') h6 h (by omega) (by omega) (by rw [hL]; exact hbits)
    rw [hL] at this
    exact this
theorem four0 (hI : Bts ip.bytes) : Calls Tryd.prog 104 #[.string ⟨#[48, 46, 48, 46, 48, 46, 48, 47, 51, 50]⟩, ip.val] w fun e w' => Ext w w' ∧ ∃ b, (ip.v = 6 → b = false) ∧ e = .returned (.bool b) :=
  four_text (k0 := 7) (m := 2) (by decide) (by decide) (by decide) (fun i h => of_decide_eq_true (below_forall 7 (fun i => decide (ch ⟨#[48, 46, 48, 46, 48, 46, 48, 47, 51, 50]⟩ i ≠ 47)) (by decide) i h)) (by decide) (fun i h => of_decide_eq_true (below_forall 2 (fun i => decide (isDigit (ch ⟨#[48, 46, 48, 46, 48, 46, 48, 47, 51, 50]⟩ (7 + 1 + i)))) (by decide) i h)) (by decide) (by decide) hI
theorem four1 (hI : Bts ip.bytes) : Calls Tryd.prog 104 #[.string ⟨#[49, 50, 55, 46, 48, 46, 48, 46, 48, 47, 56]⟩, ip.val] w fun e w' => Ext w w' ∧ ∃ b, (ip.v = 6 → b = false) ∧ e = .returned (.bool b) :=
  four_text (k0 := 9) (m := 1) (by decide) (by decide) (by decide) (fun i h => of_decide_eq_true (below_forall 9 (fun i => decide (ch ⟨#[49, 50, 55, 46, 48, 46, 48, 46, 48, 47, 56]⟩ i ≠ 47)) (by decide) i h)) (by decide) (fun i h => of_decide_eq_true (below_forall 1 (fun i => decide (isDigit (ch ⟨#[49, 50, 55, 46, 48, 46, 48, 46, 48, 47, 56]⟩ (9 + 1 + i)))) (by decide) i h)) (by decide) (by decide) hI
theorem four2 (hI : Bts ip.bytes) : Calls Tryd.prog 104 #[.string ⟨#[50, 50, 52, 46, 48, 46, 48, 46, 48, 47, 52]⟩, ip.val] w fun e w' => Ext w w' ∧ ∃ b, (ip.v = 6 → b = false) ∧ e = .returned (.bool b) :=
  four_text (k0 := 9) (m := 1) (by decide) (by decide) (by decide) (fun i h => of_decide_eq_true (below_forall 9 (fun i => decide (ch ⟨#[50, 50, 52, 46, 48, 46, 48, 46, 48, 47, 52]⟩ i ≠ 47)) (by decide) i h)) (by decide) (fun i h => of_decide_eq_true (below_forall 1 (fun i => decide (isDigit (ch ⟨#[50, 50, 52, 46, 48, 46, 48, 46, 48, 47, 52]⟩ (9 + 1 + i)))) (by decide) i h)) (by decide) (by decide) hI
theorem four3 (hI : Bts ip.bytes) : Calls Tryd.prog 104 #[.string ⟨#[49, 54, 57, 46, 50, 53, 52, 46, 48, 46, 48, 47, 49, 54]⟩, ip.val] w fun e w' => Ext w w' ∧ ∃ b, (ip.v = 6 → b = false) ∧ e = .returned (.bool b) :=
  four_text (k0 := 11) (m := 2) (by decide) (by decide) (by decide) (fun i h => of_decide_eq_true (below_forall 11 (fun i => decide (ch ⟨#[49, 54, 57, 46, 50, 53, 52, 46, 48, 46, 48, 47, 49, 54]⟩ i ≠ 47)) (by decide) i h)) (by decide) (fun i h => of_decide_eq_true (below_forall 2 (fun i => decide (isDigit (ch ⟨#[49, 54, 57, 46, 50, 53, 52, 46, 48, 46, 48, 47, 49, 54]⟩ (11 + 1 + i)))) (by decide) i h)) (by decide) (by decide) hI
theorem four4 (hI : Bts ip.bytes) : Calls Tryd.prog 104 #[.string ⟨#[50, 53, 53, 46, 50, 53, 53, 46, 50, 53, 53, 46, 50, 53, 53, 47, 51, 50]⟩, ip.val] w fun e w' => Ext w w' ∧ ∃ b, (ip.v = 6 → b = false) ∧ e = .returned (.bool b) :=
  four_text (k0 := 15) (m := 2) (by decide) (by decide) (by decide) (fun i h => of_decide_eq_true (below_forall 15 (fun i => decide (ch ⟨#[50, 53, 53, 46, 50, 53, 53, 46, 50, 53, 53, 46, 50, 53, 53, 47, 51, 50]⟩ i ≠ 47)) (by decide) i h)) (by decide) (fun i h => of_decide_eq_true (below_forall 2 (fun i => decide (isDigit (ch ⟨#[50, 53, 53, 46, 50, 53, 53, 46, 50, 53, 53, 46, 50, 53, 53, 47, 51, 50]⟩ (15 + 1 + i)))) (by decide) i h)) (by decide) (by decide) hI
theorem four5 (hI : Bts ip.bytes) : Calls Tryd.prog 104 #[.string ⟨#[48, 46, 48, 46, 48, 46, 48, 47, 56]⟩, ip.val] w fun e w' => Ext w w' ∧ ∃ b, (ip.v = 6 → b = false) ∧ e = .returned (.bool b) :=
  four_text (k0 := 7) (m := 1) (by decide) (by decide) (by decide) (fun i h => of_decide_eq_true (below_forall 7 (fun i => decide (ch ⟨#[48, 46, 48, 46, 48, 46, 48, 47, 56]⟩ i ≠ 47)) (by decide) i h)) (by decide) (fun i h => of_decide_eq_true (below_forall 1 (fun i => decide (isDigit (ch ⟨#[48, 46, 48, 46, 48, 46, 48, 47, 56]⟩ (7 + 1 + i)))) (by decide) i h)) (by decide) (by decide) hI
theorem four6 (hI : Bts ip.bytes) : Calls Tryd.prog 104 #[.string ⟨#[50, 52, 48, 46, 48, 46, 48, 46, 48, 47, 52]⟩, ip.val] w fun e w' => Ext w w' ∧ ∃ b, (ip.v = 6 → b = false) ∧ e = .returned (.bool b) :=
  four_text (k0 := 9) (m := 1) (by decide) (by decide) (by decide) (fun i h => of_decide_eq_true (below_forall 9 (fun i => decide (ch ⟨#[50, 52, 48, 46, 48, 46, 48, 46, 48, 47, 52]⟩ i ≠ 47)) (by decide) i h)) (by decide) (fun i h => of_decide_eq_true (below_forall 1 (fun i => decide (isDigit (ch ⟨#[50, 52, 48, 46, 48, 46, 48, 46, 48, 47, 52]⟩ (9 + 1 + i)))) (by decide) i h)) (by decide) (by decide) hI
theorem sixA (hI : Bts ip.bytes) : Calls Tryd.prog 104 #[.string ⟨#[58, 58, 47, 49, 50, 56]⟩, ip.val] w fun e w' => Ext w w' ∧ ∃ b, (ip.v = 6 → (b = true ↔ ∀ i : Nat, (i : Int) < 128 → bitS noneIP i = bitS ip i)) ∧ e = .returned (.bool b) :=
  six_text (k0 := 2) (m := 3) (P0 := noneIP) (L := 128) (by decide) (by decide) (by decide) (fun i h => of_decide_eq_true (below_forall 2 (fun i => decide (ch ⟨#[58, 58, 47, 49, 50, 56]⟩ i ≠ 47)) (by decide) i h)) (by decide) (fun i h => of_decide_eq_true (below_forall 3 (fun i => decide (isDigit (ch ⟨#[58, 58, 47, 49, 50, 56]⟩ (2 + 1 + i)))) (by decide) i h)) (by decide) (by decide) rfl (by unfold Bts; decide)
    (fun w => sixes_spec (by decide) (.inl ⟨by decide, by decide, by decide, rfl⟩)) (by decide) (by decide) (by decide) (fun i h h' => by
      have := below_forall 128 (fun i => decide ((128 : Int) ≤ i → bitS noneIP i ≠ 1)) (by decide) i h'
      exact of_decide_eq_true this h) hI
theorem sixB (hI : Bts ip.bytes) : Calls Tryd.prog 104 #[.string ⟨#[58, 58, 49, 47, 49, 50, 56]⟩, ip.val] w fun e w' => Ext w w' ∧ ∃ b, (ip.v = 6 → (b = true ↔ ∀ i : Nat, (i : Int) < 128 → bitS (tailIP 1) i = bitS ip i)) ∧ e = .returned (.bool b) :=
  six_text (k0 := 3) (m := 3) (P0 := (tailIP 1)) (L := 128) (by decide) (by decide) (by decide) (fun i h => of_decide_eq_true (below_forall 3 (fun i => decide (ch ⟨#[58, 58, 49, 47, 49, 50, 56]⟩ i ≠ 47)) (by decide) i h)) (by decide) (fun i h => of_decide_eq_true (below_forall 3 (fun i => decide (isDigit (ch ⟨#[58, 58, 49, 47, 49, 50, 56]⟩ (3 + 1 + i)))) (by decide) i h)) (by decide) (by decide) rfl (by unfold Bts; decide)
    (fun w => sixes_spec (by decide) (.inr (.inl ⟨1, by decide, by decide, by decide, by decide, by decide, fun i h => of_decide_eq_true (below_forall 1 (fun i => decide (0 ≤ worthS (ch ((⟨#[58, 58, 49, 47, 49, 50, 56]⟩ : ByteArray).extract 0 3) (2 + i)))) (by decide) i h), congrArg tailIP (by decide)⟩))) (by decide) (by decide) (by decide) (fun i h h' => by
      have := below_forall 128 (fun i => decide ((128 : Int) ≤ i → bitS (tailIP 1) i ≠ 1)) (by decide) i h'
      exact of_decide_eq_true this h) hI
theorem sixC (hI : Bts ip.bytes) : Calls Tryd.prog 104 #[.string ⟨#[102, 102, 48, 48, 58, 58, 47, 56]⟩, ip.val] w fun e w' => Ext w w' ∧ ∃ b, (ip.v = 6 → (b = true ↔ ∀ i : Nat, (i : Int) < 8 → bitS (headIP 65280) i = bitS ip i)) ∧ e = .returned (.bool b) :=
  six_text (k0 := 6) (m := 1) (P0 := (headIP 65280)) (L := 8) (by decide) (by decide) (by decide) (fun i h => of_decide_eq_true (below_forall 6 (fun i => decide (ch ⟨#[102, 102, 48, 48, 58, 58, 47, 56]⟩ i ≠ 47)) (by decide) i h)) (by decide) (fun i h => of_decide_eq_true (below_forall 1 (fun i => decide (isDigit (ch ⟨#[102, 102, 48, 48, 58, 58, 47, 56]⟩ (6 + 1 + i)))) (by decide) i h)) (by decide) (by decide) rfl (by unfold Bts; decide)
    (fun w => sixes_spec (by decide) (.inr (.inr ⟨4, by decide, by decide, by decide, fun i h => of_decide_eq_true (below_forall 4 (fun i => decide (0 ≤ worthS (ch ((⟨#[102, 102, 48, 48, 58, 58, 47, 56]⟩ : ByteArray).extract 0 6) (0 + i)))) (by decide) i h), by decide, by decide, congrArg headIP (by decide)⟩))) (by decide) (by decide) (by decide) (fun i h h' => by
      have := below_forall 128 (fun i => decide ((8 : Int) ≤ i → bitS (headIP 65280) i ≠ 1)) (by decide) i h'
      exact of_decide_eq_true this h) hI
theorem sixD (hI : Bts ip.bytes) : Calls Tryd.prog 104 #[.string ⟨#[102, 101, 56, 48, 58, 58, 47, 49, 48]⟩, ip.val] w fun e w' => Ext w w' ∧ ∃ b, (ip.v = 6 → (b = true ↔ ∀ i : Nat, (i : Int) < 10 → bitS (headIP 65152) i = bitS ip i)) ∧ e = .returned (.bool b) :=
  six_text (k0 := 6) (m := 2) (P0 := (headIP 65152)) (L := 10) (by decide) (by decide) (by decide) (fun i h => of_decide_eq_true (below_forall 6 (fun i => decide (ch ⟨#[102, 101, 56, 48, 58, 58, 47, 49, 48]⟩ i ≠ 47)) (by decide) i h)) (by decide) (fun i h => of_decide_eq_true (below_forall 2 (fun i => decide (isDigit (ch ⟨#[102, 101, 56, 48, 58, 58, 47, 49, 48]⟩ (6 + 1 + i)))) (by decide) i h)) (by decide) (by decide) rfl (by unfold Bts; decide)
    (fun w => sixes_spec (by decide) (.inr (.inr ⟨4, by decide, by decide, by decide, fun i h => of_decide_eq_true (below_forall 4 (fun i => decide (0 ≤ worthS (ch ((⟨#[102, 101, 56, 48, 58, 58, 47, 49, 48]⟩ : ByteArray).extract 0 6) (0 + i)))) (by decide) i h), by decide, by decide, congrArg headIP (by decide)⟩))) (by decide) (by decide) (by decide) (fun i h h' => by
      have := below_forall 128 (fun i => decide ((10 : Int) ≤ i → bitS (headIP 65152) i ≠ 1)) (by decide) i h'
      exact of_decide_eq_true this h) hI
theorem sixE (hI : Bts ip.bytes) : Calls Tryd.prog 104 #[.string ⟨#[58, 58, 47, 56]⟩, ip.val] w fun e w' => Ext w w' ∧ ∃ b, (ip.v = 6 → (b = true ↔ ∀ i : Nat, (i : Int) < 8 → bitS noneIP i = bitS ip i)) ∧ e = .returned (.bool b) :=
  six_text (k0 := 2) (m := 1) (P0 := noneIP) (L := 8) (by decide) (by decide) (by decide) (fun i h => of_decide_eq_true (below_forall 2 (fun i => decide (ch ⟨#[58, 58, 47, 56]⟩ i ≠ 47)) (by decide) i h)) (by decide) (fun i h => of_decide_eq_true (below_forall 1 (fun i => decide (isDigit (ch ⟨#[58, 58, 47, 56]⟩ (2 + 1 + i)))) (by decide) i h)) (by decide) (by decide) rfl (by unfold Bts; decide)
    (fun w => sixes_spec (by decide) (.inl ⟨by decide, by decide, by decide, rfl⟩)) (by decide) (by decide) (by decide) (fun i h h' => by
      have := below_forall 128 (fun i => decide ((8 : Int) ≤ i → bitS noneIP i ≠ 1)) (by decide) i h'
      exact of_decide_eq_true this h) hI
set_option maxHeartbeats 1000000 in
theorem refClass_spec (hI : Bts ip.bytes) : Calls Tryd.prog 78 #[ip.val] w fun e w' => Ext w w' ∧ ∃ c, (ip.v = 6 → ((c ≠ 3 ∧ c ≠ 1) ↔ targetS ip = true)) ∧ e = .returned (.int .i64 c) := by
  refine weirref4_Class_of ip.v ip.a0 ip.a1 ip.a2 ip.a3 ip.a4 ip.a5 ip.a6 ip.a7 ip.a8 ip.a9 ip.a10 ip.a11 ip.a12 ip.a13 ip.a14 ip.a15 w _ ?_
  unfold weirref4_Class_VC
  refine NewVC.blk fun g1 w1 hg1 hz1 hE1 hb1 => ?_
  have hb1 : Blk w1 g1 31 ip.cells := hb1
  have hT : targetS ip = true ↔ ip.v = 6 ∧ ip.bytes.any (fun x => decide (x ≠ 0)) = true ∧ ip.a0 ≠ 255 := by
    unfold targetS; simp
  refine ⟨_, _, _, _, _, _, _, _, _, _, _, _, _, _, _, _, _, CellsAt.blk hb1, ?_⟩
  refine (refValid4_spec (P := ip)).mono ?_
  rintro _ w2 ⟨hE2, b, hb, rfl⟩
  have hE := hE1.ext hE2
  refine ⟨_, rfl, ?_⟩
  cases b with
  | false => exact Br.t rfl ⟨hE, 0, fun h => (by have := hb h; cases this), rfl⟩
  | true =>
  refine Br.f rfl ?_
  have hb2 := hb1.ext hE2
  refine JoinVC.of (fun st w' => Ext w w' ∧ Blk w' g1 31 ip.cells ∧ (ip.v = 6 → (st = true ↔ ip.bytes.any (fun x => decide (x ≠ 0)) = false))) ?_ ?_
  · refine ⟨_, _, _, _, _, _, _, _, _, _, _, _, _, _, _, _, _, CellsAt.blk hb2, ?_⟩
    refine (four0 hI).mono ?_
    rintro _ w3 ⟨hE3, x, hx, rfl⟩
    refine ⟨_, rfl, ?_⟩
    cases x with
    | true => exact Br.t rfl ⟨hE.ext hE3, hb2.ext hE3, fun h => (by have := hx h; cases this)⟩
    | false =>
      refine Br.f rfl ⟨_, _, _, _, _, _, _, _, _, _, _, _, _, _, _, _, _, CellsAt.blk (hb2.ext hE3), ?_⟩
      refine (sixA hI).mono ?_
      rintro _ w4 ⟨hE4, x, hx, rfl⟩
      exact ⟨_, rfl, (hE.ext hE3).ext hE4, (hb2.ext hE3).ext hE4, fun h => (hx h).trans (bits_none hI)⟩
  rintro st w5 ⟨hE5, hb5, hA⟩
  unfold weirref4_Class_J115
  cases st with
  | true => exact Br.t rfl ⟨hE5, 1, fun h => ⟨fun h' => absurd rfl h'.2, fun h' => by rw [hT, (hA h).1 rfl] at h'; exact absurd h'.2.1 (by decide)⟩, rfl⟩
  | false =>
  have hA : ip.v = 6 → ip.bytes.any (fun x => decide (x ≠ 0)) = true := fun h => by
    cases hany : ip.bytes.any (fun x => decide (x ≠ 0)) with
    | true => rfl
    | false => have := (hA h).2 hany; cases this
  refine Br.f rfl ?_
  refine JoinVC.of (fun st w' => Ext w w' ∧ Blk w' g1 31 ip.cells ∧ (ip.v = 6 → st = true → ip.a0 = 0)) ?_ ?_
  · refine ⟨_, _, _, _, _, _, _, _, _, _, _, _, _, _, _, _, _, CellsAt.blk hb5, ?_⟩
    refine (four1 hI).mono ?_
    rintro _ w6 ⟨hE6, x, hx, rfl⟩
    refine ⟨_, rfl, ?_⟩
    cases x with
    | true => exact Br.t rfl ⟨hE5.ext hE6, hb5.ext hE6, fun h => (by have := hx h; cases this)⟩
    | false =>
      refine Br.f rfl ⟨_, _, _, _, _, _, _, _, _, _, _, _, _, _, _, _, _, CellsAt.blk (hb5.ext hE6), ?_⟩
      refine (sixB hI).mono ?_
      rintro _ w7 ⟨hE7, x, hx, rfl⟩
      exact ⟨_, rfl, (hE5.ext hE6).ext hE7, (hb5.ext hE6).ext hE7, fun h hx' => (bits_loop hI ((hx h).1 hx')).1⟩
  rintro st w8 ⟨hE8, hb8, hB⟩
  unfold weirref4_Class_J463
  cases st with
  | true => exact Br.t rfl ⟨hE8, 2, fun h => ⟨fun _ => hT.2 ⟨h, hA h, by have := hB h rfl; omega⟩, fun _ => ⟨by decide, by decide⟩⟩, rfl⟩
  | false =>
  refine Br.f rfl ?_
  refine JoinVC.of (fun st w' => Ext w w' ∧ Blk w' g1 31 ip.cells ∧ (ip.v = 6 → (st = true ↔ ip.a0 = 255))) ?_ ?_
  · refine ⟨_, _, _, _, _, _, _, _, _, _, _, _, _, _, _, _, _, CellsAt.blk hb8, ?_⟩
    refine (four2 hI).mono ?_
    rintro _ w9 ⟨hE9, x, hx, rfl⟩
    refine ⟨_, rfl, ?_⟩
    cases x with
    | true => exact Br.t rfl ⟨hE8.ext hE9, hb8.ext hE9, fun h => (by have := hx h; cases this)⟩
    | false =>
      refine Br.f rfl ⟨_, _, _, _, _, _, _, _, _, _, _, _, _, _, _, _, _, CellsAt.blk (hb8.ext hE9), ?_⟩
      refine (sixC hI).mono ?_
      rintro _ w10 ⟨hE10, x, hx, rfl⟩
      exact ⟨_, rfl, (hE8.ext hE9).ext hE10, (hb8.ext hE9).ext hE10, fun h => (hx h).trans (bits_full hI)⟩
  rintro st w11 ⟨hE11, hb11, hC⟩
  unfold weirref4_Class_J1855
  cases st with
  | true => exact Br.t rfl ⟨hE11, 3, fun h => ⟨fun h' => absurd rfl h'.1, fun h' => absurd ((hC h).1 rfl) (hT.1 h').2.2⟩, rfl⟩
  | false =>
  have hC : ip.v = 6 → ip.a0 ≠ 255 := fun h h' => by have := (hC h).2 h'; cases this
  have fin : ∀ c : Int, c ≠ 3 → c ≠ 1 → (ip.v = 6 → ((c ≠ 3 ∧ c ≠ 1) ↔ targetS ip = true)) := fun c h3 h1 h => ⟨fun _ => hT.2 ⟨h, hA h, hC h⟩, fun _ => ⟨h3, h1⟩⟩
  refine Br.f rfl ?_
  refine JoinVC.of (fun _ w' => Ext w w' ∧ Blk w' g1 31 ip.cells) ?_ ?_
  · refine ⟨_, _, _, _, _, _, _, _, _, _, _, _, _, _, _, _, _, CellsAt.blk hb11, ?_⟩
    refine (four3 hI).mono ?_
    rintro _ w12 ⟨hE12, x, hx, rfl⟩
    refine ⟨_, rfl, ?_⟩
    cases x with
    | true => exact Br.t rfl ⟨hE11.ext hE12, hb11.ext hE12⟩
    | false =>
      refine Br.f rfl ⟨_, _, _, _, _, _, _, _, _, _, _, _, _, _, _, _, _, CellsAt.blk (hb11.ext hE12), ?_⟩
      refine (sixD hI).mono ?_
      rintro _ w13 ⟨hE13, x, hx, rfl⟩
      exact ⟨_, rfl, (hE11.ext hE12).ext hE13, (hb11.ext hE12).ext hE13⟩
  rintro st w14 ⟨hE14, hb14⟩
  unfold weirref4_Class_J7423
  cases st with
  | true => exact Br.t rfl ⟨hE14, 4, fin 4 (by decide) (by decide), rfl⟩
  | false =>
  refine Br.f rfl ⟨_, _, _, _, _, _, _, _, _, _, _, _, _, _, _, _, _, CellsAt.blk hb14, ?_⟩
  refine (four4 hI).mono ?_
  rintro _ w15 ⟨hE15, x, hx, rfl⟩
  refine ⟨_, rfl, ?_⟩
  cases x with
  | true => exact Br.t rfl ⟨hE14.ext hE15, 5, fin 5 (by decide) (by decide), rfl⟩
  | false =>
  refine Br.f rfl ⟨_, _, _, _, _, _, _, _, _, _, _, _, _, _, _, _, _, CellsAt.blk (hb14.ext hE15), ?_⟩
  refine (four5 hI).mono ?_
  rintro _ w16 ⟨hE16, x, hx, rfl⟩
  refine ⟨_, rfl, ?_⟩
  cases x with
  | true => exact Br.t rfl ⟨(hE14.ext hE15).ext hE16, 6, fin 6 (by decide) (by decide), rfl⟩
  | false =>
  refine Br.f rfl ⟨_, _, _, _, _, _, _, _, _, _, _, _, _, _, _, _, _, CellsAt.blk ((hb14.ext hE15).ext hE16), ?_⟩
  refine (four6 hI).mono ?_
  rintro _ w17 ⟨hE17, x, hx, rfl⟩
  refine ⟨_, rfl, ?_⟩
  have hEl := ((hE14.ext hE15).ext hE16).ext hE17
  cases x with
  | true => exact Br.t rfl ⟨hEl, 6, fin 6 (by decide) (by decide), rfl⟩
  | false =>
  refine Br.f rfl ⟨_, _, _, _, _, _, _, _, _, _, _, _, _, _, _, _, _, CellsAt.blk (((hb14.ext hE15).ext hE16).ext hE17), ?_⟩
  refine (sixE hI).mono ?_
  rintro _ w18 ⟨hE18, x, hx, rfl⟩
  refine ⟨_, rfl, ?_⟩
  cases x with
  | true => exact Br.t rfl ⟨hEl.ext hE18, 6, fin 6 (by decide) (by decide), rfl⟩
  | false => exact Br.f rfl ⟨hEl.ext hE18, 7, fin 7 (by decide) (by decide), rfl⟩
theorem target_spec (hI : Bts ip.bytes) : Calls Tryd.prog 53 #[ip.val] w fun e w' => Ext w w' ∧ e = .returned (.bool (targetS ip)) := by
  refine weirref8_target_of ip.v ip.a0 ip.a1 ip.a2 ip.a3 ip.a4 ip.a5 ip.a6 ip.a7 ip.a8 ip.a9 ip.a10 ip.a11 ip.a12 ip.a13 ip.a14 ip.a15 w _ ?_
  unfold weirref8_target_VC
  refine NewVC.blk fun g1 w1 hg1 hz1 hE1 hb1 => ?_
  refine ⟨_, _, _, _, _, _, _, _, _, _, _, _, _, _, _, _, _, CellsAt.blk hb1, ?_⟩
  refine (refClass_spec hI).mono ?_
  rintro _ w2 ⟨hE2, c, hc, rfl⟩
  refine ⟨_, rfl, _, (hb1.ext hE2).cell 0, Br.dec (fun h6 => Br.dec (fun h3 => ⟨hE1.ext hE2, ?_⟩) fun h3 => ⟨hE1.ext hE2, ?_⟩) fun h6 => ⟨hE1.ext hE2, ?_⟩⟩
  · have := hc h6
    by_cases h1 : c = 1
    · have hf : targetS ip = false := by
        cases ht : targetS ip with
        | false => rfl
        | true => exact absurd h1 (this.2 ht).2
      rw [hf, decide_eq_false (by simpa using h1)]
    · rw [this.1 ⟨h3, h1⟩, decide_eq_true h1]
  · have := hc h6
    cases ht : targetS ip with
    | false => rfl
    | true => exact absurd (this.2 ht).1 h3
  · unfold targetS; rw [decide_eq_false h6, Bool.false_and]
end
end Nd
end Go.Proofs.YtjngdcilnipjcaaDoor
