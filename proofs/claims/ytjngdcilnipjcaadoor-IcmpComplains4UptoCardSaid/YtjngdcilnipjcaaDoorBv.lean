/- Layer 4 (the document's): ParsePrefix, of; the texts of the document's table. -/
import Derived.Test.YtjngdcilnipjcaaDoorBu
namespace Go.Proofs.YtjngdcilnipjcaaDoor
namespace Nd
open Go.Eng Go.RowKit
section
variable {w : World} {s : ByteArray} {P ip : IPV} {len : Int}
set_option maxHeartbeats 1000000 in
theorem ParsePrefix_spec {k0 m : Nat} {Q : IPV → Int → Prop} (hz : s.size ≤ 49) (hk : s.size = k0 + 1 + m) (hm : 0 < m ∧ m ≤ 3) (hno : ∀ i, i < k0 → ch s i ≠ 47) (hsl : ch s k0 = 47) (hd : ∀ i, i < m → isDigit (ch s (k0 + 1 + i)))
    (hIP : ∀ w : World, Calls Tryd.prog 138 #[.string (s.extract 0 k0)] w fun e w' => Ext w w' ∧ ∃ (P : IPV) (x y : Int), Q P x ∧ Bts P.bytes ∧ e = .returned (.tuple #[P.val, .int .i64 x, .int .i64 y])) :
    Calls Tryd.prog 126 #[.string s] w fun e w' => Ext w w' ∧ ∃ (P' : IPV) (len' x y : Int), Bts P'.bytes ∧ (P'.v = 0 ∨ ∃ x, Q P' x) ∧
      (∀ P0 : IPV, (∀ P x, Q P x → P = P0 ∧ x = 0) → P0.v = 6 → 0 ≤ decS s (k0 + 1) m 128 → decS s (k0 + 1) m 128 ≤ 128 → (∀ i : Nat, decS s (k0 + 1) m 128 ≤ i → i < 128 → bitS P0 i ≠ 1) → P' = P0 ∧ len' = decS s (k0 + 1) m 128) ∧
      e = .returned (.tuple #[preV P' len', .int .i64 x, .int .i64 y]) := by
  refine weirref4_ParsePrefix_of s w _ ?_
  unfold weirref4_ParsePrefix_VC
  refine NewVC.blk fun g1 w1 hg1 hz1 hE1 hb1 => Br.no (by omega) ?_
  refine JoinVC.of (fun st w' => w1 = w' ∧ st = (k0 : Int)) ?_ ?_
  · refine LoopVC.of (fun st w' => w1 = w' ∧ ∃ i : Nat, st = (i : Int) ∧ i ≤ k0) (fun st _ => ((k0 : Int) - st).toNat) ⟨rfl, 0, rfl, by omega⟩ ?_
    rintro _ _ ⟨rfl, i, rfl, hi⟩
    show weirref4_ParsePrefix_L60 s _ (i : Int) w1 _
    unfold weirref4_ParsePrefix_L60
    refine Br.yes (by omega) (StrIdxVC.of (by omega) (Br.dec (fun h => ⟨⟨rfl, i + 1, ?_, ?_⟩, ?_⟩) fun h => ⟨rfl, ?_⟩))
    · rw [w64 (by omega) (by omega)]; omega
    · rcases Nat.lt_or_ge i k0 with h' | h'
      · omega
      · have : i = k0 := by omega
        subst this; exact absurd hsl h
    · rw [w64 (by omega) (by omega)]
      rcases Nat.lt_or_ge i k0 with h' | h'
      · omega
      · have : i = k0 := by omega
        subst this; exact absurd hsl h
    · rcases Nat.lt_or_ge i k0 with h' | h'
      · exact absurd (hno i h') h
      · omega
  rintro _ _ ⟨rfl, rfl⟩
  unfold weirref4_ParsePrefix_J15
  refine Br.no (by omega) ?_
  refine ⟨by omega, by omega, ?_⟩
  rw [Int.toNat_natCast]
  refine (hIP w1).mono ?_
  rintro _ w2 ⟨hE2, P, x, y, hQ, hB, rfl⟩
  have s2 := hE2.size
  refine ⟨_, _, _, _, _, _, _, _, _, _, _, _, _, _, _, _, _, _, _, rfl, ?_⟩
  refine NewVC.blk fun g2 w3 hg2 hz3 hE3 hb2 => ?_
  refine setAll P.cells 0 w3 _ _ hb2 rfl fun w4 hz4 hm4 hb2 => ?_
  have hb2 : Blk w4 g2 31 P.cells := hb2
  have hE4 : Ext w1 w4 := (hE2.ext hE3).set hm4 (by omega)
  have hb1 := hb1.ext hE4
  have hE := hE1.ext hE4
  have s4 := hE4.size
  refine Br.dec (fun hx => ?_) fun hx => ?_
  · refine setAll (preC zeroIP 0) 0 w4 _ _ hb1 rfl fun w5 hz5 hm5 hb5 => ?_
    exact ⟨_, _, _, _, _, _, _, _, _, _, _, _, _, _, _, _, _, _, CellsAt.blk hb5, hE.set hm5 (by omega), zeroIP, 0, x, y, zeroIP_bts, .inl rfl, fun P0 h => absurd (h P x hQ).2 hx, rfl⟩
  have hx : x = 0 := by omega
  subst hx
  have e1 : IntKind.i64.wrap ((k0 : Int) + 1) = ((k0 + 1 : Nat) : Int) := by rw [w64 (by omega) (by omega)]; omega
  rw [e1]
  refine JoinVC.of (fun st w' => w4 = w' ∧ st = ((k0 + 1 + m : Nat) : Int)) ?_ ?_
  · refine LoopVC.of (fun st w' => w4 = w' ∧ ∃ i : Nat, st = ((k0 + 1 + i : Nat) : Int) ∧ i ≤ m) (fun st _ => (((k0 + 1 + m : Nat) : Int) - st).toNat) ⟨rfl, 0, rfl, by omega⟩ ?_
    rintro _ _ ⟨rfl, i, rfl, hi⟩
    show weirref4_ParsePrefix_L2044 _ s _ ((k0 + 1 + i : Nat) : Int) w4 _
    unfold weirref4_ParsePrefix_L2044
    refine Br.dec (fun hlt => StrIdxVC.of (by omega) ?_) fun hge => ⟨rfl, by omega⟩
    refine (digit_spec _).mono ?_
    rintro _ _ ⟨rfl, rfl⟩
    refine ⟨_, rfl, Br.yes (hd i (by omega)) ⟨⟨rfl, i + 1, ?_, by omega⟩, ?_⟩⟩
    · rw [w64 (by omega) (by omega)]; omega
    · rw [w64 (by omega) (by omega)]; omega
  rintro _ _ ⟨rfl, rfl⟩
  unfold weirref4_ParsePrefix_J511
  rw [e1]
  refine Br.no (by omega) ?_
  refine ⟨_, _, _, _, _, _, _, _, _, _, _, _, _, _, _, _, _, CellsAt.blk hb2, ?_⟩
  refine (width_spec (P := P)).mono ?_
  rintro _ w5 ⟨hE5, rfl⟩
  refine ⟨_, rfl, ?_⟩
  refine (decimal_spec (p := k0 + 1) (k := m) (by omega) (by omega) hm.1 hd).mono ?_
  rintro _ _ ⟨rfl, rfl⟩
  have hb1 := hb1.ext hE5
  have hb2 := hb2.ext hE5
  have hE := hE.ext hE5
  have s5 := hE5.size
  have hW : P.v = 6 → (if P.v = 4 then (32 : Int) else 128) = 128 := fun h => if_neg (by omega)
  generalize (if P.v = 4 then (32 : Int) else 128) = W at hW
  refine ⟨_, rfl, Br.dec (fun hneg => ?_) fun hneg => Br.no (by omega) ?_⟩
  · refine setAll (preC zeroIP 0) 0 w5 _ _ hb1 rfl fun w6 hz6 hm6 hb6 => ?_
    refine ⟨_, _, _, _, _, _, _, _, _, _, _, _, _, _, _, _, _, _, CellsAt.blk hb6, hE.set hm6 (by omega), zeroIP, 0, _, _, zeroIP_bts, .inl rfl, fun P0 h h6 h0 _ _ => ?_, rfl⟩
    have := (h P 0 hQ).1
    subst this
    rw [hW h6] at hneg
    omega
  refine ⟨_, _, _, _, _, _, _, _, _, _, _, _, _, _, _, _, _, CellsAt.blk hb2, ?_⟩
  refine NewVC.blk fun g3 w6 hg3 hz6 hE6 hb3 => ?_
  refine setAll (preC P (decS s (k0 + 1) m W)) 0 w6 _ _ hb3 rfl fun w7 hz7 hm7 hb3 => ?_
  have hb3 : Blk w7 g3 170 (preC P (decS s (k0 + 1) m W)) := hb3
  have hE7 : Ext w5 w7 := hE6.set hm7 (by omega)
  refine ⟨_, _, _, _, _, _, _, _, _, _, _, _, _, _, _, _, _, _, CellsAt.blk hb3, ?_⟩
  refine (ValidPrefix_spec (P := P) (len := decS s (k0 + 1) m W) hB).mono ?_
  rintro _ w8 ⟨hE8, x, hx0, hx6, rfl⟩
  have hE := hE.ext (hE7.ext hE8)
  have hb1 := hb1.ext (hE7.ext hE8)
  refine ⟨_, rfl, Br.dec (fun hne => ?_) fun hne => ?_⟩
  · refine setAll (preC zeroIP 0) 0 w8 _ _ hb1 rfl fun w9 hz9 hm9 hb9 => ?_
    refine ⟨_, _, _, _, _, _, _, _, _, _, _, _, _, _, _, _, _, _, CellsAt.blk hb9, hE.set hm9 (by omega), zeroIP, 0, _, _, zeroIP_bts, .inl rfl, fun P0 h h6 h0 h1 hz => ?_, rfl⟩
    have := (h P 0 hQ).1
    subst this
    rw [hW h6] at hx6
    exact absurd (hx6 h6 h0 h1 hz) hne
  · refine ⟨_, _, _, _, _, _, _, _, _, _, _, _, _, _, _, _, _, _, CellsAt.blk (hb3.ext hE8), ?_⟩
    refine setAll (preC P (decS s (k0 + 1) m W)) 0 w8 _ _ hb1 rfl fun w9 hz9 hm9 hb9 => ?_
    refine ⟨_, _, _, _, _, _, _, _, _, _, _, _, _, _, _, _, _, _, CellsAt.blk hb9, hE.set hm9 (by omega), P, decS s (k0 + 1) m W, _, _, hB, .inr ⟨0, hQ⟩, fun P0 h h6 h0 h1 hz => ?_, rfl⟩
    have := (h P 0 hQ).1
    subst this
    exact ⟨rfl, by rw [hW h6]⟩
/-- Does an address lie in the net that a text says? -/
theorem of_spec {k0 m : Nat} {Q : IPV → Int → Prop} (hz : s.size ≤ 49) (hk : s.size = k0 + 1 + m) (hm : 0 < m ∧ m ≤ 3) (hno : ∀ i, i < k0 → ch s i ≠ 47) (hsl : ch s k0 = 47) (hd : ∀ i, i < m → isDigit (ch s (k0 + 1 + i)))
    (hIP : ∀ w : World, Calls Tryd.prog 138 #[.string (s.extract 0 k0)] w fun e w' => Ext w w' ∧ ∃ (P : IPV) (x y : Int), Q P x ∧ Bts P.bytes ∧ e = .returned (.tuple #[P.val, .int .i64 x, .int .i64 y])) (hI : Bts ip.bytes) :
    Calls Tryd.prog 104 #[.string s, ip.val] w fun e w' => Ext w w' ∧ ∃ b, (ip.v = 6 → (∀ P x, Q P x → P.v ≠ 6) → b = false) ∧
      (∀ P0 : IPV, (∀ P x, Q P x → P = P0 ∧ x = 0) → P0.v = 6 → ip.v = 6 → 0 ≤ decS s (k0 + 1) m 128 → decS s (k0 + 1) m 128 ≤ 128 → (∀ i : Nat, decS s (k0 + 1) m 128 ≤ i → i < 128 → bitS P0 i ≠ 1) →
        (b = true ↔ ∀ i : Nat, i < decS s (k0 + 1) m 128 → bitS P0 i = bitS ip i)) ∧
      e = .returned (.bool b) := by
  refine weirref4_of_of s ip.v ip.a0 ip.a1 ip.a2 ip.a3 ip.a4 ip.a5 ip.a6 ip.a7 ip.a8 ip.a9 ip.a10 ip.a11 ip.a12 ip.a13 ip.a14 ip.a15 w _ ?_
  unfold weirref4_of_VC
  refine NewVC.blk fun g1 w1 hg1 hz1 hE1 hb1 => ?_
  refine (ParsePrefix_spec hz hk hm hno hsl hd hIP).mono ?_
  rintro _ w2 ⟨hE2, P, len, x, y, hB, h4, h6, rfl⟩
  refine ⟨_, _, _, _, _, _, _, _, _, _, _, _, _, _, _, _, _, _, _, _, rfl, ?_⟩
  have s2 := hE2.size
  refine NewVC.blk fun g2 w3 hg2 hz3 hE3 hb2 => ?_
  refine setAll (preC P len) 0 w3 _ _ hb2 rfl fun w4 hz4 hm4 hb2 => ?_
  have hE4 : Ext w1 w4 := (hE2.ext hE3).set hm4 (by omega)
  refine ⟨_, _, _, _, _, _, _, _, _, _, _, _, _, _, _, _, _, _, CellsAt.blk hb2, _, _, _, _, _, _, _, _, _, _, _, _, _, _, _, _, _, CellsAt.blk (hb1.ext hE4), ?_⟩
  refine (Contains_spec (P := P) (ip := ip) (len := len) hB hI).mono ?_
  rintro _ w5 ⟨hE5, b, hb, hb6, rfl⟩
  refine ⟨_, rfl, (hE1.ext hE4).ext hE5, b, fun hi hq => hb ?_, fun P0 hq hP hi h0 h1 hz => ?_, rfl⟩
  · rcases h4 with h | ⟨x, h⟩
    · omega
    · have := hq P x h; omega
  · obtain ⟨rfl, rfl⟩ := h6 P0 hq hP h0 h1 hz
    exact hb6 hP hi h0 h1 hz
end
end Nd
end Go.Proofs.YtjngdcilnipjcaaDoor
/- Layer 4 (the document's): the twelve texts of the table; Class; which address may be a target. -/
namespace Go.Eng
open Go Go.RowKit
theorem below_forall (n : Nat) (p : Nat → Bool) (h : (List.range n).all p = true) : ∀ i, i < n → p i = true := fun i hi => List.all_eq_true.1 h i (List.mem_range.2 hi)
theorem bitS_nat {p : IPV} {q j b : Nat} (hj : j < 8) (hb : p.bytes.getD q 0 = (b : Int)) : bitS p (8 * q + j) = ((b / 2 ^ (7 - j) % 2 : Nat) : Int) := by
  unfold bitS
  rw [show (8 * q + j) / 8 = q by omega, show (8 * q + j) % 8 = j by omega, hb]
  push_cast
  rfl
theorem bytes_byte {p : IPV} (hB : Bts p.bytes) (q : Nat) : ∃ b : Nat, b < 256 ∧ p.bytes.getD q 0 = (b : Int) := by
  have h := bts_getD hB q
  obtain ⟨b, hb⟩ := Int.eq_ofNat_of_zero_le h.1
  exact ⟨b, by omega, hb⟩
end Go.Eng
namespace Go.Proofs.YtjngdcilnipjcaaDoor
namespace Nd
open Go.Eng Go.RowKit
section
variable {w : World} {ip : IPV}
theorem four_text {s : ByteArray} {k0 m : Nat} (hz : s.size ≤ 49) (hk : s.size = k0 + 1 + m) (hm : 0 < m ∧ m ≤ 3) (hno : ∀ i, i < k0 → ch s i ≠ 47) (hsl : ch s k0 = 47) (hd : ∀ i, i < m → isDigit (ch s (k0 + 1 + i)))
    (hc : hasS (s.extract 0 k0) 58 = false) (hl : (s.extract 0 k0).size ≤ 45) (hI : Bts ip.bytes) :
    Calls Tryd.prog 104 #[.string s, ip.val] w fun e w' => Ext w w' ∧ ∃ b, (ip.v = 6 → b = false) ∧ e = .returned (.bool b) := by
  refine (of_spec (Q := fun P _ => P.v = 0 ∨ P.v = 4) hz hk hm hno hsl hd (fun w => ?_) hI).mono ?_
  · refine (ParseIP_any hl hc).mono ?_
    rintro _ w' ⟨hE, P, x, y, hB, hv, rfl⟩
    exact ⟨hE, P, x, y, hv, hB, rfl⟩
  · rintro _ w' ⟨hE, b, hb, _, rfl⟩
    exact ⟨hE, b, fun h => hb h fun P x h' => by rcases h' with h' | h' <;> omega, rfl⟩
theorem six_text {s : ByteArray} {k0 m : Nat} {P0 : IPV} {L : Int} (hz : s.size ≤ 49) (hk : s.size = k0 + 1 + m) (hm : 0 < m ∧ m ≤ 3) (hno : ∀ i, i < k0 → ch s i ≠ 47) (hsl : ch s k0 = 47) (hd : ∀ i, i < m → isDigit (ch s (k0 + 1 + i)))
    (hc : hasS (s.extract 0 k0) 58 = true) (hl : (s.extract 0 k0).size ≤ 45) (h6 : P0.v = 6) (hB0 : Bts P0.bytes)
    (hS : ∀ w : World, Calls Tryd.prog 153 #[.string (s.extract 0 k0)] w fun e w' => Ext w w' ∧ e = .returned (.tuple #[P0.arr, .int .i64 0, .int .i64 0]))
    (hL : decS s (k0 + 1) m 128 = L) (h0 : 0 ≤ L) (h1 : L ≤ 128) (hbits : ∀ i : Nat, L ≤ i → i < 128 → bitS P0 i ≠ 1) (hI : Bts ip.bytes) :
    Calls Tryd.prog 104 #[.string s, ip.val] w fun e w' => Ext w w' ∧ ∃ b, (ip.v = 6 → (b = true ↔ ∀ i : Nat, (i : Int) < L → bitS P0 i = bitS ip i)) ∧ e = .returned (.bool b) := by
  refine (of_spec (Q := fun P x => P = P0 ∧ x = 0) hz hk hm hno hsl hd (fun w => ?_) hI).mono ?_
  · refine (ParseIP_six hl hc h6 hS).mono ?_
    rintro _ w' ⟨hE, rfl⟩
    exact ⟨hE, P0, 0, 0, ⟨rfl, rfl⟩, hB0, rfl⟩
  · rintro _ w' ⟨hE, b, _, hb, rfl⟩
    refine ⟨hE, b, fun h => ?_, rfl⟩
    have := hb P0 (fun P x h' => h') h6 h (by omega) (by omega) (by rw [hL]; exact hbits)
    rw [hL] at this
    exact this
theorem four4 (hI : Bts ip.bytes) : Calls Tryd.prog 104 #[.string ⟨#[50, 53, 53, 46, 50, 53, 53, 46, 50, 53, 53, 46, 50, 53, 53, 47, 51, 50]⟩, ip.val] w fun e w' => Ext w w' ∧ ∃ b, (ip.v = 6 → b = false) ∧ e = .returned (.bool b) :=
  four_text (k0 := 15) (m := 2) (by decide) (by decide) (by decide) (fun i h => of_decide_eq_true (below_forall 15 (fun i => decide (ch ⟨#[50, 53, 53, 46, 50, 53, 53, 46, 50, 53, 53, 46, 50, 53, 53, 47, 51, 50]⟩ i ≠ 47)) (by decide) i h)) (by decide) (fun i h => of_decide_eq_true (below_forall 2 (fun i => decide (isDigit (ch ⟨#[50, 53, 53, 46, 50, 53, 53, 46, 50, 53, 53, 46, 50, 53, 53, 47, 51, 50]⟩ (15 + 1 + i)))) (by decide) i h)) (by decide) (by decide) hI
theorem sixC (hI : Bts ip.bytes) : Calls Tryd.prog 104 #[.string ⟨#[102, 102, 48, 48, 58, 58, 47, 56]⟩, ip.val] w fun e w' => Ext w w' ∧ ∃ b, (ip.v = 6 → (b = true ↔ ∀ i : Nat, (i : Int) < 8 → bitS (headIP 65280) i = bitS ip i)) ∧ e = .returned (.bool b) :=
  six_text (k0 := 6) (m := 1) (P0 := (headIP 65280)) (L := 8) (by decide) (by decide) (by decide) (fun i h => of_decide_eq_true (below_forall 6 (fun i => decide (ch ⟨#[102, 102, 48, 48, 58, 58, 47, 56]⟩ i ≠ 47)) (by decide) i h)) (by decide) (fun i h => of_decide_eq_true (below_forall 1 (fun i => decide (isDigit (ch ⟨#[102, 102, 48, 48, 58, 58, 47, 56]⟩ (6 + 1 + i)))) (by decide) i h)) (by decide) (by decide) rfl (by unfold Bts; decide)
    (fun w => sixes_spec (by decide) (.inr (.inr ⟨4, by decide, by decide, by decide, fun i h => of_decide_eq_true (below_forall 4 (fun i => decide (0 ≤ worthS (ch ((⟨#[102, 102, 48, 48, 58, 58, 47, 56]⟩ : ByteArray).extract 0 6) (0 + i)))) (by decide) i h), by decide, by decide, congrArg headIP (by decide)⟩))) (by decide) (by decide) (by decide) (fun i h h' => by
      have := below_forall 128 (fun i => decide ((8 : Int) ≤ i → bitS (headIP 65280) i ≠ 1)) (by decide) i h'
      exact of_decide_eq_true this h) hI
end
end Nd
end Go.Proofs.YtjngdcilnipjcaaDoor
/- The two Classes agree on what may be a target. -/
namespace Go.Eng
open Go Go.RowKit
def maskK (n i : Int) : Int := IntKind.u8.wrap (Int.fdiv 65280 (2 ^ (min ((IntKind.u64.wrap (if (if 0 < IntKind.i64.wrap (n - IntKind.i64.wrap (8 * i)) then IntKind.i64.wrap (n - IntKind.i64.wrap (8 * i)) else 0) < 8 then (if 0 < IntKind.i64.wrap (n - IntKind.i64.wrap (8 * i)) then IntKind.i64.wrap (n - IntKind.i64.wrap (8 * i)) else 0) else 8)).toNat) 64)))
theorem maskB_eq (a n i : Int) : maskB a n i = bitv .and .u8 a (maskK n i) := rfl
theorem sameA_iff (p q : IPV) : sameA p q = true ↔ p.bytes = q.bytes := by
  simp [sameA, IPV.bytes]
end Go.Eng
