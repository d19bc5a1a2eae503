/- Chapter 8: the document's trouble, asks, some. -/
import Derived.Test.YtjngdcilnipjcaaGreatDoorBr
import Derived.Test.YtjngdcilnipjcaaGreatDoorBv
namespace Go.Proofs.YtjngdcilnipjcaaGreatDoor
namespace N6
open Go.Eng Go.RowKit
section
variable {w : World} {t : TrbV}
theorem trb_val {k x v E : Int} (hE : (trbL k).getD (if v = 4 then 4 else 5) 0 = E) (h1 : 1 ≤ k) (h7 : k ≤ 7) : isTrbS ⟨k, x⟩ v = decide (0 ≤ x ∧ x ≤ E) := by
 unfold isTrbS
 simp only
 rw [hE]
 exact decide_eq_decide.2 ⟨fun h => h.2.2, fun h => ⟨h1, h7, h⟩⟩
theorem refTrouble_spec {v : Int} (hv : v = 4 ∨ v = 6) : Calls Tryz.prog 32 #[t.val, .int .i64 v] w fun e w' => Ext w w' ∧ e = .returned (.bool (isTrbS t v)) := by
 obtain ⟨k, x⟩ := t
 refine weirref8_trouble_of ⟨k, x⟩ v w _ ?_
 unfold weirref8_trouble_VC
 refine NewVC.sep (Sep.start0 w) fun g1 w1 H => ⟨_, H.cell 1 rfl 0 rfl, ?_⟩
 have hE := H.restOf 0 rfl
 refine JoinVC.of (fun b w' => w' = w1 ∧ b = decide (k = 1 ∨ k = 2 ∨ k = 3 ∨ k = 5 ∨ k = 6)) ?_ ?_
 ·refine Br.dec (fun h => ⟨rfl, by rw [decide_eq_true h, decide_eq_true (.inl h)]⟩) fun h1 => ?_
  refine Br.dec (fun h => ⟨rfl, by rw [decide_eq_true h, decide_eq_true (.inr (.inl h))]⟩) fun h2 => ?_
  refine Br.dec (fun h => ⟨rfl, by rw [decide_eq_true h, decide_eq_true (.inr (.inr (.inl h)))]⟩) fun h3 => ?_
  refine Br.dec (fun h => ⟨rfl, by rw [decide_eq_true h, decide_eq_true (.inr (.inr (.inr (.inl h))))]⟩) fun h5 => ⟨rfl, ?_⟩
  exact decide_eq_decide.2 ⟨fun h => .inr (.inr (.inr (.inr h))), fun h => by
   rcases h with h | h | h | h | h
   ·exact absurd h h1
   ·exact absurd h h2
   ·exact absurd h h3
   ·exact absurd h h5
   ·exact h⟩
 rintro _ w2 ⟨hw2, rfl⟩
 subst w2
 unfold weirref8_trouble_J26
 refine Br.dec (fun hz => ⟨_, H.cell 1 rfl 1 rfl, hE, ?_⟩) fun hz => ?_
 ·have e : isTrbS ⟨k, x⟩ v = decide (0 ≤ x ∧ x ≤ 0) := by
   rcases hz with rfl | rfl | rfl | rfl | rfl <;> rcases hv with rfl | rfl <;> exact trb_val rfl (by decide) (by decide)
  rw [e]
  have ee : decide (x = 0) = decide (0 ≤ x ∧ x ≤ 0) := decide_eq_decide.2 ⟨fun h => by omega, fun h => by omega⟩
  rw [← ee]
 ·refine Br.dec (fun h4 => ⟨_, H.cell 1 rfl 1 rfl, ?_⟩) fun h4 => ?_
  ·have e : isTrbS ⟨k, x⟩ v = decide (0 ≤ x ∧ x ≤ 65535) := by
    subst h4
    rcases hv with rfl | rfl <;> exact trb_val rfl (by decide) (by decide)
   rw [e]
   refine Br.dec (fun h0 => ⟨_, H.cell 1 rfl 1 rfl, hE, ?_⟩) fun h0 => ⟨hE, by rw [decide_eq_false (fun h => h0 h.1)]⟩
   congr 2
   exact decide_eq_decide.2 ⟨fun h => ⟨h0, h⟩, fun h => h.2⟩
  ·refine Br.dec (fun h7 => ⟨_, H.cell 1 rfl 1 rfl, ?_⟩) fun h7 => ⟨hE, ?_⟩
   ·rcases hv with rfl | rfl
    ·have e : isTrbS ⟨k, x⟩ 4 = decide (0 ≤ x ∧ x ≤ 255) := by subst h7; exact trb_val rfl (by decide) (by decide)
     rw [e]
     refine Br.dec (fun h0 => ⟨_, H.cell 1 rfl 1 rfl, ?_⟩) fun h0 => ⟨hE, by rw [decide_eq_false (fun h => h0 h.1)]⟩
     exact Br.dec (fun h255 => ⟨hE, by rw [decide_eq_true ⟨h0, h255⟩]⟩) fun h255 => Br.no (by decide) ⟨hE, by rw [decide_eq_false (fun h => h255 h.2)]⟩
    ·have e : isTrbS ⟨k, x⟩ 6 = decide (0 ≤ x ∧ x ≤ 65535) := by subst h7; exact trb_val rfl (by decide) (by decide)
     rw [e]
     refine Br.dec (fun h0 => ⟨_, H.cell 1 rfl 1 rfl, ?_⟩) fun h0 => ⟨hE, by rw [decide_eq_false (fun h => h0 h.1)]⟩
     refine Br.dec (fun h255 => ⟨hE, by rw [decide_eq_true ⟨h0, Int.le_trans (show x ≤ 255 from h255) (by decide)⟩]⟩) fun h255 => Br.yes rfl ⟨_, H.cell 1 rfl 1 rfl, hE, ?_⟩
     congr 2
     exact decide_eq_decide.2 ⟨fun h => ⟨h0, h⟩, fun h => h.2⟩
   ·unfold isTrbS
    rw [decide_eq_false]
    intro h
    have h1 : 1 ≤ k := h.1
    have h2 : k ≤ 7 := h.2.1
    have h4' : ¬ k = 4 := h4
    have h7' : ¬ k = 7 := h7
    omega
end
end N6
end Go.Proofs.YtjngdcilnipjcaaGreatDoor
/- The program's table of nets, bit by bit: when an address lies in one; its class as a chain of them. -/
namespace Go.Eng
open Go Go.RowKit
theorem maskK_eq {n i : Nat} (hn : n ≤ 128) (hi : i < 16) : maskK (n : Int) (i : Int) = 256 - 2 ^ (8 - min 8 (n - 8 * i)) := by
 have := below_forall 129 (fun n => (List.range 16).all fun i => decide (maskK (n : Int) (i : Int) = 256 - 2 ^ (8 - min 8 (n - 8 * i)))) (by decide +kernel) n (by omega)
 exact of_decide_eq_true (below_forall 16 _ this i hi)
theorem and_top {a k : Nat} (ha : a < 256) (hk : k ≤ 8) : bitv .and .u8 (a : Int) (256 - 2 ^ (8 - k)) = ((a / 2 ^ (8 - k) * 2 ^ (8 - k) : Nat) : Int) := by
 have := below_forall 256 (fun a => (List.range 9).all fun k => decide (bitv .and .u8 (a : Int) (256 - 2 ^ (8 - k)) = ((a / 2 ^ (8 - k) * 2 ^ (8 - k) : Nat) : Int))) (by decide +kernel) a ha
 exact of_decide_eq_true (below_forall 9 _ this k (by omega))
theorem div_bits {a c k : Nat} (ha : a < 256) (hc : c < 256) (hk : k ≤ 8) : a / 2 ^ (8 - k) = c / 2 ^ (8 - k) ↔ ∀ j, j < k → a / 2 ^ (7 - j) % 2 = c / 2 ^ (7 - j) % 2 := by
 have far : ∀ x : Nat, x < 256 → ∀ i, 8 ≤ i → x / 2 ^ i = 0 := fun x hx i hi => by
  refine Nat.div_eq_of_lt (Nat.lt_of_lt_of_le hx ?_)
  exact Nat.pow_le_pow_right (n := 2) (by decide) hi
 have cut : ∀ x i : Nat, x / 2 ^ (8 - k) / 2 ^ i = x / 2 ^ (8 - k + i) := fun x i => by rw [Nat.div_div_eq_div_mul, ← Nat.pow_add]
 constructor
 ·intro h j hj
  have e : 7 - j = 8 - k + (k - 1 - j) := by omega
  rw [e, ← cut, ← cut, h]
 ·intro h
  refine Nat.eq_of_testBit_eq fun i => ?_
  rw [Nat.testBit_eq_decide_div_mod_eq, Nat.testBit_eq_decide_div_mod_eq, cut, cut]
  rcases Nat.lt_or_ge (8 - k + i) 8 with h' | h'
  ·have := h (7 - (8 - k + i)) (by omega)
   rw [show 7 - (7 - (8 - k + i)) = 8 - k + i by omega] at this
   rw [this]
  ·rw [far a ha _ h', far c hc _ h']
theorem mask_get (p : IPV) (n : Int) {i : Nat} (hi : i < 16) : (maskS p n).bytes.getD i 0 = maskB (p.bytes.getD i 0) n i := by
 match i, hi with
 | 0, _ => rfl | 1, _ => rfl | 2, _ => rfl | 3, _ => rfl | 4, _ => rfl | 5, _ => rfl | 6, _ => rfl | 7, _ => rfl
 | 8, _ => rfl | 9, _ => rfl | 10, _ => rfl | 11, _ => rfl | 12, _ => rfl | 13, _ => rfl | 14, _ => rfl | 15, _ => rfl | n + 16, h => exact absurd h (by omega)
theorem bytes_ext {p q : IPV} : p.bytes = q.bytes ↔ ∀ i, i < 16 → p.bytes.getD i 0 = q.bytes.getD i 0 := by
 refine ⟨fun h i _ => by rw [h], fun h => List.ext_getElem rfl fun i h1 h2 => ?_⟩
 have := h i h1
 rw [List.getD_eq_getElem?_getD, List.getD_eq_getElem?_getD, List.getElem?_eq_getElem h1, List.getElem?_eq_getElem h2] at this
 exact this
theorem net_bits {p q : IPV} {n : Nat} (hp : Bts p.bytes) (hq : Bts q.bytes) (hn : n ≤ 128) (hz : ∀ i : Nat, n ≤ i → i < 128 → bitS q i ≠ 1) :
  sameA (maskS p n) q = true ↔ ∀ i : Nat, i < n → bitS q i = bitS p i := by
 rw [sameA_iff, bytes_ext]
 have key : ∀ b, b < 16 → ((maskS p n).bytes.getD b 0 = q.bytes.getD b 0 ↔ ∀ j, j < min 8 (n - 8 * b) → bitS q (8 * b + j) = bitS p (8 * b + j)) := by
  intro b hb
  obtain ⟨a, ha, hae⟩ := bytes_byte hp b
  obtain ⟨c, hc, hce⟩ := bytes_byte hq b
  have hk : min 8 (n - 8 * b) ≤ 8 := Nat.min_le_left _ _
  rw [mask_get p n hb, hae, hce, maskB_eq, maskK_eq hn hb, and_top ha hk]
  have hlow : c % 2 ^ (8 - min 8 (n - 8 * b)) = 0 := by
   have h0 : ∀ j, min 8 (n - 8 * b) ≤ j → j < 8 → c / 2 ^ (7 - j) % 2 = 0 := fun j h1 h2 => by
    have := hz (8 * b + j) (by omega) (by omega)
    rw [bitS_nat h2 hce] at this
    omega
   refine Nat.eq_of_testBit_eq fun i => ?_
   rw [Nat.testBit_mod_two_pow, Nat.zero_testBit]
   by_cases hi : i < 8 - min 8 (n - 8 * b)
   ·rw [decide_eq_true hi, Bool.true_and, Nat.testBit_eq_decide_div_mod_eq]
    have := h0 (7 - i) (by omega) (by omega)
    rw [show 7 - (7 - i) = i by omega] at this
    rw [this]; rfl
   ·rw [decide_eq_false hi, Bool.false_and]
  have hmul : c / 2 ^ (8 - min 8 (n - 8 * b)) * 2 ^ (8 - min 8 (n - 8 * b)) = c := Nat.div_mul_cancel (Nat.dvd_of_mod_eq_zero hlow)
  have hpos : 0 < 2 ^ (8 - min 8 (n - 8 * b)) := Nat.pow_pos (by decide)
  have e : ((a / 2 ^ (8 - min 8 (n - 8 * b)) * 2 ^ (8 - min 8 (n - 8 * b)) : Nat) : Int) = (c : Int) ↔ a / 2 ^ (8 - min 8 (n - 8 * b)) = c / 2 ^ (8 - min 8 (n - 8 * b)) := by
   constructor
   ·intro h
    have h' : a / 2 ^ (8 - min 8 (n - 8 * b)) * 2 ^ (8 - min 8 (n - 8 * b)) = c / 2 ^ (8 - min 8 (n - 8 * b)) * 2 ^ (8 - min 8 (n - 8 * b)) := by rw [hmul]; exact Int.ofNat.inj h
    exact Nat.eq_of_mul_eq_mul_right hpos h'
   ·intro h
    rw [h, hmul]
  rw [e, div_bits ha hc hk]
  constructor
  ·intro h j hj
   rw [bitS_nat (by omega) hce, bitS_nat (by omega) hae, h j hj]
  ·intro h j hj
   have := h j hj
   rw [bitS_nat (by omega) hce, bitS_nat (by omega) hae] at this
   exact (Int.ofNat.inj this).symm
 constructor
 ·intro h i hi
  have := (key (i / 8) (by omega)).1 (h _ (by omega)) (i % 8) (by omega)
  rwa [show 8 * (i / 8) + i % 8 = i by omega] at this
 ·intro h b hb
  exact (key b hb).2 fun j hj => h _ (by omega)
theorem match_iff {p : IPV} {n : NetV} {b : Nat} (hnb : n.b = b) (hp : Bts p.bytes) (hq : Bts n.p.bytes) (hn : b ≤ 128) (hz : ∀ i : Nat, b ≤ i → i < 128 → bitS n.p i ≠ 1) :
  matchS p n = true ↔ n.p.v = p.v ∧ ∀ i : Nat, i < b → bitS n.p i = bitS p i := by
 unfold matchS
 rw [Bool.and_eq_true, decide_eq_true_eq, hnb, net_bits hp hq hn hz]
theorem valid_iff {p : IPV} : 0 < sizeS p ↔ p.v = 6 ∨ (p.v = 4 ∧ ∀ i, 4 ≤ i → i < 16 → p.bytes.getD i 0 = 0) := by
 by_cases h6 : p.v = 6
 ·unfold sizeS; rw [if_pos h6]; simp [h6]
 by_cases h4 : p.v = 4
 ·have key : (∀ i, 4 ≤ i → i < 16 → p.bytes.getD i 0 = 0) ↔ (p.a4 = 0 ∧ p.a5 = 0 ∧ p.a6 = 0 ∧ p.a7 = 0 ∧ p.a8 = 0 ∧ p.a9 = 0 ∧ p.a10 = 0 ∧ p.a11 = 0 ∧ p.a12 = 0 ∧ p.a13 = 0 ∧ p.a14 = 0 ∧ p.a15 = 0) := by
   constructor
   ·intro h
    exact ⟨h 4 (by decide) (by decide), h 5 (by decide) (by decide), h 6 (by decide) (by decide), h 7 (by decide) (by decide), h 8 (by decide) (by decide), h 9 (by decide) (by decide), h 10 (by decide) (by decide), h 11 (by decide) (by decide), h 12 (by decide) (by decide), h 13 (by decide) (by decide), h 14 (by decide) (by decide), h 15 (by decide) (by decide)⟩
   ·rintro ⟨h4, h5, h6, h7, h8, h9, h10, h11, h12, h13, h14, h15⟩ i hi hi'
    match i, hi, hi' with
    | 4, _, _ => exact h4
    | 5, _, _ => exact h5
    | 6, _, _ => exact h6
    | 7, _, _ => exact h7
    | 8, _, _ => exact h8
    | 9, _, _ => exact h9
    | 10, _, _ => exact h10
    | 11, _, _ => exact h11
    | 12, _, _ => exact h12
    | 13, _, _ => exact h13
    | 14, _, _ => exact h14
    | 15, _, _ => exact h15
    | n + 16, _, h => exact absurd h (by omega)
  unfold sizeS
  rw [if_neg h6, if_neg (by simpa using h4), key]
  split
  next h => simp only [Bool.and_eq_true, decide_eq_true_eq, and_true] at h; simp [h4, h]
  next h =>
   simp only [Bool.and_eq_true, decide_eq_true_eq, and_true] at h
   constructor
   ·intro h'; exact absurd h' (by decide)
   ·rintro (h' | ⟨_, h'⟩)
    ·omega
    ·exact absurd h' h
 ·unfold sizeS; rw [if_neg h6, if_pos h4]; simp [h4, h6]
theorem classP_chain {p : IPV} (hs : 0 < sizeS p) : classP p =
  bif matchS p ⟨⟨4, 0, 0, 0, 0, 0, 0, 0, 0, 0, 0, 0, 0, 0, 0, 0, 0⟩, 32, 1⟩ || matchS p ⟨noneIP, 128, 1⟩ then 1 else
  bif matchS p ⟨⟨4, 127, 0, 0, 0, 0, 0, 0, 0, 0, 0, 0, 0, 0, 0, 0, 0⟩, 8, 2⟩ || matchS p ⟨tailIP 1, 128, 2⟩ then 2 else
  bif matchS p ⟨⟨4, 224, 0, 0, 0, 0, 0, 0, 0, 0, 0, 0, 0, 0, 0, 0, 0⟩, 4, 3⟩ || matchS p ⟨headIP 65280, 8, 3⟩ then 3 else
  bif matchS p ⟨⟨4, 169, 254, 0, 0, 0, 0, 0, 0, 0, 0, 0, 0, 0, 0, 0, 0⟩, 16, 4⟩ || matchS p ⟨headIP 65152, 10, 4⟩ then 4 else
  bif matchS p ⟨⟨4, 255, 255, 255, 255, 0, 0, 0, 0, 0, 0, 0, 0, 0, 0, 0, 0⟩, 32, 5⟩ then 5 else
  bif matchS p ⟨⟨4, 0, 0, 0, 0, 0, 0, 0, 0, 0, 0, 0, 0, 0, 0, 0, 0⟩, 8, 6⟩ || (matchS p ⟨⟨4, 240, 0, 0, 0, 0, 0, 0, 0, 0, 0, 0, 0, 0, 0, 0, 0⟩, 4, 6⟩ || matchS p ⟨noneIP, 8, 6⟩) then 6 else 7 := by
 have e1 : (⟨6, 0, 0, 0, 0, 0, 0, 0, 0, 0, 0, 0, 0, 0, 0, 0, 0⟩ : IPV) = noneIP := rfl
 have e2 : (⟨6, 0, 0, 0, 0, 0, 0, 0, 0, 0, 0, 0, 0, 0, 0, 0, 1⟩ : IPV) = tailIP 1 := rfl
 have e3 : (⟨6, 255, 0, 0, 0, 0, 0, 0, 0, 0, 0, 0, 0, 0, 0, 0, 0⟩ : IPV) = headIP 65280 := rfl
 have e4 : (⟨6, 254, 128, 0, 0, 0, 0, 0, 0, 0, 0, 0, 0, 0, 0, 0, 0⟩ : IPV) = headIP 65152 := rfl
 unfold classP netsV
 rw [if_pos hs, e1, e2, e3, e4]
 simp only [List.find?_cons]
 generalize h0 : matchS p ⟨⟨4, 0, 0, 0, 0, 0, 0, 0, 0, 0, 0, 0, 0, 0, 0, 0, 0⟩, 32, 1⟩ = m0
 generalize h1 : matchS p ⟨noneIP, 128, 1⟩ = m1
 generalize h2 : matchS p ⟨⟨4, 127, 0, 0, 0, 0, 0, 0, 0, 0, 0, 0, 0, 0, 0, 0, 0⟩, 8, 2⟩ = m2
 generalize h3 : matchS p ⟨tailIP 1, 128, 2⟩ = m3
 generalize h4 : matchS p ⟨⟨4, 224, 0, 0, 0, 0, 0, 0, 0, 0, 0, 0, 0, 0, 0, 0, 0⟩, 4, 3⟩ = m4
 generalize h5 : matchS p ⟨headIP 65280, 8, 3⟩ = m5
 generalize h6 : matchS p ⟨⟨4, 169, 254, 0, 0, 0, 0, 0, 0, 0, 0, 0, 0, 0, 0, 0, 0⟩, 16, 4⟩ = m6
 generalize h7 : matchS p ⟨headIP 65152, 10, 4⟩ = m7
 generalize h8 : matchS p ⟨⟨4, 255, 255, 255, 255, 0, 0, 0, 0, 0, 0, 0, 0, 0, 0, 0, 0⟩, 32, 5⟩ = m8
 generalize h9 : matchS p ⟨⟨4, 0, 0, 0, 0, 0, 0, 0, 0, 0, 0, 0, 0, 0, 0, 0, 0⟩, 8, 6⟩ = m9
 generalize h10 : matchS p ⟨⟨4, 240, 0, 0, 0, 0, 0, 0, 0, 0, 0, 0, 0, 0, 0, 0, 0⟩, 4, 6⟩ = m10
 generalize h11 : matchS p ⟨noneIP, 8, 6⟩ = m11
 clear h0 h1 h2 h3 h4 h5 h6 h7 h8 h9 h10 h11
 cases m0
 rotate_left
 ·rfl
 cases m1
 rotate_left
 ·rfl
 cases m2
 rotate_left
 ·rfl
 cases m3
 rotate_left
 ·rfl
 cases m4
 rotate_left
 ·rfl
 cases m5
 rotate_left
 ·rfl
 cases m6
 rotate_left
 ·rfl
 cases m7
 rotate_left
 ·rfl
 cases m8
 rotate_left
 ·rfl
 cases m9
 rotate_left
 ·rfl
 cases m10
 rotate_left
 ·rfl
 cases m11 <;> rfl
end Go.Eng
/- Layer 4 (the document's), exactly: dotted texts by value; whether an address may be; prefixes; which addresses lie in a net. -/
namespace Go.Eng
open Go Go.RowKit
theorem decS_le {s : ByteArray} {p k : Nat} {most : Int} (h : 0 ≤ most) : decS s p k most ≤ most := by
 unfold decS
 split
 ·omega
 ·split <;> omega
structure Dots (s : ByteArray) (p k : Nat → Nat) (v : Nat → Int) : Prop where
 first : p 0 = 0
 num : ∀ i, i < 4 → 0 < k i ∧ (∀ j, j < k i → isDigit (ch s (p i + j))) ∧ p i + k i ≤ s.size ∧ decS s (p i) (k i) 255 = v i ∧ 0 ≤ v i
 dot : ∀ i, i < 3 → p i + k i < s.size ∧ ch s (p i + k i) = 46 ∧ p (i + 1) = p i + k i + 1
 last : p 3 + k 3 = s.size
def v4 (a b c d : Int) : IPV := ⟨4, a, b, c, d, 0, 0, 0, 0, 0, 0, 0, 0, 0, 0, 0, 0⟩
def widN (P : IPV) : Nat := if P.v = 4 then 32 else 128
theorem v4_valid (a b c d : Int) : 0 < sizeS (v4 a b c d) := valid_iff.2 (.inr ⟨rfl, fun i h1 h2 => by
 match i, h1, h2 with
 | 4, _, _ => rfl
 | 5, _, _ => rfl
 | 6, _, _ => rfl
 | 7, _, _ => rfl
 | 8, _, _ => rfl
 | 9, _, _ => rfl
 | 10, _, _ => rfl
 | 11, _, _ => rfl
 | 12, _, _ => rfl
 | 13, _, _ => rfl
 | 14, _, _ => rfl
 | 15, _, _ => rfl
 | n + 16, _, h => exact absurd h (by omega)⟩)
end Go.Eng
namespace Go.Proofs.YtjngdcilnipjcaaGreatDoor
namespace Nd
open Go.Eng Go.RowKit
section
variable {w : World} {s : ByteArray} {P ip : IPV} {p k : Nat → Nat} {v : Nat → Int}
theorem dottedX_spec (hz : s.size ≤ 1000) (hd : Dots s p k v) : Calls Tryz.prog 131 #[.string s, .int .i64 0] w fun e w' => Ext w w' ∧ ∃ A c, e = .returned (.tuple #[.slice A 4 c, .int .i64 0, .int .i64 0]) ∧
  Cells w' A ([v 0, v 1, v 2, v 3].map (.int .u8)) := by
 refine weirref4_dotted_of s 0 w _ ?_
 unfold weirref4_dotted_VC
 refine LoopVC.of (fun st w' => Ext w w' ∧ st.2.2.1 ≤ 4 ∧ st.1 = (if st.2.2.1 < 4 then ((p st.2.2.1 : Nat) : Int) else (s.size : Int)) ∧ w'.ownsRow w.heap.size 5 1 (.slice st.2.1 st.2.2.1 st.2.2.2) st.2.2.1 (((List.range st.2.2.1).map v).map (.int .u8)))
  (fun st _ => (4 - (st.2.2.1 : Int)).toNat) ?_ ?_
 ·exact ⟨Mod.refl _ _, Nat.zero_le _, by show (0 : Int) = if 0 < 4 then _ else _; rw [if_pos (by decide), hd.first]; rfl, World.ownsRow_nil _ _ _ _⟩
 rintro ⟨q0, lA, ln, lc⟩ w1 ⟨hE1, hn4, hp, hown⟩
 simp only at hn4 hp hown
 show weirref4_dotted_L28 _ s q0 lA ln lc w1 _
 unfold weirref4_dotted_L28
 refine Br.dec (fun hlt => ?_) fun hge => ?_
 rotate_left
 ·have : ln = 4 := by omega
  subst this
  rw [if_neg (by decide)] at hp
  exact Br.no (by omega) ⟨hE1, lA, lc, rfl, own_cells hown⟩
 have hlt4 : ln < 4 := by omega
 rw [if_pos hlt4] at hp
 subst hp
 obtain ⟨hk0, hdig, hks, hval, hv0⟩ := hd.num ln hlt4
 have hstop : p ln + k ln < s.size → ¬ isDigit (ch s (p ln + k ln)) := fun h => by
  rcases Nat.lt_or_ge ln 3 with h3 | h3
  ·rw [(hd.dot ln h3).2.1]; decide
  ·have : ln = 3 := by omega
   subst this
   have := hd.last
   omega
 refine JoinVC.of (fun q w' => w1 = w' ∧ q = ((p ln + k ln : Nat) : Int)) ?_ ?_
 ·refine LoopVC.of (fun q w' => w1 = w' ∧ ∃ j : Nat, q = ((p ln + j : Nat) : Int) ∧ j ≤ k ln) (fun q _ => ((s.size : Int) - q).toNat) ⟨rfl, 0, rfl, Nat.zero_le _⟩ ?_
  rintro _ _ ⟨rfl, j, rfl, hj⟩
  show weirref4_dotted_L1812 _ s _ ((p ln + j : Nat) : Int) w1 _
  unfold weirref4_dotted_L1812
  refine Br.dec (fun h => StrIdxVC.of (by omega) ?_) fun h => ⟨rfl, by omega⟩
  refine (digit_spec _).mono ?_
  rintro _ _ ⟨rfl, rfl⟩
  refine ⟨_, rfl, Br.dec (fun h1 => ⟨⟨rfl, j + 1, ?_, ?_⟩, ?_⟩) fun h1 => ⟨rfl, ?_⟩⟩
  ·rw [w64 (by omega) (by omega)]; omega
  ·rcases Nat.lt_or_ge j (k ln) with h' | h'
   ·omega
   ·have : j = k ln := by omega
    subst this
    exact absurd h1 (hstop (by omega))
  ·rw [w64 (by omega) (by omega)]; omega
  ·rcases Nat.lt_or_ge j (k ln) with h' | h'
   ·exact absurd (hdig j h') h1
   ·have : j = k ln := by omega
    rw [this]
 rintro _ _ ⟨rfl, rfl⟩
 unfold weirref4_dotted_J453
 refine Br.no (by omega) ?_
 refine (decimal_spec (most := 255) hks hz hk0 hdig).mono ?_
 rintro _ _ ⟨rfl, rfl⟩
 have hle := decS_le (s := s) (p := p ln) (k := k ln) (most := 255) (by decide)
 rw [hval] at hle ⊢
 refine ⟨_, rfl, Br.no (by omega) ?_⟩
 have s1 := hE1.size
 refine AppVC.one Tryz.underlying25 tyByte rfl hown rfl (by omega) (by decide) hE1.size fun lA1 lc1 w3 hown3 hm3 _ => ?_
 have hE3 : Ext w w3 := Ext.own hE1 hown hm3
 rw [wu8 hv0 (by omega)] at hown3
 have hown3 : w3.ownsRow w.heap.size 5 1 (.slice lA1 (ln + 1) lc1) (ln + 1) (((List.range (ln + 1)).map v).map (.int .u8)) := by
  rw [List.range_succ, List.map_append, List.map_append]; exact hown3
 refine Br.dec (fun h2 => ?_) fun h2 => ?_
 ·have h3 : ln < 3 := by omega
  obtain ⟨hd1, hd2, hd3⟩ := hd.dot ln h3
  refine JoinVC.of (fun st w' => w3 = w' ∧ st = false) ?_ ?_
  ·exact Br.no (by omega) (StrIdxVC.of (by omega) ⟨rfl, decide_eq_false (by rw [hd2]; decide)⟩)
  rintro st _ ⟨rfl, rfl⟩
  unfold weirref4_dotted_J232444
  refine Br.f rfl ⟨⟨hE3, by show ln + 1 ≤ 4; omega, ?_, hown3⟩, ?_⟩
  ·show IntKind.i64.wrap _ = if ln + 1 < 4 then _ else _
   rw [if_pos (by omega), w64 (by omega) (by omega), hd3]; omega
  ·show (4 - ((ln + 1 : Nat) : Int)).toNat < (4 - (ln : Int)).toNat; omega
 ·have h3 : ln = 3 := by omega
  subst h3
  refine ⟨⟨hE3, by show 3 + 1 ≤ 4; omega, ?_, hown3⟩, ?_⟩
  ·show _ = if 3 + 1 < 4 then _ else _
   rw [if_neg (by decide), hd.last]
  ·show (4 - ((3 + 1 : Nat) : Int)).toNat < (4 - ((3 : Nat) : Int)).toNat; omega
theorem ParseIPX_four (hz : s.size ≤ 45) (hc : hasS s 58 = false) (hd : Dots s p k v) :
  Calls Tryz.prog 115 #[.string s] w fun e w' => Ext w w' ∧ e = .returned (.tuple #[(v4 (v 0) (v 1) (v 2) (v 3)).val, .int .i64 0, .int .i64 0]) := by
 refine weirref4_ParseIP_of s w _ ?_
 unfold weirref4_ParseIP_VC
 refine NewVC.blk fun g1 w1 hg1 hz1 hE1 hb1 => Br.no (by omega) ?_
 refine (has_spec s 58 (by omega)).mono ?_
 rintro _ _ ⟨rfl, rfl⟩
 refine ⟨_, rfl, Br.f hc ?_⟩
 refine (dottedX_spec (by omega) hd).mono ?_
 rintro _ w2 ⟨hE2, A, c, rfl, hcell⟩
 have s2 := hE2.size
 refine ⟨_, _, _, _, _, rfl, Br.no (by decide) ?_⟩
 generalize v 0 = b0 at hcell ⊢
 generalize v 1 = b1 at hcell ⊢
 generalize v 2 = b2 at hcell ⊢
 generalize v 3 = b3 at hcell ⊢
 refine NewVC.blk fun g3 w3 hg3 hz3 hE3 hb3 => ?_
 refine setAll (IPV.cells ⟨4, 0, 0, 0, 0, 0, 0, 0, 0, 0, 0, 0, 0, 0, 0, 0, 0⟩) 0 w3 _ _ hb3 rfl fun w4 hz4 hm4 hb4 => ?_
 have hE4 : Ext w2 w4 := (hE3.set hm4 (by omega))
 have hb14 : Blk w4 g1 _ _ := (hb1.ext hE2).ext hE4
 let q : Nat → IPV := fun i => ⟨4, if 0 < i then b0 else 0, if 1 < i then b1 else 0, if 2 < i then b2 else 0, if 3 < i then b3 else 0, 0, 0, 0, 0, 0, 0, 0, 0, 0, 0, 0, 0⟩
 refine LoopVC.of (fun st w' => Mod (fun k => k = g3) w4 w' ∧ ∃ i : Nat, st = (i : Int) ∧ i ≤ 4 ∧ Blk w' g3 24 (q i).cells) (fun st _ => ((4 : Int) - st).toNat) ⟨Mod.refl _ _, 0, rfl, by decide, hb4⟩ ?_
 rintro _ w5 ⟨hm5, i, rfl, hi, hb5⟩
 show weirref4_ParseIP_L1018 _ g1 A 4 g3 (i : Int) w5 _
 unfold weirref4_ParseIP_L1018
 have hcell4 := (hcell.ext hE4)
 have hcell5 : Cells w5 A ([b0, b1, b2, b3].map (.int .u8)) := hcell4.mod hm5 fun a ha _ => by
  have := hcell.lt (by simp) ha
  show ¬ a.block = g3
  omega
 refine Br.dec (fun hlt => ?_) fun hge => ?_
 ·refine IdxVC.int hcell5 (by omega) (by omega) rfl fun a ha => ⟨_, ha, ?_⟩
  refine ⟨_, rfl, by omega, by omega, ?_⟩
  rw [addr_add]
  refine SetVC.blk hb5 (by simp [IPV.cells]; omega) fun w6 hz6 hm6 hb6 => ⟨⟨hm5.trans hm6, i + 1, ?_, by omega, ?_⟩, ?_⟩
  ·rw [w64 (by omega) (by omega)]; omega
  ·have hlt : i < 4 := by omega
   match i, hlt with
   | 0, _ => exact hb6
   | 1, _ => exact hb6
   | 2, _ => exact hb6
   | 3, _ => exact hb6
  ·rw [w64 (by omega) (by omega)]; omega
 ·have : i = 4 := by omega
  subst this
  refine ⟨_, _, _, _, _, _, _, _, _, _, _, _, _, _, _, _, _, CellsAt.blk hb5, ?_⟩
  refine setAll (q 4).cells 0 w5 _ _ (hb14.mod hm5 (by show ¬ g1 = g3; omega)) rfl fun w6 hz6 hm6 hb6 => ?_
  exact ⟨_, _, _, _, _, _, _, _, _, _, _, _, _, _, _, _, _, CellsAt.blk hb6, (((hE1.ext hE2).ext hE4).set hm5 (by omega)).set hm6 (by omega), rfl⟩
theorem refValidX : Calls Tryz.prog 65 #[P.val] w fun e w' => Ext w w' ∧ e = .returned (.bool (decide (0 < sizeS P))) := by
 refine weirref4_Valid_of P.v P.a0 P.a1 P.a2 P.a3 P.a4 P.a5 P.a6 P.a7 P.a8 P.a9 P.a10 P.a11 P.a12 P.a13 P.a14 P.a15 w _ ?_
 unfold weirref4_Valid_VC
 refine NewVC.blk fun g1 w1 hg1 hz1 hE1 hb1 => ⟨_, hb1.cell 0, Br.dec (fun h => ⟨_, hb1.cell 0, hE1, ?_⟩) fun h => ?_⟩
 ·by_cases h6 : P.v = 6
  ·rw [decide_eq_true h6, decide_eq_true (valid_iff.2 (.inl h6))]
  ·rw [decide_eq_false h6, decide_eq_false (fun x => by rcases valid_iff.1 x with h' | ⟨h', _⟩ <;> omega)]
 have hv4 : P.v = 4 := Classical.byContradiction h
 have hc : Cells w1 (some ⟨g1, 1, none⟩) (P.bytes.map (.int .u8)) := Cells.of_blk hb1 1
 refine LoopVC.of (fun st w' => w1 = w' ∧ ∃ i : Nat, st = (i : Int) ∧ 4 ≤ i ∧ i ≤ 16 ∧ ∀ j, 4 ≤ j → j < i → P.bytes.getD j 0 = 0) (fun st _ => ((16 : Int) - st).toNat) ⟨rfl, 4, rfl, by decide, by decide, fun _ _ _ => by omega⟩ ?_
 rintro _ _ ⟨rfl, i, rfl, hi4, hi, hsm⟩
 show weirref4_Valid_L58 _ g1 (i : Int) w1 _
 unfold weirref4_Valid_L58
 refine Br.dec (fun hlt => IdxVC.int hc (by omega) (by omega) rfl fun a ha => ⟨_, ha, Br.dec (fun hne => ⟨hE1, ?_⟩) fun heq => ⟨⟨rfl, i + 1, ?_, by omega, by omega, fun j h1 h2 => ?_⟩, ?_⟩⟩) fun _ => ⟨hE1, ?_⟩
 ·rw [decide_eq_false]
  intro h'
  rcases valid_iff.1 h' with h'' | ⟨_, h''⟩
  ·omega
  ·exact hne (h'' i hi4 (by omega))
 ·rw [w64 (by omega) (by omega)]; omega
 ·rcases Nat.lt_or_ge j i with h' | h'
  ·exact hsm j h1 h'
  ·have : j = i := by omega
   subst this
   exact Classical.byContradiction heq
 ·rw [w64 (by omega) (by omega)]; omega
 ·rw [decide_eq_true (valid_iff.2 (.inr ⟨hv4, fun j h1 h2 => hsm j h1 (by omega)⟩))]
theorem widN_eq : (if P.v = 4 then (32 : Int) else 128) = ((widN P : Nat) : Int) := by unfold widN; split <;> rfl
theorem ValidPrefixX {L : Nat} (hB : Bts P.bytes) (hv : 0 < sizeS P) (hL : L ≤ widN P) (hz : ∀ i : Nat, L ≤ i → i < 128 → bitS P i ≠ 1) : Calls Tryz.prog 120 #[preV P (L : Int)] w fun e w' => Ext w w' ∧ e = .returned (.int .i64 0) := by
 refine weirref4_ValidPrefix_of P.v P.a0 P.a1 P.a2 P.a3 P.a4 P.a5 P.a6 P.a7 P.a8 P.a9 P.a10 P.a11 P.a12 P.a13 P.a14 P.a15 (L : Int) w _ ?_
 unfold weirref4_ValidPrefix_VC
 refine NewVC.blk fun g1 w1 hg1 hz1 hE1 hb1 => ?_
 have hb1 : Blk w1 g1 _ (preC P (L : Int)) := hb1
 refine ⟨_, _, _, _, _, _, _, _, _, _, _, _, _, _, _, _, _, CellsAt.part hb1 0 (ds := P.cells) (es := [.int .i64 (L : Int)]) rfl, ?_⟩
 refine (refValidX (P := P)).mono ?_
 rintro _ w2 ⟨hE2, rfl⟩
 have hE := hE1.ext hE2
 refine ⟨_, rfl, Br.f (by rw [decide_eq_true hv]; rfl) ?_⟩
 refine ⟨_, _, _, _, _, _, _, _, _, _, _, _, _, _, _, _, _, CellsAt.part (hb1.ext hE2) 0 (ds := P.cells) (es := [.int .i64 (L : Int)]) rfl, ?_⟩
 refine (width_spec (P := P)).mono ?_
 rintro _ w3 ⟨hE3, rfl⟩
 have hE' := hE.ext hE3
 have hb3 := (hb1.ext hE2).ext hE3
 have hW : widN P ≤ 128 := by unfold widN; split <;> decide
 rw [widN_eq]
 refine ⟨_, rfl, _, hb3.cell 17, Br.no (by omega) ⟨_, hb3.cell 17, Br.no (by omega) ⟨_, hb3.cell 17, ?_⟩⟩⟩
 refine LoopVC.of (fun st w' => Ext w3 w' ∧ ∃ i : Nat, st = (i : Int) ∧ L ≤ i ∧ i ≤ widN P) (fun st _ => ((widN P : Int) - st).toNat) ⟨Mod.refl _ _, L, rfl, by omega, by omega⟩ ?_
 rintro _ w4 ⟨hE4, i, rfl, h2, h3⟩
 show weirref4_ValidPrefix_L506 _ g1 ((widN P : Nat) : Int) (i : Int) w4 _
 unfold weirref4_ValidPrefix_L506
 refine Br.dec (fun hlt => ?_) fun _ => ⟨hE'.ext hE4, rfl⟩
 refine ⟨_, _, _, _, _, _, _, _, _, _, _, _, _, _, _, _, _, CellsAt.part (hb3.ext hE4) 0 (ds := P.cells) (es := [.int .i64 (L : Int)]) rfl, ?_⟩
 refine (bit_spec (i := i) (by omega) hB).mono ?_
 rintro _ w5 ⟨hE5, rfl⟩
 refine ⟨_, rfl, Br.no (hz i h2 (by omega)) ⟨⟨hE4.ext hE5, i + 1, ?_, by omega, by omega⟩, ?_⟩⟩
 ·rw [w64 (by omega) (by omega)]; omega
 ·rw [w64 (by omega) (by omega)]; omega
theorem ContainsX {L : Nat} (hB : Bts P.bytes) (hI : Bts ip.bytes) (hv : 0 < sizeS P) (hL : L ≤ widN P) (hz : ∀ i : Nat, L ≤ i → i < 128 → bitS P i ≠ 1) : Calls Tryz.prog 94 #[preV P (L : Int), ip.val] w fun e w' => Ext w w' ∧
  ∃ b, (b = true ↔ 0 < sizeS ip ∧ P.v = ip.v ∧ ∀ i : Nat, i < L → bitS P i = bitS ip i) ∧ e = .returned (.bool b) := by
 refine weirref4_Contains_of P.v P.a0 P.a1 P.a2 P.a3 P.a4 P.a5 P.a6 P.a7 P.a8 P.a9 P.a10 P.a11 P.a12 P.a13 P.a14 P.a15 (L : Int) ip.v ip.a0 ip.a1 ip.a2 ip.a3 ip.a4 ip.a5 ip.a6 ip.a7 ip.a8 ip.a9 ip.a10 ip.a11 ip.a12 ip.a13 ip.a14 ip.a15 w _ ?_
 unfold weirref4_Contains_VC
 refine NewVC.blk fun g1 w1 hg1 hz1 hE1 hb1 => NewVC.blk fun g2 w2 hg2 hz2 hE2 hb2 => ?_
 have hb1 : Blk w2 g1 _ (preC P (L : Int)) := hb1.ext hE2
 have hb2 : Blk w2 g2 _ ip.cells := hb2
 have hE := hE1.ext hE2
 refine ⟨_, _, _, _, _, _, _, _, _, _, _, _, _, _, _, _, _, _, CellsAt.blk hb1, ?_⟩
 refine (ValidPrefixX hB hv hL hz).mono ?_
 rintro _ w3 ⟨hE3, rfl⟩
 refine ⟨_, rfl, _, _, _, _, _, _, _, _, _, _, _, _, _, _, _, _, _, CellsAt.blk (hb2.ext hE3), ?_⟩
 refine (refValidX (P := ip)).mono ?_
 rintro _ w4 ⟨hE4, rfl⟩
 have hE4' := hE3.ext hE4
 have hE' := hE.ext hE4'
 have hW : widN P ≤ 128 := by unfold widN; split <;> decide
 refine ⟨_, rfl, Br.no (by decide) ?_⟩
 by_cases hvi : 0 < sizeS ip
 case neg => exact Br.t (by rw [decide_eq_false hvi]; rfl) ⟨hE', false, ⟨fun h => (by cases h), fun h => absurd h.1 hvi⟩, rfl⟩
 refine Br.f (by rw [decide_eq_true hvi]; rfl) ⟨_, (hb1.ext hE4').cell 0, _, (hb2.ext hE4').cell 0, Br.dec (fun hne => ⟨hE', false, ⟨fun h => (by cases h), fun h => absurd h.2.1 hne⟩, rfl⟩) fun hv' => ?_⟩
 have hve : P.v = ip.v := Classical.byContradiction hv'
 refine LoopVC.of (fun st w' => Ext w4 w' ∧ ∃ i : Nat, st = (i : Int) ∧ i ≤ L ∧ ∀ j, j < i → bitS P j = bitS ip j) (fun st _ => ((L : Int) - st).toNat) ⟨Mod.refl _ _, 0, rfl, by omega, fun _ h => absurd h (by omega)⟩ ?_
 rintro _ w5 ⟨hE5, i, rfl, hi, hsame⟩
 show weirref4_Contains_L250 _ g1 g2 (i : Int) w5 _
 unfold weirref4_Contains_L250
 have hb15 := (hb1.ext hE4').ext hE5
 have hb25 := (hb2.ext hE4').ext hE5
 refine ⟨_, hb15.cell 17, Br.dec (fun hlt => ?_) fun hge => ⟨hE'.ext hE5, true, ⟨fun _ => ⟨hvi, hve, fun j hj => hsame j (by omega)⟩, fun _ => rfl⟩, rfl⟩⟩
 refine DrawVC.of (fun w' => Ext w5 w') fun w6 hE6 _ => ⟨hE6, ?_⟩
 refine ⟨_, _, _, _, _, _, _, _, _, _, _, _, _, _, _, _, _, fun w' h => CellsAt.part (hb15.ext h) 0 (ds := P.cells) (es := [.int .i64 (L : Int)]) rfl, _, _, _, _, _, _, _, _, _, _, _, _, _, _, _, _, _, fun w' h => CellsAt.blk (hb25.ext h), ?_⟩
 refine (bit_spec (i := i) (by omega) hB).mono ?_
 rintro _ w7 ⟨hE7, rfl⟩
 refine ⟨_, rfl, hE6.ext hE7, ?_⟩
 refine (bit_spec (P := ip) (i := i) (by omega) hI).mono ?_
 rintro _ w8 ⟨hE8, rfl⟩
 have hE8' := (hE6.ext hE7).ext hE8
 refine ⟨_, rfl, hE8', Br.dec (fun hne => ⟨(hE'.ext hE5).ext hE8', false, ⟨fun h => (by cases h), fun h => absurd (h.2.2 i (by omega)) hne⟩, rfl⟩) fun heq => ⟨⟨hE5.ext hE8', i + 1, ?_, by omega, fun j hj => ?_⟩, ?_⟩⟩
 ·rw [w64 (by omega) (by omega)]; omega
 ·rcases Nat.lt_or_ge j i with h' | h'
  ·exact hsame j h'
  ·have : j = i := by omega
   subst this
   exact Classical.byContradiction heq
 ·rw [w64 (by omega) (by omega)]; omega
set_option maxHeartbeats 1000000 in
theorem ParsePrefixX {k0 m L : Nat} (hz : s.size ≤ 49) (hk : s.size = k0 + 1 + m) (hm : 0 < m ∧ m ≤ 3) (hno : ∀ i, i < k0 → ch s i ≠ 47) (hsl : ch s k0 = 47) (hd : ∀ i, i < m → isDigit (ch s (k0 + 1 + i)))
  (hIP : ∀ w : World, Calls Tryz.prog 115 #[.string (s.extract 0 k0)] w fun e w' => Ext w w' ∧ e = .returned (.tuple #[P.val, .int .i64 0, .int .i64 0]))
  (hB : Bts P.bytes) (hv : 0 < sizeS P) (_hW : widN P = 32 ∨ widN P = 128) (hdec : decS s (k0 + 1) m (widN P) = (L : Int)) (hL : L ≤ widN P) (hzero : ∀ i : Nat, L ≤ i → i < 128 → bitS P i ≠ 1) :
  Calls Tryz.prog 93 #[.string s] w fun e w' => Ext w w' ∧ ∃ x y : Int, e = .returned (.tuple #[preV P (L : Int), .int .i64 x, .int .i64 y]) := by
 refine weirref4_ParsePrefix_of s w _ ?_
 unfold weirref4_ParsePrefix_VC
 refine NewVC.blk fun g1 w1 hg1 hz1 hE1 hb1 => Br.no (by omega) ?_
 refine JoinVC.of (fun st w' => w1 = w' ∧ st = (k0 : Int)) ?_ ?_
 ·refine LoopVC.of (fun st w' => w1 = w' ∧ ∃ i : Nat, st = (i : Int) ∧ i ≤ k0) (fun st _ => ((k0 : Int) - st).toNat) ⟨rfl, 0, rfl, by omega⟩ ?_
  rintro _ _ ⟨rfl, i, rfl, hi⟩
  show weirref4_ParsePrefix_L60 s _ (i : Int) w1 _
  unfold weirref4_ParsePrefix_L60
  refine Br.yes (by omega) (StrIdxVC.of (by omega) (Br.dec (fun h => ⟨⟨rfl, i + 1, ?_, ?_⟩, ?_⟩) fun h => ⟨rfl, ?_⟩))
  ·rw [w64 (by omega) (by omega)]; omega
  ·rcases Nat.lt_or_ge i k0 with h' | h'
   ·omega
   ·have : i = k0 := by omega
    subst this; exact absurd hsl h
  ·rw [w64 (by omega) (by omega)]
   rcases Nat.lt_or_ge i k0 with h' | h'
   ·omega
   ·have : i = k0 := by omega
    subst this; exact absurd hsl h
  ·rcases Nat.lt_or_ge i k0 with h' | h'
   ·exact absurd (hno i h') h
   ·omega
 rintro _ _ ⟨rfl, rfl⟩
 unfold weirref4_ParsePrefix_J15
 refine Br.no (by omega) ?_
 refine ⟨by omega, by omega, ?_⟩
 rw [Int.toNat_natCast]
 refine (hIP w1).mono ?_
 rintro _ w2 ⟨hE2, rfl⟩
 have s2 := hE2.size
 refine ⟨_, _, _, _, _, _, _, _, _, _, _, _, _, _, _, _, _, _, _, rfl, ?_⟩
 refine NewVC.blk fun g2 w3 hg2 hz3 hE3 hb2 => ?_
 refine setAll P.cells 0 w3 _ _ hb2 rfl fun w4 hz4 hm4 hb2 => ?_
 have hb2 : Blk w4 g2 24 P.cells := hb2
 have hE4 : Ext w1 w4 := (hE2.ext hE3).set hm4 (by omega)
 have hb1 := hb1.ext hE4
 have hE := hE1.ext hE4
 have s4 := hE4.size
 refine Br.no (A := False) (p := (0 : Int) ≠ 0) (by decide) ?_
 have e1 : IntKind.i64.wrap ((k0 : Int) + 1) = ((k0 + 1 : Nat) : Int) := by rw [w64 (by omega) (by omega)]; omega
 rw [e1]
 refine JoinVC.of (fun st w' => w4 = w' ∧ st = ((k0 + 1 + m : Nat) : Int)) ?_ ?_
 ·refine LoopVC.of (fun st w' => w4 = w' ∧ ∃ i : Nat, st = ((k0 + 1 + i : Nat) : Int) ∧ i ≤ m) (fun st _ => (((k0 + 1 + m : Nat) : Int) - st).toNat) ⟨rfl, 0, rfl, by omega⟩ ?_
  rintro _ _ ⟨rfl, i, rfl, hi⟩
  show weirref4_ParsePrefix_L2044 _ s _ ((k0 + 1 + i : Nat) : Int) w4 _
  unfold weirref4_ParsePrefix_L2044
  refine Br.dec (fun hlt => StrIdxVC.of (by omega) ?_) fun hge => ⟨rfl, by omega⟩
  refine (digit_spec _).mono ?_
  rintro _ _ ⟨rfl, rfl⟩
  refine ⟨_, rfl, Br.yes (hd i (by omega)) ⟨⟨rfl, i + 1, ?_, by omega⟩, ?_⟩⟩
  ·rw [w64 (by omega) (by omega)]; omega
  ·rw [w64 (by omega) (by omega)]; omega
 rintro _ _ ⟨rfl, rfl⟩
 unfold weirref4_ParsePrefix_J511
 rw [e1]
 refine Br.no (by omega) ?_
 refine ⟨_, _, _, _, _, _, _, _, _, _, _, _, _, _, _, _, _, CellsAt.blk hb2, ?_⟩
 refine (width_spec (P := P)).mono ?_
 rintro _ w5 ⟨hE5, rfl⟩
 rw [widN_eq]
 refine ⟨_, rfl, ?_⟩
 refine (decimal_spec (p := k0 + 1) (k := m) (by omega) (by omega) hm.1 hd).mono ?_
 rintro _ _ ⟨rfl, rfl⟩
 rw [hdec]
 have hb1 := hb1.ext hE5
 have hb2 := hb2.ext hE5
 have hE := hE.ext hE5
 have s5 := hE5.size
 refine ⟨_, rfl, Br.no (by omega) (Br.no (by omega) ?_)⟩
 refine ⟨_, _, _, _, _, _, _, _, _, _, _, _, _, _, _, _, _, CellsAt.blk hb2, ?_⟩
 refine NewVC.blk fun g3 w6 hg3 hz6 hE6 hb3 => ?_
 refine setAll (preC P (L : Int)) 0 w6 _ _ hb3 rfl fun w7 hz7 hm7 hb3 => ?_
 have hb3 : Blk w7 g3 137 (preC P (L : Int)) := hb3
 have hE7 : Ext w5 w7 := hE6.set hm7 (by omega)
 refine ⟨_, _, _, _, _, _, _, _, _, _, _, _, _, _, _, _, _, _, CellsAt.blk hb3, ?_⟩
 refine (ValidPrefixX (P := P) (L := L) hB hv hL hzero).mono ?_
 rintro _ w8 ⟨hE8, rfl⟩
 have hE := hE.ext (hE7.ext hE8)
 have hb1 := hb1.ext (hE7.ext hE8)
 refine ⟨_, rfl, Br.no (by decide) ?_⟩
 refine ⟨_, _, _, _, _, _, _, _, _, _, _, _, _, _, _, _, _, _, CellsAt.blk (hb3.ext hE8), ?_⟩
 refine setAll (preC P (L : Int)) 0 w8 _ _ hb1 rfl fun w9 hz9 hm9 hb9 => ?_
 exact ⟨_, _, _, _, _, _, _, _, _, _, _, _, _, _, _, _, _, _, CellsAt.blk hb9, hE.set hm9 (by omega), _, _, rfl⟩
theorem ofX {k0 m L : Nat} {c : Int} (hz : s.size ≤ 49) (hk : s.size = k0 + 1 + m) (hm : 0 < m ∧ m ≤ 3) (hno : ∀ i, i < k0 → ch s i ≠ 47) (hsl : ch s k0 = 47) (hd : ∀ i, i < m → isDigit (ch s (k0 + 1 + i)))
  (hIP : ∀ w : World, Calls Tryz.prog 115 #[.string (s.extract 0 k0)] w fun e w' => Ext w w' ∧ e = .returned (.tuple #[P.val, .int .i64 0, .int .i64 0]))
  (hB : Bts P.bytes) (hv : 0 < sizeS P) (hW : widN P = 32 ∨ widN P = 128) (hdec : decS s (k0 + 1) m (widN P) = (L : Int)) (hL : L ≤ widN P) (hzero : ∀ i : Nat, L ≤ i → i < 128 → bitS P i ≠ 1)
  (hI : Bts ip.bytes) (hvi : 0 < sizeS ip) :
  Calls Tryz.prog 66 #[.string s, ip.val] w fun e w' => Ext w w' ∧ e = .returned (.bool (matchS ip ⟨P, (L : Int), c⟩)) := by
 refine weirref4_of_of s ip.v ip.a0 ip.a1 ip.a2 ip.a3 ip.a4 ip.a5 ip.a6 ip.a7 ip.a8 ip.a9 ip.a10 ip.a11 ip.a12 ip.a13 ip.a14 ip.a15 w _ ?_
 unfold weirref4_of_VC
 refine NewVC.blk fun g1 w1 hg1 hz1 hE1 hb1 => ?_
 refine (ParsePrefixX hz hk hm hno hsl hd hIP hB hv hW hdec hL hzero).mono ?_
 rintro _ w2 ⟨hE2, x, y, rfl⟩
 refine ⟨_, _, _, _, _, _, _, _, _, _, _, _, _, _, _, _, _, _, _, _, rfl, ?_⟩
 have s2 := hE2.size
 refine NewVC.blk fun g2 w3 hg2 hz3 hE3 hb2 => ?_
 refine setAll (preC P (L : Int)) 0 w3 _ _ hb2 rfl fun w4 hz4 hm4 hb2 => ?_
 have hE4 : Ext w1 w4 := (hE2.ext hE3).set hm4 (by omega)
 refine ⟨_, _, _, _, _, _, _, _, _, _, _, _, _, _, _, _, _, _, CellsAt.blk hb2, _, _, _, _, _, _, _, _, _, _, _, _, _, _, _, _, _, CellsAt.blk (hb1.ext hE4), ?_⟩
 refine (ContainsX (P := P) (ip := ip) (L := L) hB hI hv hL hzero).mono ?_
 rintro _ w5 ⟨hE5, b, hb, rfl⟩
 refine ⟨_, rfl, (hE1.ext hE4).ext hE5, ?_⟩
 have hiff := match_iff (p := ip) (n := ⟨P, (L : Int), c⟩) (b := L) rfl hI hB (by omega) hzero
 have : b = matchS ip ⟨P, (L : Int), c⟩ := by
  rw [Bool.eq_iff_iff, hb, hiff]
  exact ⟨fun h => h.2, fun h => ⟨hvi, h⟩⟩
 rw [this]
end
end Nd
end Go.Proofs.YtjngdcilnipjcaaGreatDoor
/- Layer 4 (the document's): the twelve texts of the table; Class of every address. -/
namespace Go.Proofs.YtjngdcilnipjcaaGreatDoor
namespace Nd
open Go.Eng Go.RowKit
section
variable {w : World} {ip : IPV}
theorem fourX0 (hI : Bts ip.bytes) (hv : 0 < sizeS ip) : Calls Tryz.prog 66 #[.string ⟨#[48, 46, 48, 46, 48, 46, 48, 47, 51, 50]⟩, ip.val] w fun e w' => Ext w w' ∧ e = .returned (.bool (matchS ip ⟨⟨4, 0, 0, 0, 0, 0, 0, 0, 0, 0, 0, 0, 0, 0, 0, 0, 0⟩, 32, 1⟩)) :=
 ofX (k0 := 7) (m := 2) (L := 32) (c := 1) (P := (v4 0 0 0 0)) (by decide) (by decide) (by decide) (fun i h => of_decide_eq_true (below_forall 7 (fun i => decide (ch ⟨#[48, 46, 48, 46, 48, 46, 48, 47, 51, 50]⟩ i ≠ 47)) (by decide) i h)) (by decide) (fun i h => of_decide_eq_true (below_forall 2 (fun i => decide (isDigit (ch ⟨#[48, 46, 48, 46, 48, 46, 48, 47, 51, 50]⟩ (7 + 1 + i)))) (by decide) i h))
  (fun w => ParseIPX_four (p := fun i => [0, 2, 4, 6].getD i 0) (k := fun i => [1, 1, 1, 1].getD i 0) (v := fun i => [0, 0, 0, 0].getD i 0) (by decide) (by decide) ⟨rfl, by decide +kernel, by decide +kernel, by decide +kernel⟩)
  (by unfold Bts; decide) (v4_valid _ _ _ _) (.inl rfl) (by decide) (by decide) (fun i h h' => of_decide_eq_true (below_forall 128 (fun i => decide (32 ≤ i → bitS (v4 0 0 0 0) i ≠ 1)) (by decide) i h') h) hI hv
theorem fourX1 (hI : Bts ip.bytes) (hv : 0 < sizeS ip) : Calls Tryz.prog 66 #[.string ⟨#[49, 50, 55, 46, 48, 46, 48, 46, 48, 47, 56]⟩, ip.val] w fun e w' => Ext w w' ∧ e = .returned (.bool (matchS ip ⟨⟨4, 127, 0, 0, 0, 0, 0, 0, 0, 0, 0, 0, 0, 0, 0, 0, 0⟩, 8, 2⟩)) :=
 ofX (k0 := 9) (m := 1) (L := 8) (c := 2) (P := (v4 127 0 0 0)) (by decide) (by decide) (by decide) (fun i h => of_decide_eq_true (below_forall 9 (fun i => decide (ch ⟨#[49, 50, 55, 46, 48, 46, 48, 46, 48, 47, 56]⟩ i ≠ 47)) (by decide) i h)) (by decide) (fun i h => of_decide_eq_true (below_forall 1 (fun i => decide (isDigit (ch ⟨#[49, 50, 55, 46, 48, 46, 48, 46, 48, 47, 56]⟩ (9 + 1 + i)))) (by decide) i h))
  (fun w => ParseIPX_four (p := fun i => [0, 4, 6, 8].getD i 0) (k := fun i => [3, 1, 1, 1].getD i 0) (v := fun i => [127, 0, 0, 0].getD i 0) (by decide) (by decide) ⟨rfl, by decide +kernel, by decide +kernel, by decide +kernel⟩)
  (by unfold Bts; decide) (v4_valid _ _ _ _) (.inl rfl) (by decide) (by decide) (fun i h h' => of_decide_eq_true (below_forall 128 (fun i => decide (8 ≤ i → bitS (v4 127 0 0 0) i ≠ 1)) (by decide) i h') h) hI hv
theorem fourX2 (hI : Bts ip.bytes) (hv : 0 < sizeS ip) : Calls Tryz.prog 66 #[.string ⟨#[50, 50, 52, 46, 48, 46, 48, 46, 48, 47, 52]⟩, ip.val] w fun e w' => Ext w w' ∧ e = .returned (.bool (matchS ip ⟨⟨4, 224, 0, 0, 0, 0, 0, 0, 0, 0, 0, 0, 0, 0, 0, 0, 0⟩, 4, 3⟩)) :=
 ofX (k0 := 9) (m := 1) (L := 4) (c := 3) (P := (v4 224 0 0 0)) (by decide) (by decide) (by decide) (fun i h => of_decide_eq_true (below_forall 9 (fun i => decide (ch ⟨#[50, 50, 52, 46, 48, 46, 48, 46, 48, 47, 52]⟩ i ≠ 47)) (by decide) i h)) (by decide) (fun i h => of_decide_eq_true (below_forall 1 (fun i => decide (isDigit (ch ⟨#[50, 50, 52, 46, 48, 46, 48, 46, 48, 47, 52]⟩ (9 + 1 + i)))) (by decide) i h))
  (fun w => ParseIPX_four (p := fun i => [0, 4, 6, 8].getD i 0) (k := fun i => [3, 1, 1, 1].getD i 0) (v := fun i => [224, 0, 0, 0].getD i 0) (by decide) (by decide) ⟨rfl, by decide +kernel, by decide +kernel, by decide +kernel⟩)
  (by unfold Bts; decide) (v4_valid _ _ _ _) (.inl rfl) (by decide) (by decide) (fun i h h' => of_decide_eq_true (below_forall 128 (fun i => decide (4 ≤ i → bitS (v4 224 0 0 0) i ≠ 1)) (by decide) i h') h) hI hv
theorem fourX3 (hI : Bts ip.bytes) (hv : 0 < sizeS ip) : Calls Tryz.prog 66 #[.string ⟨#[49, 54, 57, 46, 50, 53, 52, 46, 48, 46, 48, 47, 49, 54]⟩, ip.val] w fun e w' => Ext w w' ∧ e = .returned (.bool (matchS ip ⟨⟨4, 169, 254, 0, 0, 0, 0, 0, 0, 0, 0, 0, 0, 0, 0, 0, 0⟩, 16, 4⟩)) :=
 ofX (k0 := 11) (m := 2) (L := 16) (c := 4) (P := (v4 169 254 0 0)) (by decide) (by decide) (by decide) (fun i h => of_decide_eq_true (below_forall 11 (fun i => decide (ch ⟨#[49, 54, 57, 46, 50, 53, 52, 46, 48, 46, 48, 47, 49, 54]⟩ i ≠ 47)) (by decide) i h)) (by decide) (fun i h => of_decide_eq_true (below_forall 2 (fun i => decide (isDigit (ch ⟨#[49, 54, 57, 46, 50, 53, 52, 46, 48, 46, 48, 47, 49, 54]⟩ (11 + 1 + i)))) (by decide) i h))
  (fun w => ParseIPX_four (p := fun i => [0, 4, 8, 10].getD i 0) (k := fun i => [3, 3, 1, 1].getD i 0) (v := fun i => [169, 254, 0, 0].getD i 0) (by decide) (by decide) ⟨rfl, by decide +kernel, by decide +kernel, by decide +kernel⟩)
  (by unfold Bts; decide) (v4_valid _ _ _ _) (.inl rfl) (by decide) (by decide) (fun i h h' => of_decide_eq_true (below_forall 128 (fun i => decide (16 ≤ i → bitS (v4 169 254 0 0) i ≠ 1)) (by decide) i h') h) hI hv
theorem fourX4 (hI : Bts ip.bytes) (hv : 0 < sizeS ip) : Calls Tryz.prog 66 #[.string ⟨#[50, 53, 53, 46, 50, 53, 53, 46, 50, 53, 53, 46, 50, 53, 53, 47, 51, 50]⟩, ip.val] w fun e w' => Ext w w' ∧ e = .returned (.bool (matchS ip ⟨⟨4, 255, 255, 255, 255, 0, 0, 0, 0, 0, 0, 0, 0, 0, 0, 0, 0⟩, 32, 5⟩)) :=
 ofX (k0 := 15) (m := 2) (L := 32) (c := 5) (P := (v4 255 255 255 255)) (by decide) (by decide) (by decide) (fun i h => of_decide_eq_true (below_forall 15 (fun i => decide (ch ⟨#[50, 53, 53, 46, 50, 53, 53, 46, 50, 53, 53, 46, 50, 53, 53, 47, 51, 50]⟩ i ≠ 47)) (by decide) i h)) (by decide) (fun i h => of_decide_eq_true (below_forall 2 (fun i => decide (isDigit (ch ⟨#[50, 53, 53, 46, 50, 53, 53, 46, 50, 53, 53, 46, 50, 53, 53, 47, 51, 50]⟩ (15 + 1 + i)))) (by decide) i h))
  (fun w => ParseIPX_four (p := fun i => [0, 4, 8, 12].getD i 0) (k := fun i => [3, 3, 3, 3].getD i 0) (v := fun i => [255, 255, 255, 255].getD i 0) (by decide) (by decide) ⟨rfl, by decide +kernel, by decide +kernel, by decide +kernel⟩)
  (by unfold Bts; decide) (v4_valid _ _ _ _) (.inl rfl) (by decide) (by decide) (fun i h h' => of_decide_eq_true (below_forall 128 (fun i => decide (32 ≤ i → bitS (v4 255 255 255 255) i ≠ 1)) (by decide) i h') h) hI hv
theorem fourX5 (hI : Bts ip.bytes) (hv : 0 < sizeS ip) : Calls Tryz.prog 66 #[.string ⟨#[48, 46, 48, 46, 48, 46, 48, 47, 56]⟩, ip.val] w fun e w' => Ext w w' ∧ e = .returned (.bool (matchS ip ⟨⟨4, 0, 0, 0, 0, 0, 0, 0, 0, 0, 0, 0, 0, 0, 0, 0, 0⟩, 8, 6⟩)) :=
 ofX (k0 := 7) (m := 1) (L := 8) (c := 6) (P := (v4 0 0 0 0)) (by decide) (by decide) (by decide) (fun i h => of_decide_eq_true (below_forall 7 (fun i => decide (ch ⟨#[48, 46, 48, 46, 48, 46, 48, 47, 56]⟩ i ≠ 47)) (by decide) i h)) (by decide) (fun i h => of_decide_eq_true (below_forall 1 (fun i => decide (isDigit (ch ⟨#[48, 46, 48, 46, 48, 46, 48, 47, 56]⟩ (7 + 1 + i)))) (by decide) i h))
  (fun w => ParseIPX_four (p := fun i => [0, 2, 4, 6].getD i 0) (k := fun i => [1, 1, 1, 1].getD i 0) (v := fun i => [0, 0, 0, 0].getD i 0) (by decide) (by decide) ⟨rfl, by decide +kernel, by decide +kernel, by decide +kernel⟩)
  (by unfold Bts; decide) (v4_valid _ _ _ _) (.inl rfl) (by decide) (by decide) (fun i h h' => of_decide_eq_true (below_forall 128 (fun i => decide (8 ≤ i → bitS (v4 0 0 0 0) i ≠ 1)) (by decide) i h') h) hI hv
theorem fourX6 (hI : Bts ip.bytes) (hv : 0 < sizeS ip) : Calls Tryz.prog 66 #[.string ⟨#[50, 52, 48, 46, 48, 46, 48, 46, 48, 47, 52]⟩, ip.val] w fun e w' => Ext w w' ∧ e = .returned (.bool (matchS ip ⟨⟨4, 240, 0, 0, 0, 0, 0, 0, 0, 0, 0, 0, 0, 0, 0, 0, 0⟩, 4, 6⟩)) :=
 ofX (k0 := 9) (m := 1) (L := 4) (c := 6) (P := (v4 240 0 0 0)) (by decide) (by decide) (by decide) (fun i h => of_decide_eq_true (below_forall 9 (fun i => decide (ch ⟨#[50, 52, 48, 46, 48, 46, 48, 46, 48, 47, 52]⟩ i ≠ 47)) (by decide) i h)) (by decide) (fun i h => of_decide_eq_true (below_forall 1 (fun i => decide (isDigit (ch ⟨#[50, 52, 48, 46, 48, 46, 48, 46, 48, 47, 52]⟩ (9 + 1 + i)))) (by decide) i h))
  (fun w => ParseIPX_four (p := fun i => [0, 4, 6, 8].getD i 0) (k := fun i => [3, 1, 1, 1].getD i 0) (v := fun i => [240, 0, 0, 0].getD i 0) (by decide) (by decide) ⟨rfl, by decide +kernel, by decide +kernel, by decide +kernel⟩)
  (by unfold Bts; decide) (v4_valid _ _ _ _) (.inl rfl) (by decide) (by decide) (fun i h h' => of_decide_eq_true (below_forall 128 (fun i => decide (4 ≤ i → bitS (v4 240 0 0 0) i ≠ 1)) (by decide) i h') h) hI hv
theorem sixX0 (hI : Bts ip.bytes) (hv : 0 < sizeS ip) : Calls Tryz.prog 66 #[.string ⟨#[58, 58, 47, 49, 50, 56]⟩, ip.val] w fun e w' => Ext w w' ∧ e = .returned (.bool (matchS ip ⟨noneIP, 128, 1⟩)) :=
 ofX (k0 := 2) (m := 3) (L := 128) (c := 1) (P := noneIP) (by decide) (by decide) (by decide) (fun i h => of_decide_eq_true (below_forall 2 (fun i => decide (ch ⟨#[58, 58, 47, 49, 50, 56]⟩ i ≠ 47)) (by decide) i h)) (by decide) (fun i h => of_decide_eq_true (below_forall 3 (fun i => decide (isDigit (ch ⟨#[58, 58, 47, 49, 50, 56]⟩ (2 + 1 + i)))) (by decide) i h))
  (fun w => ParseIP_six (P := noneIP) (by decide) (by decide) rfl (fun w => sixes_spec (by decide) (.inl ⟨by decide, by decide, by decide, rfl⟩)))
  (by unfold Bts; decide) (by decide) (.inr rfl) (by decide) (by decide) (fun i h h' => of_decide_eq_true (below_forall 128 (fun i => decide (128 ≤ i → bitS noneIP i ≠ 1)) (by decide) i h') h) hI hv
theorem sixX1 (hI : Bts ip.bytes) (hv : 0 < sizeS ip) : Calls Tryz.prog 66 #[.string ⟨#[58, 58, 49, 47, 49, 50, 56]⟩, ip.val] w fun e w' => Ext w w' ∧ e = .returned (.bool (matchS ip ⟨(tailIP 1), 128, 2⟩)) :=
 ofX (k0 := 3) (m := 3) (L := 128) (c := 2) (P := (tailIP 1)) (by decide) (by decide) (by decide) (fun i h => of_decide_eq_true (below_forall 3 (fun i => decide (ch ⟨#[58, 58, 49, 47, 49, 50, 56]⟩ i ≠ 47)) (by decide) i h)) (by decide) (fun i h => of_decide_eq_true (below_forall 3 (fun i => decide (isDigit (ch ⟨#[58, 58, 49, 47, 49, 50, 56]⟩ (3 + 1 + i)))) (by decide) i h))
  (fun w => ParseIP_six (P := (tailIP 1)) (by decide) (by decide) rfl (fun w => sixes_spec (by decide) (.inr (.inl ⟨1, by decide, by decide, by decide, by decide, by decide, fun i h => of_decide_eq_true (below_forall 1 (fun i => decide (0 ≤ worthS (ch ((⟨#[58, 58, 49, 47, 49, 50, 56]⟩ : ByteArray).extract 0 3) (2 + i)))) (by decide) i h), congrArg tailIP (by decide)⟩))))
  (by unfold Bts; decide) (by decide) (.inr rfl) (by decide) (by decide) (fun i h h' => of_decide_eq_true (below_forall 128 (fun i => decide (128 ≤ i → bitS (tailIP 1) i ≠ 1)) (by decide) i h') h) hI hv
theorem sixX2 (hI : Bts ip.bytes) (hv : 0 < sizeS ip) : Calls Tryz.prog 66 #[.string ⟨#[102, 102, 48, 48, 58, 58, 47, 56]⟩, ip.val] w fun e w' => Ext w w' ∧ e = .returned (.bool (matchS ip ⟨(headIP 65280), 8, 3⟩)) :=
 ofX (k0 := 6) (m := 1) (L := 8) (c := 3) (P := (headIP 65280)) (by decide) (by decide) (by decide) (fun i h => of_decide_eq_true (below_forall 6 (fun i => decide (ch ⟨#[102, 102, 48, 48, 58, 58, 47, 56]⟩ i ≠ 47)) (by decide) i h)) (by decide) (fun i h => of_decide_eq_true (below_forall 1 (fun i => decide (isDigit (ch ⟨#[102, 102, 48, 48, 58, 58, 47, 56]⟩ (6 + 1 + i)))) (by decide) i h))
  (fun w => ParseIP_six (P := (headIP 65280)) (by decide) (by decide) rfl (fun w => sixes_spec (by decide) (.inr (.inr ⟨4, by decide, by decide, by decide, fun i h => of_decide_eq_true (below_forall 4 (fun i => decide (0 ≤ worthS (ch ((⟨#[102, 102, 48, 48, 58, 58, 47, 56]⟩ : ByteArray).extract 0 6) (0 + i)))) (by decide) i h), by decide, by decide, congrArg headIP (by decide)⟩))))
  (by unfold Bts; decide) (by decide) (.inr rfl) (by decide) (by decide) (fun i h h' => of_decide_eq_true (below_forall 128 (fun i => decide (8 ≤ i → bitS (headIP 65280) i ≠ 1)) (by decide) i h') h) hI hv
theorem sixX3 (hI : Bts ip.bytes) (hv : 0 < sizeS ip) : Calls Tryz.prog 66 #[.string ⟨#[102, 101, 56, 48, 58, 58, 47, 49, 48]⟩, ip.val] w fun e w' => Ext w w' ∧ e = .returned (.bool (matchS ip ⟨(headIP 65152), 10, 4⟩)) :=
 ofX (k0 := 6) (m := 2) (L := 10) (c := 4) (P := (headIP 65152)) (by decide) (by decide) (by decide) (fun i h => of_decide_eq_true (below_forall 6 (fun i => decide (ch ⟨#[102, 101, 56, 48, 58, 58, 47, 49, 48]⟩ i ≠ 47)) (by decide) i h)) (by decide) (fun i h => of_decide_eq_true (below_forall 2 (fun i => decide (isDigit (ch ⟨#[102, 101, 56, 48, 58, 58, 47, 49, 48]⟩ (6 + 1 + i)))) (by decide) i h))
  (fun w => ParseIP_six (P := (headIP 65152)) (by decide) (by decide) rfl (fun w => sixes_spec (by decide) (.inr (.inr ⟨4, by decide, by decide, by decide, fun i h => of_decide_eq_true (below_forall 4 (fun i => decide (0 ≤ worthS (ch ((⟨#[102, 101, 56, 48, 58, 58, 47, 49, 48]⟩ : ByteArray).extract 0 6) (0 + i)))) (by decide) i h), by decide, by decide, congrArg headIP (by decide)⟩))))
  (by unfold Bts; decide) (by decide) (.inr rfl) (by decide) (by decide) (fun i h h' => of_decide_eq_true (below_forall 128 (fun i => decide (10 ≤ i → bitS (headIP 65152) i ≠ 1)) (by decide) i h') h) hI hv
theorem sixX4 (hI : Bts ip.bytes) (hv : 0 < sizeS ip) : Calls Tryz.prog 66 #[.string ⟨#[58, 58, 47, 56]⟩, ip.val] w fun e w' => Ext w w' ∧ e = .returned (.bool (matchS ip ⟨noneIP, 8, 6⟩)) :=
 ofX (k0 := 2) (m := 1) (L := 8) (c := 6) (P := noneIP) (by decide) (by decide) (by decide) (fun i h => of_decide_eq_true (below_forall 2 (fun i => decide (ch ⟨#[58, 58, 47, 56]⟩ i ≠ 47)) (by decide) i h)) (by decide) (fun i h => of_decide_eq_true (below_forall 1 (fun i => decide (isDigit (ch ⟨#[58, 58, 47, 56]⟩ (2 + 1 + i)))) (by decide) i h))
  (fun w => ParseIP_six (P := noneIP) (by decide) (by decide) rfl (fun w => sixes_spec (by decide) (.inl ⟨by decide, by decide, by decide, rfl⟩)))
  (by unfold Bts; decide) (by decide) (.inr rfl) (by decide) (by decide) (fun i h h' => of_decide_eq_true (below_forall 128 (fun i => decide (8 ≤ i → bitS noneIP i ≠ 1)) (by decide) i h') h) hI hv
theorem refClassX (hI : Bts ip.bytes) : Calls Tryz.prog 34 #[ip.val] w fun e w' => Ext w w' ∧ e = .returned (.int .i64 (classP ip)) := by
 refine weirref4_Class_of ip.v ip.a0 ip.a1 ip.a2 ip.a3 ip.a4 ip.a5 ip.a6 ip.a7 ip.a8 ip.a9 ip.a10 ip.a11 ip.a12 ip.a13 ip.a14 ip.a15 w _ ?_
 unfold weirref4_Class_VC
 refine NewVC.blk fun g1 w1 hg1 hz1 hE1 hb1 => ?_
 refine ⟨_, _, _, _, _, _, _, _, _, _, _, _, _, _, _, _, _, CellsAt.blk hb1, ?_⟩
 refine (refValidX (P := ip)).mono ?_
 rintro _ w2 ⟨hE2, rfl⟩
 have hE := hE1.ext hE2
 refine ⟨_, rfl, ?_⟩
 by_cases hv : 0 < sizeS ip
 case neg =>
  refine Br.t (by rw [decide_eq_false hv]; rfl) ⟨hE, ?_⟩
  unfold classP
  rw [if_neg hv]
 refine Br.f (by rw [decide_eq_true hv]; rfl) ?_
 rw [classP_chain hv]
 have hb2 := hb1.ext hE2
 refine JoinVC.of (fun st w' => Ext w w' ∧ Blk w' g1 24 ip.cells ∧ st = (matchS ip ⟨⟨4, 0, 0, 0, 0, 0, 0, 0, 0, 0, 0, 0, 0, 0, 0, 0, 0⟩, 32, 1⟩ || matchS ip ⟨noneIP, 128, 1⟩)) ?_ ?_
 ·refine ⟨_, _, _, _, _, _, _, _, _, _, _, _, _, _, _, _, _, CellsAt.blk hb2, ?_⟩
  refine (fourX0 hI hv).mono ?_
  rintro _ w3 ⟨hE3, rfl⟩
  refine ⟨_, rfl, ?_⟩
  cases matchS ip ⟨⟨4, 0, 0, 0, 0, 0, 0, 0, 0, 0, 0, 0, 0, 0, 0, 0, 0⟩, 32, 1⟩ with
  | true => exact Br.t rfl ⟨hE.ext hE3, hb2.ext hE3, rfl⟩
  | false =>
   refine Br.f rfl ⟨_, _, _, _, _, _, _, _, _, _, _, _, _, _, _, _, _, CellsAt.blk (hb2.ext hE3), ?_⟩
   refine (sixX0 hI hv).mono ?_
   rintro _ w4 ⟨hE4, rfl⟩
   exact ⟨_, rfl, (hE.ext hE3).ext hE4, (hb2.ext hE3).ext hE4, rfl⟩
 rintro st w5 ⟨hE5, hb5, hA⟩
 unfold weirref4_Class_J115
 rw [← hA]
 cases st with
 | true => exact Br.t rfl ⟨hE5, rfl⟩
 | false =>
 rw [cond_false]
 refine Br.f rfl ?_
 refine JoinVC.of (fun st w' => Ext w w' ∧ Blk w' g1 24 ip.cells ∧ st = (matchS ip ⟨⟨4, 127, 0, 0, 0, 0, 0, 0, 0, 0, 0, 0, 0, 0, 0, 0, 0⟩, 8, 2⟩ || matchS ip ⟨tailIP 1, 128, 2⟩)) ?_ ?_
 ·refine ⟨_, _, _, _, _, _, _, _, _, _, _, _, _, _, _, _, _, CellsAt.blk hb5, ?_⟩
  refine (fourX1 hI hv).mono ?_
  rintro _ w6 ⟨hE6, rfl⟩
  refine ⟨_, rfl, ?_⟩
  cases matchS ip ⟨⟨4, 127, 0, 0, 0, 0, 0, 0, 0, 0, 0, 0, 0, 0, 0, 0, 0⟩, 8, 2⟩ with
  | true => exact Br.t rfl ⟨hE5.ext hE6, hb5.ext hE6, rfl⟩
  | false =>
   refine Br.f rfl ⟨_, _, _, _, _, _, _, _, _, _, _, _, _, _, _, _, _, CellsAt.blk (hb5.ext hE6), ?_⟩
   refine (sixX1 hI hv).mono ?_
   rintro _ w7 ⟨hE7, rfl⟩
   exact ⟨_, rfl, (hE5.ext hE6).ext hE7, (hb5.ext hE6).ext hE7, rfl⟩
 rintro st w8 ⟨hE8, hb8, hB⟩
 unfold weirref4_Class_J463
 rw [← hB]
 cases st with
 | true => exact Br.t rfl ⟨hE8, rfl⟩
 | false =>
 rw [cond_false]
 refine Br.f rfl ?_
 refine JoinVC.of (fun st w' => Ext w w' ∧ Blk w' g1 24 ip.cells ∧ st = (matchS ip ⟨⟨4, 224, 0, 0, 0, 0, 0, 0, 0, 0, 0, 0, 0, 0, 0, 0, 0⟩, 4, 3⟩ || matchS ip ⟨headIP 65280, 8, 3⟩)) ?_ ?_
 ·refine ⟨_, _, _, _, _, _, _, _, _, _, _, _, _, _, _, _, _, CellsAt.blk hb8, ?_⟩
  refine (fourX2 hI hv).mono ?_
  rintro _ w9 ⟨hE9, rfl⟩
  refine ⟨_, rfl, ?_⟩
  cases matchS ip ⟨⟨4, 224, 0, 0, 0, 0, 0, 0, 0, 0, 0, 0, 0, 0, 0, 0, 0⟩, 4, 3⟩ with
  | true => exact Br.t rfl ⟨hE8.ext hE9, hb8.ext hE9, rfl⟩
  | false =>
   refine Br.f rfl ⟨_, _, _, _, _, _, _, _, _, _, _, _, _, _, _, _, _, CellsAt.blk (hb8.ext hE9), ?_⟩
   refine (sixX2 hI hv).mono ?_
   rintro _ w10 ⟨hE10, rfl⟩
   exact ⟨_, rfl, (hE8.ext hE9).ext hE10, (hb8.ext hE9).ext hE10, rfl⟩
 rintro st w11 ⟨hE11, hb11, hC⟩
 unfold weirref4_Class_J1855
 rw [← hC]
 cases st with
 | true => exact Br.t rfl ⟨hE11, rfl⟩
 | false =>
 rw [cond_false]
 refine Br.f rfl ?_
 refine JoinVC.of (fun st w' => Ext w w' ∧ Blk w' g1 24 ip.cells ∧ st = (matchS ip ⟨⟨4, 169, 254, 0, 0, 0, 0, 0, 0, 0, 0, 0, 0, 0, 0, 0, 0⟩, 16, 4⟩ || matchS ip ⟨headIP 65152, 10, 4⟩)) ?_ ?_
 ·refine ⟨_, _, _, _, _, _, _, _, _, _, _, _, _, _, _, _, _, CellsAt.blk hb11, ?_⟩
  refine (fourX3 hI hv).mono ?_
  rintro _ w12 ⟨hE12, rfl⟩
  refine ⟨_, rfl, ?_⟩
  cases matchS ip ⟨⟨4, 169, 254, 0, 0, 0, 0, 0, 0, 0, 0, 0, 0, 0, 0, 0, 0⟩, 16, 4⟩ with
  | true => exact Br.t rfl ⟨hE11.ext hE12, hb11.ext hE12, rfl⟩
  | false =>
   refine Br.f rfl ⟨_, _, _, _, _, _, _, _, _, _, _, _, _, _, _, _, _, CellsAt.blk (hb11.ext hE12), ?_⟩
   refine (sixX3 hI hv).mono ?_
   rintro _ w13 ⟨hE13, rfl⟩
   exact ⟨_, rfl, (hE11.ext hE12).ext hE13, (hb11.ext hE12).ext hE13, rfl⟩
 rintro st w14 ⟨hE14, hb14, hD⟩
 unfold weirref4_Class_J7423
 rw [← hD]
 cases st with
 | true => exact Br.t rfl ⟨hE14, rfl⟩
 | false =>
 rw [cond_false]
 refine Br.f rfl ⟨_, _, _, _, _, _, _, _, _, _, _, _, _, _, _, _, _, CellsAt.blk hb14, ?_⟩
 refine (fourX4 hI hv).mono ?_
 rintro _ w15 ⟨hE15, rfl⟩
 refine ⟨_, rfl, ?_⟩
 cases matchS ip ⟨⟨4, 255, 255, 255, 255, 0, 0, 0, 0, 0, 0, 0, 0, 0, 0, 0, 0⟩, 32, 5⟩ with
 | true => exact Br.t rfl ⟨hE14.ext hE15, rfl⟩
 | false =>
 rw [cond_false]
 refine Br.f rfl ⟨_, _, _, _, _, _, _, _, _, _, _, _, _, _, _, _, _, CellsAt.blk (hb14.ext hE15), ?_⟩
 refine (fourX5 hI hv).mono ?_
 rintro _ w16 ⟨hE16, rfl⟩
 refine ⟨_, rfl, ?_⟩
 cases matchS ip ⟨⟨4, 0, 0, 0, 0, 0, 0, 0, 0, 0, 0, 0, 0, 0, 0, 0, 0⟩, 8, 6⟩ with
 | true => exact Br.t rfl ⟨(hE14.ext hE15).ext hE16, rfl⟩
 | false =>
 rw [Bool.false_or]
 refine Br.f rfl ⟨_, _, _, _, _, _, _, _, _, _, _, _, _, _, _, _, _, CellsAt.blk ((hb14.ext hE15).ext hE16), ?_⟩
 refine (fourX6 hI hv).mono ?_
 rintro _ w17 ⟨hE17, rfl⟩
 refine ⟨_, rfl, ?_⟩
 have hEl := ((hE14.ext hE15).ext hE16).ext hE17
 cases matchS ip ⟨⟨4, 240, 0, 0, 0, 0, 0, 0, 0, 0, 0, 0, 0, 0, 0, 0, 0⟩, 4, 6⟩ with
 | true => exact Br.t rfl ⟨hEl, rfl⟩
 | false =>
 rw [Bool.false_or]
 refine Br.f rfl ⟨_, _, _, _, _, _, _, _, _, _, _, _, _, _, _, _, _, CellsAt.blk (((hb14.ext hE15).ext hE16).ext hE17), ?_⟩
 refine (sixX4 hI hv).mono ?_
 rintro _ w18 ⟨hE18, rfl⟩
 refine ⟨_, rfl, ?_⟩
 cases matchS ip ⟨noneIP, 8, 6⟩ with
 | true => exact Br.t rfl ⟨hEl.ext hE18, rfl⟩
 | false => exact Br.f rfl ⟨hEl.ext hE18, rfl⟩
end
end Nd
end Go.Proofs.YtjngdcilnipjcaaGreatDoor
/- Which address may be a target, to the document. -/
namespace Go.Proofs.YtjngdcilnipjcaaGreatDoor
namespace Nd
open Go.Eng Go.RowKit
section
variable {w : World} {ip : IPV}
theorem target_spec (hI : Bts ip.bytes) : Calls Tryz.prog 38 #[ip.val] w fun e w' => Ext w w' ∧ e = .returned (.bool (targetS ip)) := by
 refine weirref8_target_of ip.v ip.a0 ip.a1 ip.a2 ip.a3 ip.a4 ip.a5 ip.a6 ip.a7 ip.a8 ip.a9 ip.a10 ip.a11 ip.a12 ip.a13 ip.a14 ip.a15 w _ ?_
 unfold weirref8_target_VC
 refine NewVC.blk fun g1 w1 hg1 hz1 hE1 hb1 => ?_
 refine ⟨_, _, _, _, _, _, _, _, _, _, _, _, _, _, _, _, _, CellsAt.blk hb1, ?_⟩
 refine (refClassX hI).mono ?_
 rintro _ w2 ⟨hE2, rfl⟩
 have key : ip.v = 6 → targetS ip = !decide (classP ip = 3 ∨ classP ip = 1) := fun h6 => by rw [noTarget_eq h6 hI, Bool.not_not]
 refine ⟨_, rfl, _, (hb1.ext hE2).cell 0, Br.dec (fun h6 => Br.dec (fun h3 => ⟨hE1.ext hE2, ?_⟩) fun h3 => ⟨hE1.ext hE2, ?_⟩) fun h6 => ⟨hE1.ext hE2, ?_⟩⟩
 ·rw [key h6]
  by_cases h1 : classP ip = 1
  ·rw [decide_eq_true (p := classP ip = 3 ∨ classP ip = 1) (.inr h1), decide_eq_false (by simpa using h1)]; rfl
  ·rw [decide_eq_false (p := classP ip = 3 ∨ classP ip = 1) (fun h => h.elim h3 h1), decide_eq_true h1]; rfl
 ·rw [key h6, decide_eq_true (p := classP ip = 3 ∨ classP ip = 1) (.inl (Classical.not_not.1 h3))]; rfl
 ·unfold targetS; rw [decide_eq_false h6, Bool.false_and]
end
end Nd
end Go.Proofs.YtjngdcilnipjcaaGreatDoor
