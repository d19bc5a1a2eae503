/- Layer 4's texts (the document's): what the small functions answer. -/
import Derived.Test.YtjngdcilnipjcaaDoorNc1
namespace Go.Eng
open Go Go.RowKit
/-- The i-th byte of a text. -/
def ch (s : ByteArray) (i : Nat) : Int := ((s.data.toList.getD i 0).toNat : Int)
theorem ch_bounds (s : ByteArray) (i : Nat) : 0 ≤ ch s i ∧ ch s i < 256 := by
  unfold ch
  have := (s.data.toList.getD i 0).toNat_lt
  omega
theorem StrIdxVC.of {s : ByteArray} {i : Nat} {F : Int → Prop} (hi : i < s.size) (h : F (ch s i)) : StrIdxVC s (i : Int) F := by
  refine ⟨by omega, by omega, ?_⟩
  rw [ByteArray.toList_eq]
  exact h
def isDigit (c : Int) : Prop := 48 ≤ c ∧ c ≤ 57
instance (c : Int) : Decidable (isDigit c) := by unfold isDigit; infer_instance
/-- The number that k digits from p on say. -/
def decN (s : ByteArray) (p : Nat) : Nat → Int
  | 0 => 0
  | k + 1 => 10 * decN s p k + (ch s (p + k) - 48)
theorem decN_bound {s : ByteArray} {p : Nat} : ∀ k, (∀ i, i < k → isDigit (ch s (p + i))) → 0 ≤ decN s p k ∧ decN s p k < 10 ^ k
  | 0, _ => by simp [decN]
  | k + 1, h => by
    have ih := decN_bound k fun i hi => h i (by omega)
    have hk := h k (by omega)
    unfold isDigit at hk
    have e : (10 : Int) ^ (k + 1) = 10 ^ k * 10 := Int.pow_succ _ _
    unfold decN
    omega
theorem pow10_le {k : Nat} (h : k ≤ 3) : (10 : Int) ^ k ≤ 1000 := by
  match k, h with
  | 0, _ => decide
  | 1, _ => decide
  | 2, _ => decide
  | 3, _ => decide
/-- Of a number's digits: what it is, -1: it may not be. -/
def decS (s : ByteArray) (p k : Nat) (most : Int) : Int :=
  if 3 < k ∨ (1 < k ∧ ch s p = 48) then -1 else if most < decN s p k then -1 else decN s p k
def worthS (c : Int) : Int := if isDigit c then c - 48 else if 97 ≤ c ∧ c ≤ 102 then c - 97 + 10 else if 65 ≤ c ∧ c ≤ 70 then c - 65 + 10 else -1
end Go.Eng
namespace Go.Proofs.YtjngdcilnipjcaaDoor
namespace Nd
open Go.Eng Go.RowKit
section
variable {w : World}
theorem digit_spec (c : Int) : Calls Tryd.prog 139 #[.int .u8 c] w fun e w' => w = w' ∧ e = .returned (.bool (decide (isDigit c))) := by
  refine weirref4_digit_of c w _ ?_
  unfold weirref4_digit_VC
  refine Br.dec (fun h => ⟨rfl, ?_⟩) (fun h => ⟨rfl, ?_⟩)
  · simp [isDigit, h]
  · simp [isDigit, h]
theorem here_spec (s : ByteArray) (p : Int) : Calls Tryd.prog 140 #[.string s, .int .i64 p] w fun e w' => w = w' ∧ ∃ x y, 0 < x ∧ e = .returned (.tuple #[.int .i64 x, .int .i64 y]) := by
  refine weirref4_here_of s p w _ ?_
  unfold weirref4_here_VC
  exact Br.dec (fun h => ⟨rfl, 42, _, by decide, rfl⟩) (fun h => ⟨rfl, 41, _, by decide, rfl⟩)
theorem decimal_spec {s : ByteArray} {p k : Nat} {most : Int} (hs : p + k ≤ s.size) (hz : s.size ≤ 1000) (h0 : 0 < k) (hd : ∀ i, i < k → isDigit (ch s (p + i))) :
    Calls Tryd.prog 141 #[.string s, .int .i64 (p : Int), .int .i64 ((p + k : Nat) : Int), .int .i64 most] w fun e w' => w = w' ∧ e = .returned (.int .i64 (decS s p k most)) := by
  refine weirref4_decimal_of s (p : Int) ((p + k : Nat) : Int) most w _ ?_
  unfold weirref4_decimal_VC
  have e0 : IntKind.i64.wrap (((p + k : Nat) : Int) - (p : Int)) = k := by rw [w64 (by omega) (by omega)]; omega
  rw [e0]
  refine JoinVC.of (fun _ w' => w = w' ∧ ¬ (3 < k ∨ (1 < k ∧ ch s p = 48))) ?_ ?_
  · refine Br.dec (fun h => ⟨rfl, ?_⟩) fun h => Br.dec (fun h1 => ?_) fun h1 => ⟨rfl, by omega⟩
    · unfold decS; rw [if_pos (by omega)]
    · refine StrIdxVC.of (by omega) (Br.dec (fun h2 => ⟨rfl, ?_⟩) fun h2 => ⟨rfl, by omega⟩)
      unfold decS; rw [if_pos (by omega)]
  rintro _ _ ⟨rfl, hno⟩
  unfold weirref4_decimal_J3
  refine LoopVC.of (fun st w' => w = w' ∧ ∃ i : Nat, i ≤ k ∧ st = (decN s p i, ((p + i : Nat) : Int))) (fun st _ => (((p + k : Nat) : Int) - st.2).toNat) ⟨rfl, 0, by omega, rfl⟩ ?_
  rintro _ _ ⟨rfl, i, hi, rfl⟩
  show weirref4_decimal_L122 _ s ((p + k : Nat) : Int) most (decN s p i) ((p + i : Nat) : Int) w _
  unfold weirref4_decimal_L122
  have hb := decN_bound (s := s) (p := p) i fun j hj => hd j (by omega)
  have hp := pow10_le (k := i) (by omega)
  refine Br.dec (fun hlt => ?_) fun hge => ?_
  · refine StrIdxVC.of (by omega) ?_
    have hc := hd i (by omega)
    unfold isDigit at hc
    have e1 : IntKind.u8.wrap (ch s (p + i) - 48) = ch s (p + i) - 48 := wu8 (by omega) (by omega)
    rw [e1, w64 (n := 10 * decN s p i) (by omega) (by omega), w64 (n := ch s (p + i) - 48) (by omega) (by omega), w64 (by omega) (by omega), w64 (n := ((p + i : Nat) : Int) + 1) (by omega) (by omega)]
    refine ⟨⟨rfl, i + 1, by omega, ?_⟩, by show (((p + k : Nat) : Int) - (((p + i : Nat) : Int) + 1)).toNat < (((p + k : Nat) : Int) - ((p + i : Nat) : Int)).toNat; omega⟩
    rw [show (((p + (i + 1) : Nat) : Int)) = ((p + i : Nat) : Int) + 1 by omega]; rfl
  · have : i = k := by omega
    subst this
    refine Br.dec (fun h => ⟨rfl, ?_⟩) fun h => ⟨rfl, ?_⟩
    · unfold decS; rw [if_neg hno, if_pos h]
    · unfold decS; rw [if_neg hno, if_neg h]
def hasS (s : ByteArray) (c : Int) : Bool := s.data.toList.any fun b => decide ((b.toNat : Int) = c)
theorem has_spec (s : ByteArray) (c : Int) (hz : s.size ≤ 1000) : Calls Tryd.prog 152 #[.string s, .int .u8 c] w fun e w' => w = w' ∧ e = .returned (.bool (hasS s c)) := by
  refine weirref4_has_of s c w _ ?_
  unfold weirref4_has_VC
  refine LoopVC.of (fun st w' => w = w' ∧ ∃ i : Nat, st = (i : Int) ∧ i ≤ s.size ∧ ∀ j, j < i → ch s j ≠ c) (fun st _ => ((s.size : Int) - st).toNat) ⟨rfl, 0, rfl, by omega, fun _ h => absurd h (by omega)⟩ ?_
  rintro _ _ ⟨rfl, i, rfl, hi, hno⟩
  show weirref4_has_L26 _ s c (i : Int) w _
  unfold weirref4_has_L26
  have hsz : s.data.toList.length = s.size := by simp
  have hat : ∀ j, (h : j < s.size) → ch s j = ((s.data.toList[j]'(by omega)).toNat : Int) := fun j h => by
    unfold ch; rw [List.getD_eq_getElem?_getD, List.getElem?_eq_getElem (by omega)]; rfl
  refine Br.dec (fun hlt => StrIdxVC.of (by omega) (Br.dec (fun h => ⟨rfl, ?_⟩) fun h => ⟨⟨rfl, i + 1, ?_, by omega, fun j hj => ?_⟩, ?_⟩)) fun hge => ⟨rfl, ?_⟩
  · have : hasS s c = true := by
      unfold hasS; rw [List.any_eq_true]
      exact ⟨_, List.getElem_mem (by omega : i < s.data.toList.length), by rw [← hat i (by omega)]; simpa using h⟩
    rw [this]
  · rw [w64 (by omega) (by omega)]; omega
  · rcases Nat.lt_or_ge j i with h' | h'
    · exact hno j h'
    · have : j = i := by omega
      subst this; exact h
  · rw [w64 (by omega) (by omega)]; omega
  · have : hasS s c = false := by
      unfold hasS
      rw [List.any_eq_false]
      intro b hb
      obtain ⟨j, hj, rfl⟩ := List.mem_iff_getElem.1 hb
      have := hno j (by omega)
      rw [hat j (by omega)] at this
      simpa using this
    rw [this]
theorem two_spec (s : ByteArray) (p : Nat) (_ : s.size ≤ 1000) (hp : p ≤ 1000) : Calls Tryd.prog 157 #[.string s, .int .i64 (p : Int)] w fun e w' => w = w' ∧ e = .returned (.bool (decide (p + 1 < s.size ∧ ch s p = 58 ∧ ch s (p + 1) = 58))) := by
  refine weirref4_two_of s (p : Int) w _ ?_
  unfold weirref4_two_VC
  have e1 : IntKind.i64.wrap ((p : Int) + 1) = ((p + 1 : Nat) : Int) := by rw [w64 (by omega) (by omega)]; omega
  rw [e1]
  refine Br.dec (fun h => StrIdxVC.of (by omega) (Br.dec (fun h1 => StrIdxVC.of (by omega) ⟨rfl, ?_⟩) fun h1 => ⟨rfl, ?_⟩)) fun h => ⟨rfl, ?_⟩
  · have h' : p + 1 < s.size := by omega
    simp [h', h1]
  · simp [h1]
  · have h' : ¬ p + 1 < s.size := by omega
    simp [h']
theorem worth_spec {c : Int} (h0 : 0 ≤ c) (h1 : c < 256) : Calls Tryd.prog 164 #[.int .u8 c] w fun e w' => w = w' ∧ e = .returned (.int .i64 (worthS c)) := by
  refine weirref4_worth_of c w _ ?_
  unfold weirref4_worth_VC
  refine (digit_spec c).mono ?_
  rintro _ _ ⟨rfl, rfl⟩
  refine ⟨_, rfl, Br.dec (fun h => ⟨rfl, ?_⟩) fun h => ?_⟩
  · have h' := h; unfold isDigit at h'
    rw [wu8 (by omega) (by omega), w64 (by omega) (by omega)]
    unfold worthS; rw [if_pos h]
  refine JoinVC.of (fun _ w' => w = w' ∧ ¬ (97 ≤ c ∧ c ≤ 102)) ?_ ?_
  · refine Br.dec (fun h2 => Br.dec (fun h3 => ⟨rfl, ?_⟩) fun h3 => ⟨rfl, by omega⟩) fun h2 => ⟨rfl, by omega⟩
    rw [wu8 (by omega) (by omega), w64 (n := c - 97) (by omega) (by omega), w64 (by omega) (by omega)]
    unfold worthS; rw [if_neg h, if_pos ⟨h2, h3⟩]
  rintro _ _ ⟨rfl, hno⟩
  unfold weirref4_worth_J7
  refine Br.dec (fun h2 => Br.dec (fun h3 => ⟨rfl, ?_⟩) fun h3 => ⟨rfl, ?_⟩) fun h2 => ⟨rfl, ?_⟩
  · rw [wu8 (by omega) (by omega), w64 (n := c - 65) (by omega) (by omega), w64 (by omega) (by omega)]
    unfold worthS; rw [if_neg h, if_neg hno, if_pos ⟨h2, h3⟩]
  · unfold worthS; rw [if_neg h, if_neg hno, if_neg (by omega)]
  · unfold worthS; rw [if_neg h, if_neg hno, if_neg (by omega)]
/-- Four numbers, or an error. -/
theorem dotted_spec (s : ByteArray) (hz : s.size ≤ 1000) : Calls Tryd.prog 154 #[.string s, .int .i64 0] w fun e w' => Ext w w' ∧ ∃ A n c x y, e = .returned (.tuple #[.slice A n c, .int .i64 x, .int .i64 y]) ∧
    (x = 0 → n = 4 ∧ ∃ bs : List Int, bs.length = 4 ∧ Bts bs ∧ Cells w' A (bs.map (.int .u8))) := by
  refine weirref4_dotted_of s 0 w _ ?_
  unfold weirref4_dotted_VC
  refine LoopVC.of (fun st w' => Ext w w' ∧ ∃ (p : Nat) (bs : List Int), st.1 = (p : Int) ∧ p ≤ s.size ∧ bs.length = st.2.2.1 ∧ st.2.2.1 ≤ 4 ∧ Bts bs ∧ w'.ownsRow w.heap.size 5 1 (.slice st.2.1 st.2.2.1 st.2.2.2) st.2.2.1 (bs.map (.int .u8)))
    (fun st _ => (4 - (st.2.2.1 : Int)).toNat) ?_ ?_
  · exact ⟨Mod.refl _ _, 0, [], rfl, by omega, rfl, by decide, (fun x hx => by simp at hx), World.ownsRow_nil _ _ _ _⟩
  rintro ⟨_, lA, ln, lc⟩ w1 ⟨hE1, p, bs, hp, hps, hbs, hn4, hB, hown⟩
  simp only at hp hbs hn4 hB hown
  subst hp
  show weirref4_dotted_L28 _ s (p : Int) lA ln lc w1 _
  unfold weirref4_dotted_L28
  refine Br.dec (fun hlt => ?_) fun hge => Br.dec (fun h => ⟨hE1, none, 0, 0, 41, _, rfl, fun h => by cases h⟩) fun h => ⟨hE1, lA, ln, lc, 0, 0, rfl, fun _ => ⟨by omega, bs, by omega, hB, own_cells hown⟩⟩
  refine JoinVC.of (fun q w' => w1 = w' ∧ ∃ k : Nat, q = ((p + k : Nat) : Int) ∧ p + k ≤ s.size ∧ ∀ i, i < k → isDigit (ch s (p + i))) ?_ ?_
  · refine LoopVC.of (fun q w' => w1 = w' ∧ ∃ k : Nat, q = ((p + k : Nat) : Int) ∧ p + k ≤ s.size ∧ ∀ i, i < k → isDigit (ch s (p + i))) (fun q _ => ((s.size : Int) - q).toNat) ⟨rfl, 0, rfl, hps, fun _ h => absurd h (by omega)⟩ ?_
    rintro _ _ ⟨rfl, k, rfl, hk, hd⟩
    show weirref4_dotted_L1812 _ s _ ((p + k : Nat) : Int) w1 _
    unfold weirref4_dotted_L1812
    refine Br.dec (fun h => StrIdxVC.of (by omega) ?_) fun h => ⟨rfl, k, rfl, hk, hd⟩
    refine (digit_spec _).mono ?_
    rintro _ _ ⟨rfl, rfl⟩
    refine ⟨_, rfl, Br.dec (fun h1 => ⟨⟨rfl, k + 1, ?_, by omega, fun i hi => ?_⟩, ?_⟩) fun h1 => ⟨rfl, k, rfl, hk, hd⟩⟩
    · rw [w64 (by omega) (by omega)]; omega
    · rcases Nat.lt_or_ge i k with h' | h'
      · exact hd i h'
      · have : i = k := by omega
        subst this; exact h1
    · rw [w64 (by omega) (by omega)]; omega
  rintro _ _ ⟨rfl, k, rfl, hk, hd⟩
  unfold weirref4_dotted_J453
  refine Br.dec (fun h => ?_) fun h => ?_
  · refine (here_spec s _).mono ?_
    rintro _ _ ⟨rfl, x, y, hx, rfl⟩
    exact ⟨_, _, rfl, hE1, none, 0, 0, x, y, rfl, fun h => absurd h (by omega)⟩
  have h0 : 0 < k := by omega
  refine (decimal_spec (most := 255) hk hz h0 hd).mono ?_
  rintro _ _ ⟨rfl, rfl⟩
  refine ⟨_, rfl, Br.dec (fun h1 => ⟨hE1, none, 0, 0, 43, _, rfl, fun h => by cases h⟩) fun h1 => ?_⟩
  have s1 := hE1.size
  refine AppVC.one Tryd.underlying22 tyByte rfl hown rfl (by omega) (by decide) hE1.size fun lA1 lc1 w3 hown3 hm3 _ => ?_
  have hE3 : Ext w w3 := Ext.own hE1 hown hm3
  have hw : ∃ b, (0 ≤ b ∧ b < 256) ∧ (bs ++ [b]).map (Value.int .u8) = bs.map (.int .u8) ++ [.int .u8 (IntKind.u8.wrap (decS s p k 255))] := ⟨IntKind.u8.wrap (decS s p k 255), by rw [u8_eq]; omega, by simp⟩
  obtain ⟨b, hbb, hb⟩ := hw
  have hB2 : Bts (bs ++ [b]) := fun x hx => by
    rcases List.mem_append.1 hx with h | h
    · exact hB x h
    · simp at h; subst h; exact hbb
  rw [← hb] at hown3
  refine Br.dec (fun h2 => ?_) fun h2 => ?_
  · refine JoinVC.of (fun st w' => w3 = w' ∧ (st = false → p + k < s.size)) ?_ ?_
    · refine Br.dec (fun h3 => ⟨rfl, fun h => by cases h⟩) fun h3 => StrIdxVC.of (by omega) ⟨rfl, fun _ => by omega⟩
    rintro st _ ⟨rfl, hst⟩
    unfold weirref4_dotted_J232444
    cases st with
    | true =>
      refine Br.t rfl ?_
      refine (here_spec s _).mono ?_
      rintro _ _ ⟨rfl, x, y, hx, rfl⟩
      exact ⟨_, _, rfl, hE3, none, 0, 0, x, y, rfl, fun h => absurd h (by omega)⟩
    | false =>
      have := hst rfl
      refine Br.f rfl ⟨⟨hE3, p + k + 1, bs ++ [b], ?_, by omega, by simp; omega, by show ln + 1 ≤ 4; omega, hB2, hown3⟩, ?_⟩
      · show IntKind.i64.wrap _ = _
        rw [w64 (by omega) (by omega)]; omega
      · show (4 - ((ln + 1 : Nat) : Int)).toNat < (4 - (ln : Int)).toNat; omega
  · refine ⟨⟨hE3, p + k, bs ++ [b], rfl, hk, by simp; omega, by show ln + 1 ≤ 4; omega, hB2, hown3⟩, ?_⟩
    show (4 - ((ln + 1 : Nat) : Int)).toNat < (4 - (ln : Int)).toNat; omega
end
end Nd
end Go.Proofs.YtjngdcilnipjcaaDoor
