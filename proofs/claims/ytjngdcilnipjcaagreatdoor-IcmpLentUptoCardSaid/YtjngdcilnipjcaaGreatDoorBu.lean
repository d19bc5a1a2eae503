/- Layer 4's texts (the document's): what the small functions answer. -/
import Derived.Test.YtjngdcilnipjcaaGreatDoorBn
namespace Go.Eng
open Go Go.RowKit
def ch (s : ByteArray) (i : Nat) : Int := ((s.data.toList.getD i 0).toNat : Int)
theorem ch_bounds (s : ByteArray) (i : Nat) : 0 ≤ ch s i ∧ ch s i < 256 := by
 unfold ch
 have := (s.data.toList.getD i 0).toNat_lt
 omega
theorem StrIdxVC.of {s : ByteArray} {i : Nat} {F : Int → Prop} (hi : i < s.size) (h : F (ch s i)) : StrIdxVC s (i : Int) F := by
 refine ⟨by omega, by omega, ?_⟩
 rw [ByteArray.toList_eq]
 exact h
def isDigit (c : Int) : Prop := 48 ≤ c ∧ c ≤ 57
instance (c : Int) : Decidable (isDigit c) := by unfold isDigit; infer_instance
def decN (s : ByteArray) (p : Nat) : Nat → Int
 | 0 => 0
 | k + 1 => 10 * decN s p k + (ch s (p + k) - 48)
theorem decN_bound {s : ByteArray} {p : Nat} : ∀ k, (∀ i, i < k → isDigit (ch s (p + i))) → 0 ≤ decN s p k ∧ decN s p k < 10 ^ k
 | 0, _ => by simp [decN]
 | k + 1, h => by
  have ih := decN_bound k fun i hi => h i (by omega)
  have hk := h k (by omega)
  unfold isDigit at hk
  have e : (10 : Int) ^ (k + 1) = 10 ^ k * 10 := Int.pow_succ _ _
  unfold decN
  omega
theorem pow10_le {k : Nat} (h : k ≤ 3) : (10 : Int) ^ k ≤ 1000 := by
 match k, h with
 | 0, _ => decide
 | 1, _ => decide
 | 2, _ => decide
 | 3, _ => decide
def decS (s : ByteArray) (p k : Nat) (most : Int) : Int :=
 if 3 < k ∨ (1 < k ∧ ch s p = 48) then -1 else if most < decN s p k then -1 else decN s p k
def worthS (c : Int) : Int := if isDigit c then c - 48 else if 97 ≤ c ∧ c ≤ 102 then c - 97 + 10 else if 65 ≤ c ∧ c ≤ 70 then c - 65 + 10 else -1
end Go.Eng
namespace Go.Proofs.YtjngdcilnipjcaaGreatDoor
namespace Nd
open Go.Eng Go.RowKit
section
variable {w : World}
theorem digit_spec (c : Int) : Calls Tryz.prog 116 #[.int .u8 c] w fun e w' => w = w' ∧ e = .returned (.bool (decide (isDigit c))) := by
 refine weirref4_digit_of c w _ ?_
 unfold weirref4_digit_VC
 refine Br.dec (fun h => ⟨rfl, ?_⟩) (fun h => ⟨rfl, ?_⟩)
 ·simp [isDigit, h]
 ·simp [isDigit, h]
theorem decimal_spec {s : ByteArray} {p k : Nat} {most : Int} (hs : p + k ≤ s.size) (hz : s.size ≤ 1000) (h0 : 0 < k) (hd : ∀ i, i < k → isDigit (ch s (p + i))) :
  Calls Tryz.prog 118 #[.string s, .int .i64 (p : Int), .int .i64 ((p + k : Nat) : Int), .int .i64 most] w fun e w' => w = w' ∧ e = .returned (.int .i64 (decS s p k most)) := by
 refine weirref4_decimal_of s (p : Int) ((p + k : Nat) : Int) most w _ ?_
 unfold weirref4_decimal_VC
 have e0 : IntKind.i64.wrap (((p + k : Nat) : Int) - (p : Int)) = k := by rw [w64 (by omega) (by omega)]; omega
 rw [e0]
 refine JoinVC.of (fun _ w' => w = w' ∧ ¬ (3 < k ∨ (1 < k ∧ ch s p = 48))) ?_ ?_
 ·refine Br.dec (fun h => ⟨rfl, ?_⟩) fun h => Br.dec (fun h1 => ?_) fun h1 => ⟨rfl, by omega⟩
  ·unfold decS; rw [if_pos (by omega)]
  ·refine StrIdxVC.of (by omega) (Br.dec (fun h2 => ⟨rfl, ?_⟩) fun h2 => ⟨rfl, by omega⟩)
   unfold decS; rw [if_pos (by omega)]
 rintro _ _ ⟨rfl, hno⟩
 unfold weirref4_decimal_J3
 refine LoopVC.of (fun st w' => w = w' ∧ ∃ i : Nat, i ≤ k ∧ st = (decN s p i, ((p + i : Nat) : Int))) (fun st _ => (((p + k : Nat) : Int) - st.2).toNat) ⟨rfl, 0, by omega, rfl⟩ ?_
 rintro _ _ ⟨rfl, i, hi, rfl⟩
 show weirref4_decimal_L122 _ s ((p + k : Nat) : Int) most (decN s p i) ((p + i : Nat) : Int) w _
 unfold weirref4_decimal_L122
 have hb := decN_bound (s := s) (p := p) i fun j hj => hd j (by omega)
 have hp := pow10_le (k := i) (by omega)
 refine Br.dec (fun hlt => ?_) fun hge => ?_
 ·refine StrIdxVC.of (by omega) ?_
  have hc := hd i (by omega)
  unfold isDigit at hc
  have e1 : IntKind.u8.wrap (ch s (p + i) - 48) = ch s (p + i) - 48 := wu8 (by omega) (by omega)
  rw [e1, w64 (n := 10 * decN s p i) (by omega) (by omega), w64 (n := ch s (p + i) - 48) (by omega) (by omega), w64 (by omega) (by omega), w64 (n := ((p + i : Nat) : Int) + 1) (by omega) (by omega)]
  refine ⟨⟨rfl, i + 1, by omega, ?_⟩, by show (((p + k : Nat) : Int) - (((p + i : Nat) : Int) + 1)).toNat < (((p + k : Nat) : Int) - ((p + i : Nat) : Int)).toNat; omega⟩
  rw [show (((p + (i + 1) : Nat) : Int)) = ((p + i : Nat) : Int) + 1 by omega]; rfl
 ·have : i = k := by omega
  subst this
  refine Br.dec (fun h => ⟨rfl, ?_⟩) fun h => ⟨rfl, ?_⟩
  ·unfold decS; rw [if_neg hno, if_pos h]
  ·unfold decS; rw [if_neg hno, if_neg h]
def hasS (s : ByteArray) (c : Int) : Bool := s.data.toList.any fun b => decide ((b.toNat : Int) = c)
theorem has_spec (s : ByteArray) (c : Int) (hz : s.size ≤ 1000) : Calls Tryz.prog 129 #[.string s, .int .u8 c] w fun e w' => w = w' ∧ e = .returned (.bool (hasS s c)) := by
 refine weirref4_has_of s c w _ ?_
 unfold weirref4_has_VC
 refine LoopVC.of (fun st w' => w = w' ∧ ∃ i : Nat, st = (i : Int) ∧ i ≤ s.size ∧ ∀ j, j < i → ch s j ≠ c) (fun st _ => ((s.size : Int) - st).toNat) ⟨rfl, 0, rfl, by omega, fun _ h => absurd h (by omega)⟩ ?_
 rintro _ _ ⟨rfl, i, rfl, hi, hno⟩
 show weirref4_has_L26 _ s c (i : Int) w _
 unfold weirref4_has_L26
 have hsz : s.data.toList.length = s.size := by simp
 have hat : ∀ j, (h : j < s.size) → ch s j = ((s.data.toList[j]'(by omega)).toNat : Int) := fun j h => by
  unfold ch; rw [List.getD_eq_getElem?_getD, List.getElem?_eq_getElem (by omega)]; rfl
 refine Br.dec (fun hlt => StrIdxVC.of (by omega) (Br.dec (fun h => ⟨rfl, ?_⟩) fun h => ⟨⟨rfl, i + 1, ?_, by omega, fun j hj => ?_⟩, ?_⟩)) fun hge => ⟨rfl, ?_⟩
 ·have : hasS s c = true := by
   unfold hasS; rw [List.any_eq_true]
   exact ⟨_, List.getElem_mem (by omega : i < s.data.toList.length), by rw [← hat i (by omega)]; simpa using h⟩
  rw [this]
 ·rw [w64 (by omega) (by omega)]; omega
 ·rcases Nat.lt_or_ge j i with h' | h'
  ·exact hno j h'
  ·have : j = i := by omega
   subst this; exact h
 ·rw [w64 (by omega) (by omega)]; omega
 ·have : hasS s c = false := by
   unfold hasS
   rw [List.any_eq_false]
   intro b hb
   obtain ⟨j, hj, rfl⟩ := List.mem_iff_getElem.1 hb
   have := hno j (by omega)
   rw [hat j (by omega)] at this
   simpa using this
  rw [this]
theorem two_spec (s : ByteArray) (p : Nat) (_ : s.size ≤ 1000) (hp : p ≤ 1000) : Calls Tryz.prog 134 #[.string s, .int .i64 (p : Int)] w fun e w' => w = w' ∧ e = .returned (.bool (decide (p + 1 < s.size ∧ ch s p = 58 ∧ ch s (p + 1) = 58))) := by
 refine weirref4_two_of s (p : Int) w _ ?_
 unfold weirref4_two_VC
 have e1 : IntKind.i64.wrap ((p : Int) + 1) = ((p + 1 : Nat) : Int) := by rw [w64 (by omega) (by omega)]; omega
 rw [e1]
 refine Br.dec (fun h => StrIdxVC.of (by omega) (Br.dec (fun h1 => StrIdxVC.of (by omega) ⟨rfl, ?_⟩) fun h1 => ⟨rfl, ?_⟩)) fun h => ⟨rfl, ?_⟩
 ·have h' : p + 1 < s.size := by omega
  simp [h', h1]
 ·simp [h1]
 ·have h' : ¬ p + 1 < s.size := by omega
  simp [h']
theorem worth_spec {c : Int} (h0 : 0 ≤ c) (h1 : c < 256) : Calls Tryz.prog 141 #[.int .u8 c] w fun e w' => w = w' ∧ e = .returned (.int .i64 (worthS c)) := by
 refine weirref4_worth_of c w _ ?_
 unfold weirref4_worth_VC
 refine (digit_spec c).mono ?_
 rintro _ _ ⟨rfl, rfl⟩
 refine ⟨_, rfl, Br.dec (fun h => ⟨rfl, ?_⟩) fun h => ?_⟩
 ·have h' := h; unfold isDigit at h'
  rw [wu8 (by omega) (by omega), w64 (by omega) (by omega)]
  unfold worthS; rw [if_pos h]
 refine JoinVC.of (fun _ w' => w = w' ∧ ¬ (97 ≤ c ∧ c ≤ 102)) ?_ ?_
 ·refine Br.dec (fun h2 => Br.dec (fun h3 => ⟨rfl, ?_⟩) fun h3 => ⟨rfl, by omega⟩) fun h2 => ⟨rfl, by omega⟩
  rw [wu8 (by omega) (by omega), w64 (n := c - 97) (by omega) (by omega), w64 (by omega) (by omega)]
  unfold worthS; rw [if_neg h, if_pos ⟨h2, h3⟩]
 rintro _ _ ⟨rfl, hno⟩
 unfold weirref4_worth_J7
 refine Br.dec (fun h2 => Br.dec (fun h3 => ⟨rfl, ?_⟩) fun h3 => ⟨rfl, ?_⟩) fun h2 => ⟨rfl, ?_⟩
 ·rw [wu8 (by omega) (by omega), w64 (n := c - 65) (by omega) (by omega), w64 (by omega) (by omega)]
  unfold worthS; rw [if_neg h, if_neg hno, if_pos ⟨h2, h3⟩]
 ·unfold worthS; rw [if_neg h, if_neg hno, if_neg (by omega)]
 ·unfold worthS; rw [if_neg h, if_neg hno, if_neg (by omega)]
end
end Nd
end Go.Proofs.YtjngdcilnipjcaaGreatDoor
/- Layer 4's texts of version 6 (the document's): one group, what stands behind it, the sixteen bytes; for the texts of the document's table. -/
namespace Go.Eng
open Go Go.RowKit
def hexN (s : ByteArray) (p : Nat) : Nat → Int
 | 0 => 0
 | k + 1 => 16 * hexN s p k + worthS (ch s (p + k))
theorem worthS_lt (c : Int) : worthS c < 16 := by
 unfold worthS
 by_cases h : isDigit c
 ·rw [if_pos h]; unfold isDigit at h; omega
 ·rw [if_neg h]
  split
  ·omega
  ·split <;> omega
theorem hexN_bound {s : ByteArray} {p : Nat} : ∀ k, (∀ i, i < k → 0 ≤ worthS (ch s (p + i))) → 0 ≤ hexN s p k ∧ hexN s p k < 16 ^ k
 | 0, _ => by simp [hexN]
 | k + 1, h => by
  have ih := hexN_bound k fun i hi => h i (by omega)
  have hk := h k (by omega)
  have h2 := worthS_lt (ch s (p + k))
  have e : (16 : Int) ^ (k + 1) = 16 ^ k * 16 := Int.pow_succ _ _
  unfold hexN
  omega
theorem pow16_le {k : Nat} (h : k ≤ 4) : (16 : Int) ^ k ≤ 65536 := by
 match k, h with
 | 0, _ => decide
 | 1, _ => decide
 | 2, _ => decide
 | 3, _ => decide
 | 4, _ => decide
def sixC (s : ByteArray) (A : Option Addr) (n c : Nat) (gap p at_ : Int) : List Value := [.string s, .slice A n c, .int .i64 gap, .int .i64 p, .int .i64 0, .int .i64 at_]
def headIP (v : Int) : IPV := ⟨6, v / 256, v % 256, 0, 0, 0, 0, 0, 0, 0, 0, 0, 0, 0, 0, 0, 0⟩
def tailIP (v : Int) : IPV := ⟨6, 0, 0, 0, 0, 0, 0, 0, 0, 0, 0, 0, 0, 0, 0, v / 256, v % 256⟩
def noneIP : IPV := ⟨6, 0, 0, 0, 0, 0, 0, 0, 0, 0, 0, 0, 0, 0, 0, 0, 0⟩
end Go.Eng
namespace Go.Proofs.YtjngdcilnipjcaaGreatDoor
namespace Nd
open Go.Eng Go.RowKit
section
variable {w : World} {g : Nat} {s : ByteArray} {A : Option Addr} {n c p k : Nat} {gap at_ : Int}
theorem room_spec {p : Int} (hb : Blk w g 177 (sixC s A n c gap p at_)) : Calls Tryz.prog 142 #[.pointer (some ⟨g, 0, none⟩)] w fun e w' => w = w' ∧ ∃ r, 7 ≤ r ∧ e = .returned (.int .i64 r) := by
 refine weirref4_six_room_of _ w _ ?_
 unfold weirref4_six_room_VC
 exact ⟨_, rfl, _, hb.cell 2, Br.dec (fun _ => ⟨rfl, 7, by decide, rfl⟩) fun _ => ⟨rfl, 8, by decide, rfl⟩⟩
theorem group_spec (hb : Blk w g 177 (sixC s none 0 0 gap (p : Int) at_)) (hz : s.size ≤ 1000) (h0 : 0 < k) (h4 : k ≤ 4) (hs : p + k ≤ s.size) (hd : ∀ i, i < k → 0 ≤ worthS (ch s (p + i)))
  (hend : p + k < s.size → worthS (ch s (p + k)) < 0 ∧ ch s (p + k) ≠ 46) :
  Calls Tryz.prog 135 #[.pointer (some ⟨g, 0, none⟩)] w fun e w' => Mod (fun i => i = g) w w' ∧ e = .returned (.bool (decide (p + k = s.size))) ∧
   ∃ A c, Blk w' g 177 (sixC s A 1 c gap ((p + k : Nat) : Int) at_) ∧ w'.ownsRow w.heap.size 3 1 (.slice A 1 c) 1 [.int .i64 (hexN s p k)] := by
 refine weirref4_six_group_of _ w _ ?_
 unfold weirref4_six_group_VC
 refine ⟨_, rfl, _, hb.cell 3, ?_⟩
 refine JoinVC.of (fun st w' => w = w' ∧ st = (((p + k : Nat) : Int), hexN s p k)) ?_ ?_
 ·refine LoopVC.of (fun st w' => w = w' ∧ ∃ i : Nat, i ≤ k ∧ st = (((p + i : Nat) : Int), hexN s p i)) (fun st _ => (((p + k : Nat) : Int) - st.1).toNat) ⟨rfl, 0, by omega, rfl⟩ ?_
  rintro _ _ ⟨rfl, i, hi, rfl⟩
  show weirref4_six_group_L60 _ _ _ ((p + i : Nat) : Int) (hexN s p i) w _
  unfold weirref4_six_group_L60
  have fin : i = k → (fun (st : Int × Int) (w' : World) => w = w' ∧ st = (((p + k : Nat) : Int), hexN s p k)) (((p + i : Nat) : Int), hexN s p i) w := fun h => by subst h; exact ⟨rfl, rfl⟩
  have hcb := ch_bounds s (p + i)
  refine ⟨_, rfl, _, hb.cell 0, Br.dec (fun h => ?_) fun h => fin (by omega)⟩
  refine ⟨_, rfl, _, hb.cell 0, StrIdxVC.of (by omega) ?_⟩
  refine (worth_spec hcb.1 hcb.2).mono ?_
  rintro _ _ ⟨rfl, rfl⟩
  refine ⟨_, rfl, Br.dec (fun h1 => ?_) fun h1 => fin ?_⟩
  ·have hik : i < k := by
    rcases Nat.lt_or_ge i k with h' | h'
    ·exact h'
    ·have : i = k := by omega
     subst this
     have := (hend (by omega)).1
     omega
   refine ⟨_, rfl, _, hb.cell 3, Br.yes ?_ ?_⟩
   ·rw [w64 (by omega) (by omega)]; omega
   refine ⟨_, rfl, _, hb.cell 0, StrIdxVC.of (by omega) ?_⟩
   refine (worth_spec hcb.1 hcb.2).mono ?_
   rintro _ _ ⟨rfl, rfl⟩
   have hN := hexN_bound (s := s) (p := p) i fun j hj => hd j (by omega)
   have hP := pow16_le (k := i) (by omega)
   have hw := worthS_lt (ch s (p + i))
   refine ⟨_, rfl, ⟨rfl, i + 1, by omega, ?_⟩, ?_⟩
   ·rw [w64 (n := 16 * hexN s p i) (by omega) (by omega), w64 (n := 16 * hexN s p i + _) (by omega) (by omega), w64 (by omega) (by omega), show (((p + (i + 1) : Nat) : Int)) = ((p + i : Nat) : Int) + 1 by omega]
    rfl
   ·show (((p + k : Nat) : Int) - IntKind.i64.wrap _).toNat < (((p + k : Nat) : Int) - ((p + i : Nat) : Int)).toNat
    rw [w64 (by omega) (by omega)]; omega
  ·rcases Nat.lt_or_ge i k with h' | h'
   ·exact absurd (hd i h') h1
   ·omega
 rintro _ _ ⟨rfl, rfl⟩
 show weirref4_six_group_J15 _ _ ((p + k : Nat) : Int) (hexN s p k) w
 unfold weirref4_six_group_J15
 refine ⟨_, rfl, _, hb.cell 3, Br.no (by omega) ?_⟩
 refine JoinVC.of (fun st w' => w = w' ∧ st = false) ?_ ?_
 ·refine ⟨_, rfl, _, hb.cell 0, Br.dec (fun h => ⟨_, rfl, _, hb.cell 0, StrIdxVC.of (by omega) (Br.no (hend (by omega)).2 ⟨rfl, rfl⟩)⟩) fun _ => ⟨rfl, rfl⟩⟩
 rintro _ _ ⟨rfl, rfl⟩
 unfold weirref4_six_group_J63
 refine JoinVC.of (fun st w' => w = w' ∧ st = 1) (Br.f rfl ⟨rfl, rfl⟩) ?_
 rintro _ _ ⟨rfl, rfl⟩
 unfold weirref4_six_group_J255
 refine DrawVC.of (fun w' => Ext w w') fun w1 hE1 _ => ⟨hE1, ?_⟩
 refine ⟨_, rfl, _, _, _, fun w' h => (hb.ext h).cell 1, ?_⟩
 refine (room_spec (hb.ext hE1)).mono ?_
 rintro _ _ ⟨rfl, r, hr, rfl⟩
 refine ⟨_, rfl, hE1, Br.no ?_ (Br.f rfl ?_)⟩
 ·rw [w64 (by omega) (by omega)]; omega
 have hb1 := hb.ext hE1
 refine ⟨_, rfl, _, hb1.cell 3, Br.no ?_ ?_⟩
 ·rw [w64 (by omega) (by omega)]; omega
 refine ⟨_, rfl, _, _, _, hb1.cell 1, ?_⟩
 refine AppVC.one (base := w.heap.size) Tryz.underlying83 tyInt rfl (World.ownsRow_nil _ _ _ _) rfl (by decide) (by decide) hE1.size fun A2 c2 w2 hown2 hm2 _ => ?_
 have hE2 : Ext w1 w2 := hm2.mono fun i _ h => by simp [Value.ownBlock] at h
 have hglt := hb.lt
 have hb2 := hb1.ext hE2
 refine ⟨_, rfl, SetVC.blk (g := g) (i := 1) hb2 (by simp [sixC]) fun w3 hz3 hm3 hb3 => ⟨_, rfl, SetVC.blk (g := g) (i := 3) hb3 (by simp [sixC]) fun w4 hz4 hm4 hb4 => ⟨_, rfl, _, hb4.cell 0, ?_⟩⟩⟩
 have hM := ((hE1.ext hE2).to (fun i => i = g)).trans (hm3.trans hm4)
 refine ⟨hM, ?_, A2, c2, hb4, ?_⟩
 ·have : decide (((p + k : Nat) : Int) = (s.size : Int)) = decide (p + k = s.size) := by
   by_cases h : p + k = s.size
   ·simp [h]
   ·rw [decide_eq_false h, decide_eq_false (by omega)]
  rw [this]
 ·refine own_mod hown2 (hm3.trans hm4) fun i hi => ?_
  have := own_new hown2 i hi
  omega
theorem between_spec {p : Nat} (hb : Blk w g 177 (sixC s A 1 c (-1) (p : Int) at_)) (hz : s.size ≤ 1000) (hs : p + 1 < s.size) (h1 : ch s p = 58) (h2 : ch s (p + 1) = 58) :
  Calls Tryz.prog 136 #[.pointer (some ⟨g, 0, none⟩)] w fun e w' => Mod (fun i => i = g) w w' ∧ e = .returned (.bool (decide (p + 2 = s.size))) ∧
   Blk w' g 177 (sixC s A 1 c 1 ((p + 2 : Nat) : Int) at_) := by
 refine weirref4_six_between_of _ w _ ?_
 unfold weirref4_six_between_VC
 refine DrawVC.of (fun w' => Ext w w') fun w1 hE1 _ => ⟨hE1, ?_⟩
 refine ⟨_, rfl, _, fun w' h => (hb.ext h).cell 0, _, rfl, _, fun w' h => (hb.ext h).cell 3, ?_⟩
 refine (two_spec s p hz (by omega)).mono ?_
 rintro _ _ ⟨rfl, rfl⟩
 refine ⟨_, rfl, hE1, ?_⟩
 have hb1 := hb.ext hE1
 refine JoinVC.of (fun st w' => w1 = w' ∧ st = false) (Br.yes ⟨hs, h1, h2⟩ ⟨_, rfl, _, hb1.cell 2, Br.no (by decide) ⟨_, rfl, _, _, _, hb1.cell 1, rfl, rfl⟩⟩) ?_
 rintro _ _ ⟨rfl, rfl⟩
 unfold weirref4_six_between_J28
 refine Br.f rfl (Br.yes ⟨hs, h1, h2⟩ ?_)
 refine ⟨_, rfl, _, _, _, hb1.cell 1, _, rfl, SetVC.blk (g := g) (i := 2) hb1 (by simp [sixC]) fun w2 hz2 hm2 hb2 => ⟨_, rfl, _, hb2.cell 3, _, rfl, SetVC.blk (g := g) (i := 3) hb2 (by simp [sixC]) fun w3 hz3 hm3 hb3 => ?_⟩⟩
 have e1 : IntKind.i64.wrap ((p : Int) + 2) = ((p + 2 : Nat) : Int) := by rw [w64 (by omega) (by omega)]; omega
 rw [e1] at hb3
 refine DrawVC.of (fun w' => Ext w3 w') fun w4 hE4 _ => ⟨hE4, ?_⟩
 refine ⟨_, rfl, _, fun w' h => (hb3.ext h).cell 3, _, rfl, _, fun w' h => (hb3.ext h).cell 0, ?_⟩
 refine ⟨((hE1.to _).trans (hm2.trans hm3)).ext hE4, ?_, hb3.ext hE4⟩
 have : decide (((p + 2 : Nat) : Int) = (s.size : Int)) = decide (p + 2 = s.size) := by
  by_cases h : p + 2 = s.size
  ·simp [h]
  ·rw [decide_eq_false h, decide_eq_false (by omega)]
 rw [this]
end
end Nd
end Go.Proofs.YtjngdcilnipjcaaGreatDoor
/- Layer 4's texts of version 6 (the document's): the sixteen bytes; ParseIP. -/
namespace Go.Eng
open Go Go.RowKit
end Go.Eng
namespace Go.Proofs.YtjngdcilnipjcaaGreatDoor
namespace Nd
open Go.Eng Go.RowKit
section
variable {w : World} {g : Nat} {s : ByteArray} {A : Option Addr} {n c p k : Nat} {gap at_ : Int}
theorem sixes_end {w0 : World} {g1 g2 g3 : Nat} {gs : List Int} {P : IPV} {pp : Int} (hE : Ext w0 w) (h1g : w0.heap.size ≤ g1) (h2g : w0.heap.size ≤ g2) (h12 : g1 ≠ g2) (_ : g1 ≠ g3) (h23 : g2 ≠ g3)
  (hb1 : Blk w g1 22 (List.replicate 16 (.int .u8 0))) (hb2 : Blk w g2 22 (List.replicate 16 (.int .u8 0))) (hb3 : Blk w g3 177 (sixC s A n c gap pp at_))
  (hgap : 0 ≤ gap ∧ gap ≤ 1) (hg : Cells w A (gs.map (.int .i64))) (hA2 : ∀ a, A = some a → 0 < gs.length → a.block ≠ g2) (hl : gs.length = n)
  (hP : gs = [] ∧ P = noneIP ∨ ∃ v, 0 ≤ v ∧ v < 65536 ∧ gs = [v] ∧ P = if gap = 0 then tailIP v else headIP v) :
  weirref4_sixes_J255 (fun e w' => Ext w0 w' ∧ e = .returned (.tuple #[P.arr, .int .i64 0, .int .i64 0])) g1 g2 g3 w := by
 unfold weirref4_sixes_J255
 refine ⟨_, rfl, _, hb3.cell 4, Br.no (by decide) ?_⟩
 refine LoopVC.of (fun st w' => Mod (fun k => k = g2) w w' ∧ (st = 0 ∧ Blk w' g2 22 (List.replicate 16 (.int .u8 0)) ∧ 0 < gs.length ∨ st = n ∧ Blk w' g2 22 P.row)) (fun st _ => ((n : Int) - st).toNat) ?_ ?_
 ·refine ⟨Mod.refl _ _, ?_⟩
  rcases hP with ⟨h, h'⟩ | ⟨v, _, _, h, _⟩
  ·subst h; subst h'
   exact .inr ⟨by simp at hl; omega, hb2⟩
  ·exact .inl ⟨rfl, hb2, by rw [h]; simp⟩
 rintro st w1 ⟨hm1, hst⟩
 have hb3' := hb3.mod hm1 (fun e => h23 e.symm)
 have hg' : Cells w1 A (gs.map (.int .i64)) := hg.mod hm1 fun a ha h0 => hA2 a ha (by simpa using h0)
 rcases hst with ⟨rfl, hz, hpos⟩ | ⟨rfl, hz⟩
 ·obtain ⟨v, hv0, hv1, hgs, hPv⟩ : ∃ v, 0 ≤ v ∧ v < 65536 ∧ gs = [v] ∧ P = if gap = 0 then tailIP v else headIP v := by
   rcases hP with ⟨h, -⟩ | h
   ·rw [h] at hpos; simp at hpos
   ·exact h
  have hn : n = 1 := by rw [← hl, hgs]; rfl
  subst hn
  rw [hgs] at hg'
  show weirref4_sixes_L8186 _ g1 g2 g3 0 w1 _
  unfold weirref4_sixes_L8186
  refine ⟨_, rfl, _, _, _, hb3'.cell 1, Br.yes (by decide) ?_⟩
  refine JoinVC.of (fun st w' => w1 = w' ∧ st = if gap = 0 then 7 else 0) ?_ ?_
  ·refine ⟨_, rfl, _, hb3'.cell 2, Br.yes (by omega) ⟨_, rfl, _, hb3'.cell 2, Br.dec (fun h => ⟨_, rfl, _, _, _, hb3'.cell 1, rfl, ?_⟩) fun h => ⟨rfl, ?_⟩⟩⟩
   ·rw [if_pos (by omega)]; decide
   ·rw [if_neg (by omega)]
  rintro _ _ ⟨rfl, rfl⟩
  unfold weirref4_sixes_J261961
  have d1 : IntKind.u8.wrap (IntKind.i64.wrap (Int.tdiv v 256)) = v / 256 := by
   rw [Int.tdiv_eq_ediv_of_nonneg hv0, w64 (by omega) (by omega), wu8 (by omega) (by omega)]
  have d2 : IntKind.u8.wrap (Int.tmod v 256) = v % 256 := by
   rw [Int.tmod_eq_emod_of_nonneg hv0, wu8 (by omega) (by omega)]
  refine ⟨_, rfl, _, _, _, hb3'.cell 1, ?_⟩
  refine IdxVC.int hg' (by decide) (by decide) rfl fun a ha => ⟨_, ha, ?_⟩
  have hk : (if gap = 0 then (7 : Int) else 0) = 7 ∧ gap = 0 ∨ (if gap = 0 then (7 : Int) else 0) = 0 ∧ gap = 1 := by
   by_cases h : gap = 0
   ·exact .inl ⟨if_pos h, h⟩
   ·exact .inr ⟨if_neg h, by omega⟩
  have rest : ∀ (q : Nat) (Q : IPV), Q = P → q + 1 < 16 → (((List.replicate 16 (Value.int .u8 0)).set q (.int .u8 (v / 256))).set (q + 1) (.int .u8 (v % 256))) = Q.row →
    IdxVC (some ⟨g2, 0, none⟩) 16 1 (q : Int) fun a1 => SetVC w1 a1 (.int .u8 (IntKind.u8.wrap (IntKind.i64.wrap (Int.tdiv v 256)))) fun w35 =>
     NilVC (some ⟨g3, 0, none⟩) fun p15 => ∃ (xA4 : Option Addr) (xn4 xc4 : Nat), w35.cell? (p15.add 1) = some (.slice xA4 xn4 xc4) ∧ IdxVC xA4 xn4 1 0 fun a2 => ∃ x22 : Int, w35.cell? a2 = some (.int .i64 x22) ∧
     IdxVC (some ⟨g2, 0, none⟩) 16 1 ((q + 1 : Nat) : Int) fun a3 => SetVC w35 a3 (.int .u8 (IntKind.u8.wrap (Int.tmod x22 256))) fun w36 =>
     (Mod (fun k => k = g2) w w36 ∧ ((IntKind.i64.wrap (0 + 1) : Int) = 0 ∧ Blk w36 g2 22 (List.replicate 16 (.int .u8 0)) ∧ 0 < gs.length ∨ IntKind.i64.wrap (0 + 1) = ((1 : Nat) : Int) ∧ Blk w36 g2 22 P.row)) ∧ (((1 : Nat) : Int) - IntKind.i64.wrap (0 + 1)).toNat < (((1 : Nat) : Int) - 0).toNat := by
   intro q Q hQ hq hset
   refine IdxVC.blk (by omega) (by omega) ?_
   rw [d1]
   refine SetVC.blk hz (by simp; omega) fun w2 hz2 hm2 hb22 => ?_
   refine ⟨_, rfl, _, _, _, (hb3'.mod hm2 (fun e => h23 e.symm)).cell 1, ?_⟩
   refine IdxVC.int (hg'.mod hm2 fun a ha h0 => hA2 a ha (by rw [hgs]; exact Nat.one_pos)) (by decide) (by decide) rfl fun a3 ha3 => ⟨_, ha3, ?_⟩
   refine IdxVC.blk (by omega) (by omega) ?_
   show SetVC w2 _ (.int .u8 (IntKind.u8.wrap (Int.tmod v 256))) _
   rw [d2]
   refine SetVC.blk hb22 (by simp; omega) fun w3 hz3 hm3 hb33 => ?_
   refine ⟨⟨hm1.trans (hm2.trans hm3), .inr ⟨by decide, ?_⟩⟩, by decide⟩
   simp only [Int.toNat_natCast] at hb33
   rw [hset] at hb33
   subst hQ
   exact hb33
  rcases hk with ⟨h7, hgp⟩ | ⟨h7, hgp⟩
  ·rw [h7]
   have e1 : IntKind.i64.wrap (2 * 7) = ((14 : Nat) : Int) := by decide
   have e2 : IntKind.i64.wrap (((14 : Nat) : Int) + 1) = ((14 + 1 : Nat) : Int) := by decide
   rw [e1, e2]
   exact rest 14 (tailIP v) (by rw [hPv, if_pos hgp]) (by decide) rfl
  ·rw [h7]
   have e1 : IntKind.i64.wrap (2 * 0) = ((0 : Nat) : Int) := by decide
   have e2 : IntKind.i64.wrap (((0 : Nat) : Int) + 1) = ((0 + 1 : Nat) : Int) := by decide
   rw [e1, e2]
   exact rest 0 (headIP v) (by rw [hPv, if_neg (by omega)]) (by decide) rfl
 ·show weirref4_sixes_L8186 _ g1 g2 g3 (n : Int) w1 _
  unfold weirref4_sixes_L8186
  refine ⟨_, rfl, _, _, _, hb3'.cell 1, Br.no (by omega) ?_⟩
  refine ⟨_, _, _, _, _, _, _, _, _, _, _, _, _, _, _, _, CellsAt.blk hz, ?_⟩
  refine setAll P.row 0 w1 _ _ (hb1.mod hm1 h12) rfl fun w2 hz2 hm2 hb => ?_
  exact ⟨_, _, _, _, _, _, _, _, _, _, _, _, _, _, _, _, CellsAt.blk hb, (hE.set hm1 h2g).set hm2 h1g, rfl⟩
theorem worth58 : worthS 58 = -1 := by decide
theorem sixes_spec {P : IPV} (hz : s.size ≤ 1000)
  (h : (s.size = 2 ∧ ch s 0 = 58 ∧ ch s 1 = 58 ∧ P = noneIP) ∨
   (∃ k, s.size = 2 + k ∧ ch s 0 = 58 ∧ ch s 1 = 58 ∧ 0 < k ∧ k ≤ 4 ∧ (∀ i, i < k → 0 ≤ worthS (ch s (2 + i))) ∧ P = tailIP (hexN s 2 k)) ∨
   (∃ k, s.size = k + 2 ∧ 0 < k ∧ k ≤ 4 ∧ (∀ i, i < k → 0 ≤ worthS (ch s (0 + i))) ∧ ch s k = 58 ∧ ch s (k + 1) = 58 ∧ P = headIP (hexN s 0 k))) :
  Calls Tryz.prog 130 #[.string s] w fun e w' => Ext w w' ∧ e = .returned (.tuple #[P.arr, .int .i64 0, .int .i64 0]) := by
 refine weirref4_sixes_of s w _ ?_
 unfold weirref4_sixes_VC
 refine NewVC.blk fun g1 w1 hg1 hz1 hE1 hb1 => NewVC.blk fun g2 w2 hg2 hz2 hE2 hb2 => NewVC.blk fun g3 w3 hg3 hz3 hE3 hb3 => ?_
 have hb1 : Blk w3 g1 22 (List.replicate 16 (.int .u8 0)) := (hb1.ext hE2).ext hE3
 have hb2 : Blk w3 g2 22 (List.replicate 16 (.int .u8 0)) := hb2.ext hE3
 have hE := (hE1.ext hE2).ext hE3
 have hb3 : Blk w3 g3 177 (sixC s none 0 0 (-1) ((0 : Nat) : Int) 0) := hb3
 refine (two_spec s 0 hz (by decide)).mono ?_
 rintro _ _ ⟨rfl, rfl⟩
 refine ⟨_, rfl, ?_⟩
 /- what the loop hands on -/
 let J : World → Prop := fun w' => ∃ (A : Option Addr) (n c : Nat) (gap pp : Int) (gs : List Int), Ext w w' ∧ Mod (fun i => i = g3) w3 w' ∧ Blk w' g3 177 (sixC s A n c gap pp 0) ∧ (0 ≤ gap ∧ gap ≤ 1) ∧ Cells w' A (gs.map (.int .i64)) ∧ (∀ a, A = some a → 0 < gs.length → w3.heap.size ≤ a.block) ∧ gs.length = n ∧
  (gs = [] ∧ P = noneIP ∨ ∃ v, 0 ≤ v ∧ v < 65536 ∧ gs = [v] ∧ P = if gap = 0 then tailIP v else headIP v)
 have fin : ∀ w', J w' → weirref4_sixes_J127 (fun e w' => Ext w w' ∧ e = .returned (.tuple #[P.arr, .int .i64 0, .int .i64 0])) s g1 g2 g3 w' := by
  rintro w' ⟨A, n, c, gap, pp, gs, hE', hm, hb, hgap, hc, hA, hl, hP⟩
  unfold weirref4_sixes_J127
  refine JoinVC.of (fun _ w'' => w' = w'') ?_ ?_
  ·refine JoinVC.of (fun st w'' => w' = w'' ∧ st = false) ⟨_, rfl, _, hb.cell 4, Br.yes rfl ⟨_, rfl, _, hb.cell 2, Br.no (by omega) ⟨rfl, rfl⟩⟩⟩ ?_
   rintro _ _ ⟨rfl, rfl⟩
   unfold weirref4_sixes_J510
   exact Br.f rfl rfl
  rintro _ _ rfl
  exact sixes_end hE' (by omega) (by omega) (by omega) (by omega) (by omega) (hb1.mod hm (by show ¬ g1 = g3; omega)) (hb2.mod hm (by show ¬ g2 = g3; omega)) hb hgap hc (fun a ha h0 => by have := hA a ha h0; omega) hl hP
 rcases h with ⟨hsz, hc0, hc1, hP⟩ | ⟨k, hsz, hc0, hc1, hk0, hk4, hd, hP⟩ | ⟨k, hsz, hk0, hk4, hd, hc0, hc1, hP⟩
 ·refine JoinVC.of (fun st w' => st = true ∧ J w') ?_ ?_
  ·refine Br.yes ⟨by omega, hc0, hc1⟩ ⟨_, rfl, SetVC.blk (g := g3) (i := 2) hb3 (by simp [sixC]) fun w4 hz4 hm4 hb4 => ⟨_, rfl, SetVC.blk (g := g3) (i := 3) hb4 (by simp [sixC]) fun w5 hz5 hm5 hb5 => ?_⟩⟩
   exact ⟨by rw [decide_eq_true (by omega)], none, 0, 0, 0, 2, [], hE.set (hm4.trans hm5) (by omega), hm4.trans hm5, hb5, by decide, Cells.nil _ _, fun a ha => (by cases ha), rfl, .inl ⟨rfl, hP⟩⟩
  rintro _ w' ⟨rfl, hJ⟩
  unfold weirref4_sixes_J63
  refine JoinVC.of (fun _ w'' => J w'') ?_ (fun _ w'' h => fin w'' h)
  refine LoopVC.of (fun st w'' => st = true ∧ J w'') (fun _ _ => 0) ⟨rfl, hJ⟩ ?_
  rintro _ w'' ⟨rfl, hJ⟩
  show weirref4_sixes_L508 _ g3 _ true w'' _
  unfold weirref4_sixes_L508
  exact Br.f rfl hJ
 ·refine JoinVC.of (fun st w' => st = false ∧ Mod (fun i => i = g3) w3 w' ∧ w'.heap.size = w3.heap.size ∧ Blk w' g3 177 (sixC s none 0 0 0 ((2 : Nat) : Int) 0)) ?_ ?_
  ·refine Br.yes ⟨by omega, hc0, hc1⟩ ⟨_, rfl, SetVC.blk (g := g3) (i := 2) hb3 (by simp [sixC]) fun w4 hz4 hm4 hb4 => ⟨_, rfl, SetVC.blk (g := g3) (i := 3) hb4 (by simp [sixC]) fun w5 hz5 hm5 hb5 => ?_⟩⟩
   exact ⟨by rw [decide_eq_false (by omega)], hm4.trans hm5, by omega, hb5⟩
  rintro _ w' ⟨rfl, hm, hsz', hb⟩
  unfold weirref4_sixes_J63
  refine JoinVC.of (fun _ w'' => J w'') ?_ (fun _ w'' h => fin w'' h)
  refine LoopVC.of (fun st w'' => st = false ∧ w' = w'' ∨ st = true ∧ J w'') (fun st _ => if st then 0 else 1) (.inl ⟨rfl, rfl⟩) ?_
  rintro _ w'' (⟨rfl, rfl⟩ | ⟨rfl, hJ⟩)
  ·show weirref4_sixes_L508 _ g3 _ false w' _
   unfold weirref4_sixes_L508
   refine Br.t rfl ⟨_, rfl, _, hb.cell 4, Br.yes rfl ?_⟩
   refine (group_spec hb hz hk0 hk4 (by omega) hd (fun h => absurd h (by omega))).mono ?_
   rintro _ w4 ⟨hm4, rfl, A, c, hb4, hown⟩
   refine ⟨_, rfl, ?_⟩
   refine JoinVC.of (fun st w'' => st = false ∧ w4 = w'') (Br.f (by simp; omega) ⟨rfl, rfl⟩) ?_
   rintro _ _ ⟨rfl, rfl⟩
   unfold weirref4_sixes_J8133
   have hN := hexN_bound (s := s) (p := 2) k hd
   have hP4 := pow16_le hk4
   refine Br.f rfl ⟨.inr ⟨by rw [decide_eq_true (by omega)], A, 1, c, 0, _, [hexN s 2 k], hE.set (hm.trans hm4) (by omega), hm.trans hm4, hb4, by decide, own_cells hown, fun a ha _ => ?_, rfl, .inr ⟨_, hN.1, by omega, rfl, by rw [if_pos rfl]; exact hP⟩⟩, ?_⟩
   ·have := own_new hown a.block (by rw [ha]; rfl)
    omega
   ·simp; omega
  ·show weirref4_sixes_L508 _ g3 _ true w'' _
   unfold weirref4_sixes_L508
   exact Br.f rfl hJ
 ·have hne : ch s 0 ≠ 58 := fun e => by have := hd 0 hk0; rw [Nat.zero_add, e, worth58] at this; omega
  refine JoinVC.of (fun st w' => st = false ∧ w3 = w') (Br.no (fun h => hne h.2.1) ⟨rfl, rfl⟩) ?_
  rintro _ _ ⟨rfl, rfl⟩
  unfold weirref4_sixes_J63
  refine JoinVC.of (fun _ w'' => J w'') ?_ (fun _ w'' h => fin w'' h)
  refine LoopVC.of (fun st w'' => st = false ∧ w3 = w'' ∨ st = true ∧ J w'') (fun st _ => if st then 0 else 1) (.inl ⟨rfl, rfl⟩) ?_
  rintro _ w'' (⟨rfl, rfl⟩ | ⟨rfl, hJ⟩)
  ·show weirref4_sixes_L508 _ g3 _ false w3 _
   unfold weirref4_sixes_L508
   refine Br.t rfl ⟨_, rfl, _, hb3.cell 4, Br.yes rfl ?_⟩
   refine (group_spec hb3 hz hk0 hk4 (by omega) hd (fun h => ?_)).mono ?_
   ·rw [Nat.zero_add, hc0]; exact ⟨by decide, by decide⟩
   rintro _ w4 ⟨hm4, rfl, A, c, hb4, hown⟩
   refine ⟨_, rfl, ?_⟩
   refine JoinVC.of (fun st w'' => st = true ∧ w4 = w'') (Br.t (by simp; omega) ⟨_, rfl, _, hb4.cell 4, rfl, rfl⟩) ?_
   rintro _ _ ⟨rfl, rfl⟩
   unfold weirref4_sixes_J8133
   refine Br.t rfl ?_
   rw [Nat.zero_add] at hb4
   refine (between_spec hb4 hz (by omega) hc0 hc1).mono ?_
   rintro _ w5 ⟨hm5, rfl, hb5⟩
   have hN := hexN_bound (s := s) (p := 0) k hd
   have hP4 := pow16_le hk4
   have hsz4 := hm4.size
   have hE5 := hE.set (hm4.trans hm5) (by omega)
   have hnew : ∀ a, A = some a → w3.heap.size ≤ a.block := fun a ha => own_new hown a.block (by rw [ha]; rfl)
   refine ⟨_, rfl, .inr ⟨by rw [decide_eq_true (by omega)], A, 1, c, 1, _, [hexN s 0 k], hE5, hm4.trans hm5, hb5, by decide, (own_cells hown).mod hm5 (fun a ha _ => ?_), fun a ha _ => hnew a ha, rfl, .inr ⟨_, hN.1, by omega, rfl, by rw [if_neg (by decide)]; exact hP⟩⟩, ?_⟩
   ·have := hnew a ha
    show ¬ a.block = g3
    omega
   ·simp; omega
  ·show weirref4_sixes_L508 _ g3 _ true w'' _
   unfold weirref4_sixes_L508
   exact Br.f rfl hJ
end
end Nd
end Go.Proofs.YtjngdcilnipjcaaGreatDoor
/- Layer 4 (the document's): ParseIP, bits, prefixes, Contains. -/
namespace Go.Eng
open Go Go.RowKit
def preC (P : IPV) (len : Int) : List Value := P.cells ++ [.int .i64 len]
def preV (P : IPV) (len : Int) : Value := .agg (preC P len).toArray
def bitS (P : IPV) (i : Nat) : Int := P.bytes.getD (i / 8) 0 / 2 ^ (7 - i % 8) % 2
theorem bts_getD {l : List Int} (h : Bts l) (i : Nat) : 0 ≤ l.getD i 0 ∧ l.getD i 0 < 256 := by
 rw [List.getD_eq_getElem?_getD]
 rcases Nat.lt_or_ge i l.length with hi | hi
 ·rw [List.getElem?_eq_getElem hi]; exact h _ (List.getElem_mem hi)
 ·rw [List.getElem?_eq_none hi]; decide
theorem half_step (b j : Nat) : (b : Int) / 2 ^ (j + 1) = (b : Int) / 2 ^ j / 2 := by
 have h : ((b / 2 ^ (j + 1) : Nat) : Int) = ((b / 2 ^ j / 2 : Nat) : Int) := by rw [Nat.pow_succ, Nat.div_div_eq_div_mul]
 push_cast at h
 exact h
theorem half_bd (b j : Nat) (hb : b < 256) : 0 ≤ (b : Int) / 2 ^ j ∧ (b : Int) / 2 ^ j < 256 := by
 have h : ((b / 2 ^ j : Nat) : Int) = (b : Int) / 2 ^ j := by push_cast; rfl
 have hle : b / 2 ^ j ≤ b := Nat.div_le_self _ _
 generalize hq : b / 2 ^ j = q at h hle
 rw [← h]
 omega
end Go.Eng
namespace Go.Proofs.YtjngdcilnipjcaaGreatDoor
namespace Nd
open Go.Eng Go.RowKit
section
variable {w : World} {s : ByteArray} {P ip : IPV} {len : Int}
theorem ParseIP_six (hz : s.size ≤ 45) (hc : hasS s 58 = true) (h6 : P.v = 6)
  (hS : ∀ w : World, Calls Tryz.prog 130 #[.string s] w fun e w' => Ext w w' ∧ e = .returned (.tuple #[P.arr, .int .i64 0, .int .i64 0])) :
  Calls Tryz.prog 115 #[.string s] w fun e w' => Ext w w' ∧ e = .returned (.tuple #[P.val, .int .i64 0, .int .i64 0]) := by
 refine weirref4_ParseIP_of s w _ ?_
 unfold weirref4_ParseIP_VC
 refine NewVC.blk fun g1 w1 hg1 hz1 hE1 hb1 => Br.no (by omega) ?_
 refine (has_spec s 58 (by omega)).mono ?_
 rintro _ _ ⟨rfl, rfl⟩
 refine ⟨_, rfl, Br.t hc ?_⟩
 refine (hS w1).mono ?_
 rintro _ w2 ⟨hE2, rfl⟩
 refine ⟨_, _, _, _, _, _, _, _, _, _, _, _, _, _, _, _, _, _, rfl, ?_⟩
 have s2 := hE2.size
 refine NewVC.blk fun g2 w3 hg2 hz3 hE3 hb3 => ?_
 refine setAll P.row 0 w3 _ _ hb3 rfl fun w4 hz4 hm4 hb4 => ?_
 have hb4 : Blk w4 g2 _ P.row := hb4
 refine Br.no (A := False) (p := (0 : Int) ≠ 0) (by decide) ?_
 refine ⟨_, _, _, _, _, _, _, _, _, _, _, _, _, _, _, _, CellsAt.blk hb4, ?_⟩
 have hE4 := ((hE1.ext hE2).ext hE3).set hm4 (by omega)
 have hb1 := ((hb1.ext hE2).ext hE3).mod hm4 (by show ¬ g1 = g2; omega)
 refine setAll (.int .i64 6 :: P.row) 0 w4 _ _ hb1 rfl fun w5 hz5 hm5 hb5 => ?_
 refine ⟨_, _, _, _, _, _, _, _, _, _, _, _, _, _, _, _, _, CellsAt.blk hb5, hE4.set hm5 (by omega), ?_⟩
 have : P.val = .agg (Value.int .i64 6 :: P.row).toArray := by rw [← h6]; rfl
 rw [this]; rfl
theorem width_spec : Calls Tryz.prog 119 #[P.val] w fun e w' => Ext w w' ∧ e = .returned (.int .i64 (if P.v = 4 then 32 else 128)) := by
 refine weirref4_width_of P.v P.a0 P.a1 P.a2 P.a3 P.a4 P.a5 P.a6 P.a7 P.a8 P.a9 P.a10 P.a11 P.a12 P.a13 P.a14 P.a15 w _ ?_
 unfold weirref4_width_VC
 refine NewVC.blk fun g1 w1 hg1 hz1 hE1 hb1 => ⟨_, hb1.cell 0, Br.dec (fun h => ⟨hE1, ?_⟩) fun h => ⟨hE1, ?_⟩⟩
 ·rw [if_pos h]
 ·rw [if_neg h]
theorem bit_spec {i : Nat} (hi : i < 128) (hB : Bts P.bytes) : Calls Tryz.prog 121 #[P.val, .int .i64 (i : Int)] w fun e w' => Ext w w' ∧ e = .returned (.int .i64 (bitS P i)) := by
 refine weirref4_bit_of P.v P.a0 P.a1 P.a2 P.a3 P.a4 P.a5 P.a6 P.a7 P.a8 P.a9 P.a10 P.a11 P.a12 P.a13 P.a14 P.a15 (i : Int) w _ ?_
 unfold weirref4_bit_VC
 refine NewVC.blk fun g1 w1 hg1 hz1 hE1 hb1 => ?_
 have hc : Cells w1 (some ⟨g1, 1, none⟩) (P.bytes.map (.int .u8)) := Cells.of_blk hb1 1
 have e1 : IntKind.i64.wrap (Int.tdiv (i : Int) 8) = ((i / 8 : Nat) : Int) := by
  rw [Int.tdiv_eq_ediv_of_nonneg (by omega), w64 (by omega) (by omega)]; omega
 have e2 : Int.tmod (i : Int) 8 = ((i % 8 : Nat) : Int) := by
  rw [Int.tmod_eq_emod_of_nonneg (by omega)]; omega
 rw [e1, e2]
 refine IdxVC.int hc (by omega) (by omega) rfl fun a ha => ⟨_, ha, ?_⟩
 have hb := bts_getD hB (i / 8)
 rw [Int.toNat_natCast]
 rw [w64 (n := P.bytes.getD (i / 8) 0) (by omega) (by omega)]
 refine LoopVC.of (fun st w' => w1 = w' ∧ ∃ j : Nat, i % 8 + j ≤ 7 ∧ st = (P.bytes.getD (i / 8) 0 / 2 ^ j, ((i % 8 + j : Nat) : Int))) (fun st _ => ((7 : Int) - st.2).toNat) ⟨rfl, 0, by omega, by simp⟩ ?_
 rintro _ _ ⟨rfl, j, hj, rfl⟩
 show weirref4_bit_L58 _ (P.bytes.getD (i / 8) 0 / 2 ^ j) ((i % 8 + j : Nat) : Int) w1 _
 unfold weirref4_bit_L58
 generalize hbeq : P.bytes.getD (i / 8) 0 = b at hb
 obtain ⟨b, rfl⟩ := Int.eq_ofNat_of_zero_le hb.1
 have hq := half_bd b j (by omega)
 have hstep := half_step b j
 refine Br.dec (fun h => ⟨⟨rfl, j + 1, by omega, ?_⟩, ?_⟩) fun h => ⟨hE1, ?_⟩
 ·rw [hstep]
  generalize (b : Int) / 2 ^ j = x at hq
  rw [Int.tdiv_eq_ediv_of_nonneg hq.1, w64 (n := x / 2) (by omega) (by omega), w64 (by omega) (by omega), show ((i % 8 + (j + 1) : Nat) : Int) = ((i % 8 + j : Nat) : Int) + 1 by omega]
 ·show ((7 : Int) - IntKind.i64.wrap _).toNat < ((7 : Int) - ((i % 8 + j : Nat) : Int)).toNat
  rw [w64 (by omega) (by omega)]; omega
 ·have hj7 : j = 7 - i % 8 := by omega
  have hbit : bitS P i = (b : Int) / 2 ^ j % 2 := by unfold bitS; rw [hbeq, hj7]
  rw [hbit, Int.tmod_eq_emod_of_nonneg hq.1]
end
end Nd
end Go.Proofs.YtjngdcilnipjcaaGreatDoor
