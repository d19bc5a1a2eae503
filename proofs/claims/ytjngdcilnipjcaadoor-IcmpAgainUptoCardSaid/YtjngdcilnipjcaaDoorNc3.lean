/- Layer 4's texts of version 6 (the document's): one group, what stands behind it, the sixteen bytes; for the texts of the document's table. -/
import Derived.Test.YtjngdcilnipjcaaDoorNc2
namespace Go.Eng
open Go Go.RowKit
/-- The number that k hexadecimal digits from p on say. -/
def hexN (s : ByteArray) (p : Nat) : Nat → Int
  | 0 => 0
  | k + 1 => 16 * hexN s p k + worthS (ch s (p + k))
theorem worthS_lt (c : Int) : worthS c < 16 := by
  unfold worthS
  by_cases h : isDigit c
  · rw [if_pos h]; unfold isDigit at h; omega
  · rw [if_neg h]
    split
    · omega
    · split <;> omega
theorem hexN_bound {s : ByteArray} {p : Nat} : ∀ k, (∀ i, i < k → 0 ≤ worthS (ch s (p + i))) → 0 ≤ hexN s p k ∧ hexN s p k < 16 ^ k
  | 0, _ => by simp [hexN]
  | k + 1, h => by
    have ih := hexN_bound k fun i hi => h i (by omega)
    have hk := h k (by omega)
    have h2 := worthS_lt (ch s (p + k))
    have e : (16 : Int) ^ (k + 1) = 16 ^ k * 16 := Int.pow_succ _ _
    unfold hexN
    omega
theorem pow16_le {k : Nat} (h : k ≤ 4) : (16 : Int) ^ k ≤ 65536 := by
  match k, h with
  | 0, _ => decide
  | 1, _ => decide
  | 2, _ => decide
  | 3, _ => decide
  | 4, _ => decide
/-- What a text of version 6 holds on its way. -/
def sixC (s : ByteArray) (A : Option Addr) (n c : Nat) (gap p at_ : Int) : List Value := [.string s, .slice A n c, .int .i64 gap, .int .i64 p, .int .i64 0, .int .i64 at_]
def headIP (v : Int) : IPV := ⟨6, v / 256, v % 256, 0, 0, 0, 0, 0, 0, 0, 0, 0, 0, 0, 0, 0, 0⟩
def tailIP (v : Int) : IPV := ⟨6, 0, 0, 0, 0, 0, 0, 0, 0, 0, 0, 0, 0, 0, 0, v / 256, v % 256⟩
def noneIP : IPV := ⟨6, 0, 0, 0, 0, 0, 0, 0, 0, 0, 0, 0, 0, 0, 0, 0, 0⟩
end Go.Eng
namespace Go.Proofs.YtjngdcilnipjcaaDoor
namespace Nd
open Go.Eng Go.RowKit
section
variable {w : World} {g : Nat} {s : ByteArray} {A : Option Addr} {n c p k : Nat} {gap at_ : Int}
theorem room_spec {p : Int} (hb : Blk w g 203 (sixC s A n c gap p at_)) : Calls Tryd.prog 165 #[.pointer (some ⟨g, 0, none⟩)] w fun e w' => w = w' ∧ ∃ r, 7 ≤ r ∧ e = .returned (.int .i64 r) := by
  refine weirref4_six_room_of _ w _ ?_
  unfold weirref4_six_room_VC
  exact ⟨_, rfl, _, hb.cell 2, Br.dec (fun _ => ⟨rfl, 7, by decide, rfl⟩) fun _ => ⟨rfl, 8, by decide, rfl⟩⟩
/-- One group, where it may stand and nothing is wrong. -/
theorem group_spec (hb : Blk w g 203 (sixC s none 0 0 gap (p : Int) at_)) (hz : s.size ≤ 1000) (h0 : 0 < k) (h4 : k ≤ 4) (hs : p + k ≤ s.size) (hd : ∀ i, i < k → 0 ≤ worthS (ch s (p + i)))
    (hend : p + k < s.size → worthS (ch s (p + k)) < 0 ∧ ch s (p + k) ≠ 46) :
    Calls Tryd.prog 158 #[.pointer (some ⟨g, 0, none⟩)] w fun e w' => Mod (fun i => i = g) w w' ∧ e = .returned (.bool (decide (p + k = s.size))) ∧
      ∃ A c, Blk w' g 203 (sixC s A 1 c gap ((p + k : Nat) : Int) at_) ∧ w'.ownsRow w.heap.size 3 1 (.slice A 1 c) 1 [.int .i64 (hexN s p k)] := by
  refine weirref4_six_group_of _ w _ ?_
  unfold weirref4_six_group_VC
  refine ⟨_, rfl, _, hb.cell 3, ?_⟩
  refine JoinVC.of (fun st w' => w = w' ∧ st = (((p + k : Nat) : Int), hexN s p k)) ?_ ?_
  · refine LoopVC.of (fun st w' => w = w' ∧ ∃ i : Nat, i ≤ k ∧ st = (((p + i : Nat) : Int), hexN s p i)) (fun st _ => (((p + k : Nat) : Int) - st.1).toNat) ⟨rfl, 0, by omega, rfl⟩ ?_
    rintro _ _ ⟨rfl, i, hi, rfl⟩
    show weirref4_six_group_L60 _ _ _ ((p + i : Nat) : Int) (hexN s p i) w _
    unfold weirref4_six_group_L60
    have fin : i = k → (fun (st : Int × Int) (w' : World) => w = w' ∧ st = (((p + k : Nat) : Int), hexN s p k)) (((p + i : Nat) : Int), hexN s p i) w := fun h => by subst h; exact ⟨rfl, rfl⟩
    have hcb := ch_bounds s (p + i)
    refine ⟨_, rfl, _, hb.cell 0, Br.dec (fun h => ?_) fun h => fin (by omega)⟩
    refine ⟨_, rfl, _, hb.cell 0, StrIdxVC.of (by omega) ?_⟩
    refine (worth_spec hcb.1 hcb.2).mono ?_
    rintro _ _ ⟨rfl, rfl⟩
    refine ⟨_, rfl, Br.dec (fun h1 => ?_) fun h1 => fin ?_⟩
    · have hik : i < k := by
        rcases Nat.lt_or_ge i k with h' | h'
        · exact h'
        · have : i = k := by omega
          subst this
          have := (hend (by omega)).1
          omega
      refine ⟨_, rfl, _, hb.cell 3, Br.yes ?_ ?_⟩
      · rw [w64 (by omega) (by omega)]; omega
      refine ⟨_, rfl, _, hb.cell 0, StrIdxVC.of (by omega) ?_⟩
      refine (worth_spec hcb.1 hcb.2).mono ?_
      rintro _ _ ⟨rfl, rfl⟩
      have hN := hexN_bound (s := s) (p := p) i fun j hj => hd j (by omega)
      have hP := pow16_le (k := i) (by omega)
      have hw := worthS_lt (ch s (p + i))
      refine ⟨_, rfl, ⟨rfl, i + 1, by omega, ?_⟩, ?_⟩
      · rw [w64 (n := 16 * hexN s p i) (by omega) (by omega), w64 (n := 16 * hexN s p i + _) (by omega) (by omega), w64 (by omega) (by omega), show (((p + (i + 1) : Nat) : Int)) = ((p + i : Nat) : Int) + 1 by omega]
        rfl
      · show (((p + k : Nat) : Int) - IntKind.i64.wrap _).toNat < (((p + k : Nat) : Int) - ((p + i : Nat) : Int)).toNat
        rw [w64 (by omega) (by omega)]; omega
    · rcases Nat.lt_or_ge i k with h' | h'
      · exact absurd (hd i h') h1
      · omega
  rintro _ _ ⟨rfl, rfl⟩
  show weirref4_six_group_J15 _ _ ((p + k : Nat) : Int) (hexN s p k) w
  unfold weirref4_six_group_J15
  refine ⟨_, rfl, _, hb.cell 3, Br.no (by omega) ?_⟩
  refine JoinVC.of (fun st w' => w = w' ∧ st = false) ?_ ?_
  · refine ⟨_, rfl, _, hb.cell 0, Br.dec (fun h => ⟨_, rfl, _, hb.cell 0, StrIdxVC.of (by omega) (Br.no (hend (by omega)).2 ⟨rfl, rfl⟩)⟩) fun _ => ⟨rfl, rfl⟩⟩
  rintro _ _ ⟨rfl, rfl⟩
  unfold weirref4_six_group_J63
  refine JoinVC.of (fun st w' => w = w' ∧ st = 1) (Br.f rfl ⟨rfl, rfl⟩) ?_
  rintro _ _ ⟨rfl, rfl⟩
  unfold weirref4_six_group_J255
  refine DrawVC.of (fun w' => Ext w w') fun w1 hE1 _ => ⟨hE1, ?_⟩
  refine ⟨_, rfl, _, _, _, fun w' h => (hb.ext h).cell 1, ?_⟩
  refine (room_spec (hb.ext hE1)).mono ?_
  rintro _ _ ⟨rfl, r, hr, rfl⟩
  refine ⟨_, rfl, hE1, Br.no ?_ (Br.f rfl ?_)⟩
  · rw [w64 (by omega) (by omega)]; omega
  have hb1 := hb.ext hE1
  refine ⟨_, rfl, _, hb1.cell 3, Br.no ?_ ?_⟩
  · rw [w64 (by omega) (by omega)]; omega
  refine ⟨_, rfl, _, _, _, hb1.cell 1, ?_⟩
  refine AppVC.one (base := w.heap.size) Tryd.underlying108 tyInt rfl (World.ownsRow_nil _ _ _ _) rfl (by decide) (by decide) hE1.size fun A2 c2 w2 hown2 hm2 _ => ?_
  have hE2 : Ext w1 w2 := hm2.mono fun i _ h => by simp [Value.ownBlock] at h
  have hglt := hb.lt
  have hb2 := hb1.ext hE2
  refine ⟨_, rfl, SetVC.blk (g := g) (i := 1) hb2 (by simp [sixC]) fun w3 hz3 hm3 hb3 => ⟨_, rfl, SetVC.blk (g := g) (i := 3) hb3 (by simp [sixC]) fun w4 hz4 hm4 hb4 => ⟨_, rfl, _, hb4.cell 0, ?_⟩⟩⟩
  have hM := ((hE1.ext hE2).to (fun i => i = g)).trans (hm3.trans hm4)
  refine ⟨hM, ?_, A2, c2, hb4, ?_⟩
  · have : decide (((p + k : Nat) : Int) = (s.size : Int)) = decide (p + k = s.size) := by
      by_cases h : p + k = s.size
      · simp [h]
      · rw [decide_eq_false h, decide_eq_false (by omega)]
    rw [this]
  · refine own_mod hown2 (hm3.trans hm4) fun i hi => ?_
    have := own_new hown2 i hi
    omega
/-- Behind the first group: two colons. -/
theorem between_spec {p : Nat} (hb : Blk w g 203 (sixC s A 1 c (-1) (p : Int) at_)) (hz : s.size ≤ 1000) (hs : p + 1 < s.size) (h1 : ch s p = 58) (h2 : ch s (p + 1) = 58) :
    Calls Tryd.prog 159 #[.pointer (some ⟨g, 0, none⟩)] w fun e w' => Mod (fun i => i = g) w w' ∧ e = .returned (.bool (decide (p + 2 = s.size))) ∧
      Blk w' g 203 (sixC s A 1 c 1 ((p + 2 : Nat) : Int) at_) := by
  refine weirref4_six_between_of _ w _ ?_
  unfold weirref4_six_between_VC
  refine DrawVC.of (fun w' => Ext w w') fun w1 hE1 _ => ⟨hE1, ?_⟩
  refine ⟨_, rfl, _, fun w' h => (hb.ext h).cell 0, _, rfl, _, fun w' h => (hb.ext h).cell 3, ?_⟩
  refine (two_spec s p hz (by omega)).mono ?_
  rintro _ _ ⟨rfl, rfl⟩
  refine ⟨_, rfl, hE1, ?_⟩
  have hb1 := hb.ext hE1
  refine JoinVC.of (fun st w' => w1 = w' ∧ st = false) (Br.yes ⟨hs, h1, h2⟩ ⟨_, rfl, _, hb1.cell 2, Br.no (by decide) ⟨_, rfl, _, _, _, hb1.cell 1, rfl, rfl⟩⟩) ?_
  rintro _ _ ⟨rfl, rfl⟩
  unfold weirref4_six_between_J28
  refine Br.f rfl (Br.yes ⟨hs, h1, h2⟩ ?_)
  refine ⟨_, rfl, _, _, _, hb1.cell 1, _, rfl, SetVC.blk (g := g) (i := 2) hb1 (by simp [sixC]) fun w2 hz2 hm2 hb2 => ⟨_, rfl, _, hb2.cell 3, _, rfl, SetVC.blk (g := g) (i := 3) hb2 (by simp [sixC]) fun w3 hz3 hm3 hb3 => ?_⟩⟩
  have e1 : IntKind.i64.wrap ((p : Int) + 2) = ((p + 2 : Nat) : Int) := by rw [w64 (by omega) (by omega)]; omega
  rw [e1] at hb3
  refine DrawVC.of (fun w' => Ext w3 w') fun w4 hE4 _ => ⟨hE4, ?_⟩
  refine ⟨_, rfl, _, fun w' h => (hb3.ext h).cell 3, _, rfl, _, fun w' h => (hb3.ext h).cell 0, ?_⟩
  refine ⟨((hE1.to _).trans (hm2.trans hm3)).ext hE4, ?_, hb3.ext hE4⟩
  have : decide (((p + 2 : Nat) : Int) = (s.size : Int)) = decide (p + 2 = s.size) := by
    by_cases h : p + 2 = s.size
    · simp [h]
    · rw [decide_eq_false h, decide_eq_false (by omega)]
  rw [this]
end
end Nd
end Go.Proofs.YtjngdcilnipjcaaDoor
