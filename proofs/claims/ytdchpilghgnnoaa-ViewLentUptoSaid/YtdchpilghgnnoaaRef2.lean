/- Contracts of the document's own answer for Fields, Pack and Window (package weirref1). -/
import Derived.Test.YtdchpilghgnnoaaRef1
namespace Go.Eng
/-- The bits of a number out of bits. -/
theorem bit_of_fieldV {f : Nat → Int} (hf : ∀ i, 0 ≤ f i ∧ f i < 2) (p j : Nat) (hj : j < 8) : (fieldV f p 8 / 2 ^ (7 - j)) % 2 = f (p + j) := by
  have h0 := hf (p + 0)
  have h1 := hf (p + 1)
  have h2 := hf (p + 2)
  have h3 := hf (p + 3)
  have h4 := hf (p + 4)
  have h5 := hf (p + 5)
  have h6 := hf (p + 6)
  have h7 := hf (p + 7)
  simp only [fieldV]
  match j, hj with
  | 0, _ => simp only [Int.reducePow, Nat.sub_zero]; omega
  | 1, _ => simp only [Int.reducePow, Nat.reduceSub]; omega
  | 2, _ => simp only [Int.reducePow, Nat.reduceSub]; omega
  | 3, _ => simp only [Int.reducePow, Nat.reduceSub]; omega
  | 4, _ => simp only [Int.reducePow, Nat.reduceSub]; omega
  | 5, _ => simp only [Int.reducePow, Nat.reduceSub]; omega
  | 6, _ => simp only [Int.reducePow, Nat.reduceSub]; omega
  | 7, _ => simp only [Int.reducePow, Nat.reduceSub]; omega
/-- A row of bits. -/
def Row01 (row : List Int) : Prop := ∀ x ∈ row, 0 ≤ x ∧ x < 2
theorem Row01.at {row : List Int} (h : Row01 row) (i : Nat) : 0 ≤ row.getD i 0 ∧ row.getD i 0 < 2 := by
  by_cases hi : i < row.length
  · have e : row.getD i 0 = row[i] := by simp [hi]
    rw [e]; exact h _ (List.getElem_mem hi)
  · have e : row.getD i 0 = 0 := by simp [Nat.le_of_not_lt hi]
    omega
theorem Row01.snoc {row : List Int} (h : Row01 row) {b : Int} (h0 : 0 ≤ b) (h1 : b < 2) : Row01 (row ++ [b]) := by
  intro x hx
  rcases List.mem_append.1 hx with hx | hx
  · exact h x hx
  · simp at hx; omega
theorem getD_append_left {row : List Int} {q : Nat} (h : q < row.length) (l : List Int) : (row ++ l).getD q 0 = row.getD q 0 := by
  simp [List.getElem?_append_left h]
theorem getD_snoc (row : List Int) (b : Int) : (row ++ [b]).getD row.length 0 = b := by simp
theorem bitAt_rows {row l : List Int} {t : Nat} (hr : Row01 row) (hl : l = (List.range t).map fun q => fieldV (fun i => row.getD i 0) (8 * q) 8) {i : Nat} (hi : i < 8 * t) : bitAt l i = row.getD i 0 := by
  subst hl
  unfold bitAt
  have e : ((List.range t).map fun q => fieldV (fun i => row.getD i 0) (8 * q) 8).getD (i / 8) 0 = fieldV (fun i => row.getD i 0) (8 * (i / 8)) 8 := by
    simp [List.getD_eq_getElem?_getD, show i / 8 < t by omega]
  rw [e, bit_of_fieldV hr.at _ _ (by omega)]
  rw [show 8 * (i / 8) + i % 8 = i by omega]
end Go.Eng
namespace Go.Proofs.Ytdchpilghgnnoaa
open Go.Eng Go.RowKit

theorem refFields_spec {A W : Option Addr} {n c m d : Nat} {p : Int} {bs ws : List Int} {w : World} (hb : Cells w A (bs.map (.int .u8))) (hl : bs.length = n) (hB : Bts bs) (hn : n ≤ 140737488355328)
    (hws : Cells w W (ws.map (.int .i64))) (hm : ws.length = m) :
    Calls Try.prog 68 #[.slice A n c, .int .i64 p, .slice W m d] w fun e w' => Ext w w' ∧
      ((widthsOk ws ∧ 0 ≤ p ∧ p + psum ws / 8 ≤ n ∧ ∃ A' c', e = .returned (.tuple #[.slice A' m c', .int .i64 (p + psum ws / 8), .int .i64 0]) ∧
          w'.ownsRow w.heap.size 3 1 (.slice A' m c') m ((fieldsV (bitAt ((bs.drop p.toNat).take (psum ws / 8).toNat)) 0 ws).map (.int .i64))) ∨
       ((¬ widthsOk ws) ∧ e = .returned (.tuple #[.slice none 0 0, .int .i64 0, .int .i64 11])) ∨
       (widthsOk ws ∧ ¬ (0 ≤ p ∧ p + psum ws / 8 ≤ n) ∧ e = .returned (.tuple #[.slice none 0 0, .int .i64 0, .int .i64 10]))) := by
  refine weirref1_Fields_of A n c p W m d w _ ?_
  unfold weirref1_Fields_VC
  refine (refBits_spec hws hm).mono ?_
  rintro _ w1 ⟨rfl, ⟨hok, rfl⟩ | ⟨hok, rfl⟩⟩
  · refine ⟨_, rfl, ?_⟩
    have hW := hok.2.1
    have hpb := psum_bound hW
    have h64 : ws.length ≤ 64 := hok.1
    have h8 := hok.2.2
    refine Br.no (by omega) ?_
    have e8 : Int.tdiv (psum ws) 8 = psum ws / 8 := Int.tdiv_eq_ediv_of_nonneg hpb.1
    rw [e8, w64 (n := psum ws / 8) (by omega) (by omega)]
    refine (there_spec (by omega)).mono ?_
    rintro _ w2 ⟨rfl, rfl⟩
    refine ⟨_, rfl, ?_⟩
    by_cases hr : 0 ≤ p ∧ p ≤ n ∧ psum ws / 8 ≤ n - p
    · rw [decide_eq_true hr]
      refine Br.f rfl ?_
      obtain ⟨q, rfl⟩ := Int.eq_ofNat_of_zero_le hr.1
      rw [w64 (n := 8 * (q : Int)) (by omega) (by omega)]
      refine LoopVC.of (fun s w' => ∃ (i : Nat) (A2 : Option Addr) (c2 : Nat), i ≤ m ∧ s = ((A2, i, c2), 8 * (q : Int) + psum (ws.take i), (i : Int)) ∧ Ext w w' ∧
        w'.ownsRow w.heap.size 3 1 (.slice A2 i c2) i ((fieldsV (bitAt bs) (8 * q) (ws.take i)).map (.int .i64))) (fun s _ => (m - s.2.2).toNat) ⟨0, none, 0, by omega, by simp [psum], Mod.refl _ _, World.ownsRow_nil _ _ _ _⟩ ?_
      rintro _ w3 ⟨i, A2, c2, him, rfl, hE3, hown⟩
      show weirref1_Fields_L2042 _ A n c (q : Int) W m (psum ws) A2 i c2 (8 * (q : Int) + psum (ws.take i)) (i : Int) w3 _
      unfold weirref1_Fields_L2042
      have hp0 := psum_bound (hW.take i)
      have hle := psum_take_le hW (i + 1)
      refine Br.dec (fun hlt => ?_) (fun hge => ?_)
      · have hil : i < ws.length := by omega
        have hwi := hW ws[i] (List.getElem_mem hil)
        have hsn : psum (ws.take (i + 1)) = psum (ws.take i) + ws[i] := by rw [List.take_succ_eq_append_getElem hil, psum_snoc]
        obtain ⟨B, hBe⟩ := Int.eq_ofNat_of_zero_le hp0.1
        rw [hBe]
        refine LoopVC.of (fun s w' => w3 = w' ∧ ∃ k : Nat, (k : Int) ≤ ws[i] ∧ s = (8 * (q : Int) + B + k, fieldV (bitAt bs) (8 * q + B) k, (k : Int))) (fun s _ => (ws[i] - s.2.2).toNat) ⟨rfl, 0, by omega, by simp [fieldV]⟩ ?_
        rintro _ w4 ⟨rfl, k, hk, rfl⟩
        show weirref1_Fields_L522826 _ A n c W m A2 i c2 (i : Int) _ (8 * (q : Int) + B + k) (fieldV (bitAt bs) (8 * q + B) k) (k : Int) w3 _
        unfold weirref1_Fields_L522826
        refine IdxVC.int (hws.ext hE3) (by omega) hlt hm fun a hc => ⟨_, hc, ?_⟩
        rw [getD_cast _ _ hil]
        have hfb := fieldV_bound (bitAt_01 bs) (8 * q + B) k
        have h01 := bitAt_01 bs (8 * q + B + k)
        have hp2 := pow2_32 (n := k) (by omega)
        refine Br.dec (fun hkl => ?_) (fun hkg => ?_)
        · have ei : 8 * (q : Int) + B + k = ((8 * q + B + k : Nat) : Int) := by omega
          rw [ei]
          refine (bit_spec (hb.ext hE3) hl hB hn (by omega)).mono ?_
          rintro _ w5 ⟨rfl, rfl⟩
          refine ⟨_, rfl, ⟨rfl, k + 1, by omega, ?_⟩, ?_⟩
          · rw [w64 (n := 2 * fieldV (bitAt bs) (8 * q + B) k) (by omega) (by omega), w64 (n := 2 * fieldV (bitAt bs) (8 * q + B) k + bitAt bs (8 * q + B + k)) (by omega) (by omega), w64 (by omega) (by omega), w64 (by omega) (by omega)]
            simp only [fieldV]
            rw [Prod.mk.injEq]; constructor
            · omega
            · rfl
          · simp only
            rw [w64 (n := (k : Int) + 1) (by omega) (by omega)]; omega
        · have hkw : (k : Int) = ws[i] := by omega
          refine AppVC.one Try.underlying55 tyInt rfl hown rfl (by omega) (by decide) hE3.size fun A3 c3 w7 hown7 hm7 hc7 => ?_
          have hE7 := Ext.own hE3 hown hm7
          refine ⟨⟨i + 1, A3, c3, by omega, ?_, hE7, ?_⟩, ?_⟩
          · rw [w64 (n := (i : Int) + 1) (by omega) (by omega), hsn, hBe, hkw]
            simp; omega
          · rw [List.take_succ_eq_append_getElem hil, fieldsV_snoc _ _ _ _ (hW.take i), List.map_append]
            have e2 : (psum (ws.take i)).toNat = B := by omega
            have e3 : (ws[i]).toNat = k := by omega
            rw [e2, e3]
            simpa using hown7
          · simp only
            rw [w64 (n := (i : Int) + 1) (by omega) (by omega)]; omega
      · have him' : i = ws.length := by omega
        subst him'
        have hm' : m = ws.length := by omega
        subst hm'
        rw [List.take_length] at hown
        refine ⟨hE3, .inl ⟨hok, by omega, by omega, A2, c2, ?_, ?_⟩⟩
        · rw [e8, w64 (n := psum ws / 8) (by omega) (by omega), w64 (n := (q : Int) + psum ws / 8) (by omega) (by omega)]
        · rw [Int.toNat_natCast, ← fieldsV_window hW h8]; exact hown
    · rw [decide_eq_false hr]
      exact Br.t rfl ⟨Mod.refl _ _, .inr (.inr ⟨hok, by omega, rfl⟩)⟩
  · exact ⟨_, rfl, Br.yes (by omega) ⟨Mod.refl _ _, .inr (.inl ⟨hok, rfl⟩)⟩⟩

theorem part_copy {A : Option Addr} {n c p k : Nat} {bs : List Int} {w : World} (hb : Cells w A (bs.map (.int .u8))) (hl : bs.length = n) (hn : n ≤ 1152921504606846976) (hk : p + k ≤ n) (hk2 : k ≤ 140737488355328) :
    Calls Try.prog 79 #[.slice A n c, .int .i64 (p : Int), .int .i64 ((p + k : Nat) : Int)] w fun e w' => Ext w w' ∧ ∃ A' c', e = .returned (.slice A' k c') ∧
      w'.ownsRow w.heap.size 5 1 (.slice A' k c') k (((bs.drop p).take k).map (.int .u8)) := by
  refine weirref1_Part_of A n c _ _ w _ ?_
  unfold weirref1_Part_VC
  refine LoopVC.of (fun s w' => ∃ (i : Nat) (A2 : Option Addr) (c2 : Nat), i ≤ k ∧ s = ((A2, i, c2), (p : Int) + i) ∧ Ext w w' ∧
    w'.ownsRow w.heap.size 5 1 (.slice A2 i c2) i (((bs.drop p).take i).map (.int .u8))) (fun s _ => (p + k - s.2).toNat) ⟨0, none, 0, by omega, by simp, Mod.refl _ _, by simpa using World.ownsRow_nil _ _ _ _⟩ ?_
  rintro _ w3 ⟨i, A2, c2, hi, rfl, hE3, hown⟩
  show weirref1_Part_L58 _ A n _ A2 i c2 ((p : Int) + i) w3 _
  unfold weirref1_Part_L58
  refine Br.dec (fun hlt => ?_) (fun hge => ?_)
  · refine IdxVC.int (hb.ext hE3) (by omega) (by omega) hl fun a hc => ⟨_, hc, ?_⟩
    have e1 : ((p : Int) + i).toNat = p + i := by omega
    have hil : i < (bs.drop p).length := by rw [List.length_drop]; omega
    have e2 : bs.getD (p + i) 0 = (bs.drop p)[i] := by simp [show p + i < bs.length by omega]
    rw [e1, e2]
    refine AppVC.one Try.underlying22 tyByte rfl hown rfl (by omega) (by decide) hE3.size fun A3 c3 w7 hown7 hm7 hc7 => ?_
    refine ⟨⟨i + 1, A3, c3, by omega, ?_, Ext.own hE3 hown hm7, ?_⟩, ?_⟩
    · rw [w64 (n := (p : Int) + i + 1) (by omega) (by omega)]; simp; omega
    · rw [List.take_succ_eq_append_getElem hil, List.map_append]; exact hown7
    · simp only
      rw [w64 (n := (p : Int) + i + 1) (by omega) (by omega)]; omega
  · have : i = k := by omega
    subst this
    exact ⟨hE3, A2, c2, rfl, hown⟩
theorem refWindow_spec {A : Option Addr} {n c : Nat} {p k : Int} {bs : List Int} {w : World} (hb : Cells w A (bs.map (.int .u8))) (hl : bs.length = n) (hn : n ≤ 140737488355328) :
    Calls Try.prog 70 #[.slice A n c, .int .i64 p, .int .i64 k] w fun e w' => Ext w w' ∧
      ((0 ≤ p ∧ 0 ≤ k ∧ p + k ≤ n ∧ ∃ A' c', e = .returned (.tuple #[.slice A' k.toNat c', .int .i64 0]) ∧ w'.ownsRow w.heap.size 5 1 (.slice A' k.toNat c') k.toNat (((bs.drop p.toNat).take k.toNat).map (.int .u8))) ∨
       (¬ (0 ≤ p ∧ 0 ≤ k ∧ p + k ≤ n) ∧ e = .returned (.tuple #[.slice none 0 0, .int .i64 (if k < 0 then 1 else 10)]))) := by
  refine weirref1_Window_of A n c p k w _ ?_
  unfold weirref1_Window_VC
  refine Br.dec (fun h => ⟨Mod.refl _ _, .inr ⟨by omega, by rw [if_pos h]⟩⟩) (fun h0 => ?_)
  refine (there_spec (by omega)).mono ?_
  rintro _ w1 ⟨rfl, rfl⟩
  refine ⟨_, rfl, ?_⟩
  by_cases hr : 0 ≤ p ∧ p ≤ n ∧ k ≤ n - p
  · rw [decide_eq_true hr]
    refine Br.f rfl ?_
    obtain ⟨q, rfl⟩ := Int.eq_ofNat_of_zero_le hr.1
    obtain ⟨m, rfl⟩ := Int.eq_ofNat_of_zero_le (show 0 ≤ k by omega)
    rw [w64 (n := (q : Int) + m) (by omega) (by omega)]
    have e : (q : Int) + m = ((q + m : Nat) : Int) := by omega
    rw [e]
    refine (part_copy hb hl (by omega) (by omega) (by omega)).mono ?_
    rintro _ w2 ⟨hE2, A', c', rfl, hown⟩
    exact ⟨_, _, _, rfl, hE2, .inl ⟨by omega, by omega, by omega, A', c', rfl, hown⟩⟩
  · rw [decide_eq_false hr]
    exact Br.t rfl ⟨Mod.refl _ _, .inr ⟨by omega, by rw [if_neg h0]⟩⟩
end Go.Proofs.Ytdchpilghgnnoaa
