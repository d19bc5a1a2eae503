/- Layer 1's references: numbers and fields (that layer's texts, turned to this seat). -/
import Derived.Test.YtkiogaglmjeplaaDoorBt
import Derived.Test.YtkiogaglmjeplaaDoorBj
import Derived.Test.YtkiogaglmjeplaaDoorBf
import Derived.Test.YtkiogaglmjeplaaDoorBd
import Derived.Test.YtkiogaglmjeplaaDoorBp
import Derived.Test.YtkiogaglmjeplaaDoorBh
namespace Go.Eng
open Go Go.RowKit
theorem fieldV_add (f : Nat → Int) (p a : Nat) : ∀ b, fieldV f p (a + b) = fieldV f p a * 2 ^ b + fieldV f (p + a) b
  | 0 => by simp [fieldV]
  | b + 1 => by
    rw [← Nat.add_assoc]
    simp only [fieldV]
    have e : fieldV f p a * 2 ^ (b + 1) = 2 * (fieldV f p a * 2 ^ b) := by
      rw [Int.pow_succ, ← Int.mul_assoc, Int.mul_comm _ 2]
    rw [fieldV_add f p a b, e, Nat.add_assoc p a b]
    omega
theorem fieldV_byte {bs : List Int} (hB : Bts bs) {q : Nat} (hq : q < bs.length) : fieldV (bitAt bs) (8 * q) 8 = bs[q] := by
  have hx := hB.at hq
  have hg : bs.getD q 0 = bs[q] := by simp [hq]
  simp only [fieldV, bitAt]
  have e0 : (8 * q + 0) / 8 = q := by omega
  have e1 : (8 * q + 1) / 8 = q := by omega
  have e2 : (8 * q + 2) / 8 = q := by omega
  have e3 : (8 * q + 3) / 8 = q := by omega
  have e4 : (8 * q + 4) / 8 = q := by omega
  have e5 : (8 * q + 5) / 8 = q := by omega
  have e6 : (8 * q + 6) / 8 = q := by omega
  have e7 : (8 * q + 7) / 8 = q := by omega
  have m0 : 7 - (8 * q + 0) % 8 = 7 := by omega
  have m1 : 7 - (8 * q + 1) % 8 = 6 := by omega
  have m2 : 7 - (8 * q + 2) % 8 = 5 := by omega
  have m3 : 7 - (8 * q + 3) % 8 = 4 := by omega
  have m4 : 7 - (8 * q + 4) % 8 = 3 := by omega
  have m5 : 7 - (8 * q + 5) % 8 = 2 := by omega
  have m6 : 7 - (8 * q + 6) % 8 = 1 := by omega
  have m7 : 7 - (8 * q + 7) % 8 = 0 := by omega
  rw [e0, e1, e2, e3, e4, e5, e6, e7, m0, m1, m2, m3, m4, m5, m6, m7, hg]
  generalize bs[q] = x at hx
  simp only [Int.reducePow]
  omega
theorem fieldV_beNum {bs : List Int} (hB : Bts bs) (p : Nat) : ∀ k, p + k ≤ bs.length → fieldV (bitAt bs) (8 * p) (8 * k) = beNum ((bs.drop p).take k)
  | 0, _ => by simp [fieldV, beNum]
  | k + 1, h => by
    have hlt : k < (bs.drop p).length := by rw [List.length_drop]; omega
    have hb := fieldV_byte hB (q := p + k) (by omega)
    rw [Nat.mul_add 8 k 1, fieldV_add, fieldV_beNum hB p k (by omega), List.take_succ_eq_append_getElem hlt, beNum_snoc, Nat.mul_one, ← Nat.mul_add, hb]
    simp
theorem bitAt_window (bs : List Int) (p k i : Nat) (hi : i < 8 * k) : bitAt ((bs.drop p).take k) i = bitAt bs (8 * p + i) := by
  unfold bitAt
  have e1 : (8 * p + i) / 8 = p + i / 8 := by omega
  have e2 : (8 * p + i) % 8 = i % 8 := by omega
  rw [e1, e2]
  have : ((bs.drop p).take k).getD (i / 8) 0 = bs.getD (p + i / 8) 0 := by
    simp [List.getD_eq_getElem?_getD, List.getElem?_drop, show i / 8 < k by omega]
  rw [this]
theorem fieldV_shift (f : Nat → Int) (q p : Nat) : ∀ n, fieldV f (q + p) n = fieldV (fun i => f (q + i)) p n
  | 0 => rfl
  | n + 1 => by simp only [fieldV]; rw [fieldV_shift f q p n, Nat.add_assoc]
theorem fieldsV_shift (f : Nat → Int) (q : Nat) : ∀ (ws : List Int) (p : Nat), fieldsV f (q + p) ws = fieldsV (fun i => f (q + i)) p ws
  | [], _ => rfl
  | w :: r, p => by simp only [fieldsV]; rw [fieldV_shift, Nat.add_assoc, fieldsV_shift f q r]
theorem fieldsV_window {bs ws : List Int} {p : Nat} (hW : W32 ws) (h8 : psum ws % 8 = 0) : fieldsV (bitAt bs) (8 * p) ws = fieldsV (bitAt ((bs.drop p).take (psum ws / 8).toNat)) 0 ws := by
  have := fieldsV_shift (bitAt bs) (8 * p) ws 0
  rw [Nat.add_zero] at this
  rw [this]
  have hb := psum_bound hW
  refine fieldsV_congr ws 0 hW fun i hi => ?_
  rw [bitAt_window _ _ _ _ (by omega)]
end Go.Eng
namespace Go.Proofs.YtkiogaglmjeplaaDoor
namespace N6
open Go.Eng Go.RowKit
theorem there_spec {A : Option Addr} {n c : Nat} {p k : Int} {w : World} (hn : n ≤ 4611686018427387904) :
    Calls Tryd.prog 80 #[.slice A n c, .int .i64 p, .int .i64 k] w fun e w' => w = w' ∧ e = .returned (.bool (decide (0 ≤ p ∧ p ≤ n ∧ k ≤ n - p))) := by
  refine weirref1_There_of A n c p k w _ ?_
  unfold weirref1_There_VC
  refine Br.dec (fun h1 => Br.dec (fun h2 => ⟨rfl, ?_⟩) (fun h2 => ⟨rfl, ?_⟩)) (fun h1 => ⟨rfl, ?_⟩)
  · rw [w64 (by omega) (by omega)]
    congr 2
    exact decide_eq_decide.2 ⟨fun h => ⟨h1, h2, h⟩, fun h => h.2.2⟩
  · rw [decide_eq_false (by omega)]
  · rw [decide_eq_false (by omega)]
theorem bit_spec {A : Option Addr} {n c i : Nat} {bs : List Int} {w : World} (hb : Cells w A (bs.map (.int .u8))) (hl : bs.length = n) (hB : Bts bs) (hn : n ≤ 140737488355328) (hi : i < 8 * n) :
    Calls Tryd.prog 81 #[.slice A n c, .int .i64 (i : Int)] w fun e w' => w = w' ∧ e = .returned (.int .i64 (bitAt bs i)) := by
  refine weirref1_bit_of A n c (i : Int) w _ ?_
  unfold weirref1_bit_VC
  have e1 : Int.tdiv (i : Int) 8 = ((i / 8 : Nat) : Int) := by rw [Int.tdiv_eq_ediv_of_nonneg (by omega)]; omega
  have e2 : Int.tmod (i : Int) 8 = ((i % 8 : Nat) : Int) := by rw [Int.tmod_eq_emod_of_nonneg (by omega)]; omega
  rw [e1, e2, w64 (n := ((i / 8 : Nat) : Int)) (by omega) (by omega)]
  refine IdxVC.int hb (by omega) (by omega) hl fun a hc => ⟨_, hc, ?_⟩
  have hlt : i / 8 < bs.length := by omega
  have hx := hB.at hlt
  rw [getD_cast _ _ hlt, w64 (n := bs[i / 8]) (by omega) (by omega)]
  refine LoopVC.of (fun s w' => w = w' ∧ ∃ k : Nat, i % 8 ≤ k ∧ k ≤ 7 ∧ s = (bs[i / 8] / 2 ^ (k - i % 8), (k : Int))) (fun s _ => (7 - s.2).toNat) ⟨rfl, i % 8, Nat.le_refl _, by omega, by simp⟩ ?_
  rintro _ w1 ⟨rfl, k, hk0, hk1, rfl⟩
  show weirref1_bit_L58 _ (bs[i / 8] / 2 ^ (k - i % 8)) (k : Int) w _
  unfold weirref1_bit_L58
  have hd0 : 0 ≤ bs[i / 8] / 2 ^ (k - i % 8) := Int.ediv_nonneg hx.1 (Int.pow_nonneg (by decide))
  have hd1 : bs[i / 8] / 2 ^ (k - i % 8) ≤ bs[i / 8] := Int.ediv_le_self _ hx.1
  refine Br.dec (fun h => ⟨⟨rfl, k + 1, by omega, by omega, ?_⟩, ?_⟩) (fun h => ⟨rfl, ?_⟩)
  · have e3 : k + 1 - i % 8 = (k - i % 8) + 1 := by omega
    rw [Int.tdiv_eq_ediv_of_nonneg hd0, w64 (by omega) (by omega), w64 (by omega) (by omega), e3, Int.pow_succ, Int.ediv_ediv_of_nonneg (Int.pow_nonneg (by decide))]
    rfl
  · simp only
    rw [w64 (by omega) (by omega)]; omega
  · have : k = 7 := by omega
    subst this
    rw [Int.tmod_eq_emod_of_nonneg hd0]
    unfold bitAt
    have hg : bs.getD (i / 8) 0 = bs[i / 8] := by simp [hlt]
    rw [hg]
theorem refUint_spec {A : Option Addr} {n c : Nat} {p k : Int} {bs : List Int} {w : World} (hb : Cells w A (bs.map (.int .u8))) (hl : bs.length = n) (hB : Bts bs) (hn : n ≤ 140737488355328) :
    Calls Tryd.prog 49 #[.slice A n c, .int .i64 p, .int .i64 k] w fun e w' => w = w' ∧ e = .returned (.tuple #[.int .u64 (uintS bs p k).1, .int .i64 (uintS bs p k).2]) := by
  refine weirref1_Uint_of A n c p k w _ ?_
  unfold weirref1_Uint_VC
  refine Br.dec (fun h => ⟨rfl, ?_⟩) (fun h1 => Br.dec (fun h => ⟨rfl, ?_⟩) (fun h2 => ?_))
  · unfold uintS; rw [if_pos (by omega)]
  · unfold uintS; rw [if_pos (by omega)]
  refine (there_spec (by omega)).mono ?_
  rintro _ w1 ⟨rfl, rfl⟩
  refine ⟨_, rfl, ?_⟩
  by_cases hr : 0 ≤ p ∧ p ≤ n ∧ k ≤ n - p
  · rw [decide_eq_true hr]
    refine Br.f rfl ?_
    obtain ⟨q, rfl⟩ := Int.eq_ofNat_of_zero_le hr.1
    obtain ⟨m, rfl⟩ := Int.eq_ofNat_of_zero_le (show 0 ≤ k by omega)
    rw [w64 (n := 8 * (q : Int)) (by omega) (by omega)]
    refine LoopVC.of (fun s w' => w = w' ∧ ∃ j : Nat, j ≤ 8 * m ∧ s = (fieldV (bitAt bs) (8 * q) j, 8 * (q : Int) + j)) (fun s _ => (8 * ((q : Int) + m) - s.2).toNat) ⟨rfl, 0, by omega, by simp [fieldV]⟩ ?_
    rintro _ w1 ⟨rfl, j, hj, rfl⟩
    show weirref1_Uint_L506 _ A n c (q : Int) (m : Int) (fieldV (bitAt bs) (8 * q) j) (8 * (q : Int) + j) w _
    unfold weirref1_Uint_L506
    rw [w64 (n := (q : Int) + m) (by omega) (by omega), w64 (n := 8 * ((q : Int) + m)) (by omega) (by omega)]
    have h01 := bitAt_01 bs (8 * q + j)
    have hfb := fieldV_bound (bitAt_01 bs) (8 * q) j
    refine Br.dec (fun hlt => ?_) (fun hge => ⟨rfl, ?_⟩)
    · have ei : 8 * (q : Int) + j = ((8 * q + j : Nat) : Int) := by omega
      rw [ei]
      refine (bit_spec hb hl hB hn (by omega)).mono ?_
      rintro _ w2 ⟨rfl, rfl⟩
      have hp : (2 : Int) ^ j ≤ 2 ^ 63 := by
        have : (2 : Nat) ^ j ≤ 2 ^ 63 := Nat.pow_le_pow_right (by decide) (by omega)
        exact_mod_cast this
      have hp' : (2 : Int) ^ 63 = 9223372036854775808 := by decide
      rw [hp'] at hp
      refine ⟨_, rfl, ⟨rfl, j + 1, by omega, ?_⟩, ?_⟩
      · rw [wu64 (n := 2 * fieldV (bitAt bs) (8 * q) j) (by omega) (by omega), wu64 (n := bitAt bs (8 * q + j)) (by omega) (by omega), wu64 (by omega) (by omega), w64 (by omega) (by omega)]
        simp only [fieldV]
        rw [Prod.mk.injEq]; constructor
        · rfl
        · omega
      · simp only
        rw [w64 (by omega) (by omega)]; omega
    · have : j = 8 * m := by omega
      subst this
      rw [fieldV_beNum hB q m (by omega)]
      unfold uintS
      rw [if_neg (by omega), if_pos (by omega)]
      simp
  · rw [decide_eq_false hr]
    refine Br.t rfl ⟨rfl, ?_⟩
    unfold uintS
    rw [if_neg (by omega), if_neg (by omega)]
theorem refFields_spec {A W : Option Addr} {n c m d : Nat} {p : Int} {bs ws : List Int} {w : World} (hb : Cells w A (bs.map (.int .u8))) (hl : bs.length = n) (hB : Bts bs) (hn : n ≤ 140737488355328)
    (hws : Cells w W (ws.map (.int .i64))) (hm : ws.length = m) :
    Calls Tryd.prog 46 #[.slice A n c, .int .i64 p, .slice W m d] w fun e w' => Ext w w' ∧
      ((widthsOk ws ∧ 0 ≤ p ∧ p + psum ws / 8 ≤ n ∧ ∃ A' c', e = .returned (.tuple #[.slice A' m c', .int .i64 (p + psum ws / 8), .int .i64 0]) ∧
          w'.ownsRow w.heap.size 3 1 (.slice A' m c') m ((fieldsV (bitAt ((bs.drop p.toNat).take (psum ws / 8).toNat)) 0 ws).map (.int .i64))) ∨
       ((¬ widthsOk ws) ∧ e = .returned (.tuple #[.slice none 0 0, .int .i64 0, .int .i64 11])) ∨
       (widthsOk ws ∧ ¬ (0 ≤ p ∧ p + psum ws / 8 ≤ n) ∧ e = .returned (.tuple #[.slice none 0 0, .int .i64 0, .int .i64 10]))) := by
  refine weirref1_Fields_of A n c p W m d w _ ?_
  unfold weirref1_Fields_VC
  refine (refBits_spec hws hm).mono ?_
  rintro _ w1 ⟨rfl, ⟨hok, rfl⟩ | ⟨hok, rfl⟩⟩
  · refine ⟨_, rfl, ?_⟩
    have hW := hok.2.1
    have hpb := psum_bound hW
    have h64 : ws.length ≤ 64 := hok.1
    have h8 := hok.2.2
    refine Br.no (by omega) ?_
    have e8 : Int.tdiv (psum ws) 8 = psum ws / 8 := Int.tdiv_eq_ediv_of_nonneg hpb.1
    rw [e8, w64 (n := psum ws / 8) (by omega) (by omega)]
    refine (there_spec (by omega)).mono ?_
    rintro _ w2 ⟨rfl, rfl⟩
    refine ⟨_, rfl, ?_⟩
    by_cases hr : 0 ≤ p ∧ p ≤ n ∧ psum ws / 8 ≤ n - p
    · rw [decide_eq_true hr]
      refine Br.f rfl ?_
      obtain ⟨q, rfl⟩ := Int.eq_ofNat_of_zero_le hr.1
      rw [w64 (n := 8 * (q : Int)) (by omega) (by omega)]
      refine LoopVC.of (fun s w' => ∃ (i : Nat) (A2 : Option Addr) (c2 : Nat), i ≤ m ∧ s = ((A2, i, c2), 8 * (q : Int) + psum (ws.take i), (i : Int)) ∧ Ext w w' ∧
        w'.ownsRow w.heap.size 3 1 (.slice A2 i c2) i ((fieldsV (bitAt bs) (8 * q) (ws.take i)).map (.int .i64))) (fun s _ => (m - s.2.2).toNat) ⟨0, none, 0, by omega, by simp [psum], Mod.refl _ _, World.ownsRow_nil _ _ _ _⟩ ?_
      rintro _ w3 ⟨i, A2, c2, him, rfl, hE3, hown⟩
      show weirref1_Fields_L2042 _ A n c (q : Int) W m (psum ws) A2 i c2 (8 * (q : Int) + psum (ws.take i)) (i : Int) w3 _
      unfold weirref1_Fields_L2042
      have hp0 := psum_bound (hW.take i)
      have hle := psum_take_le hW (i + 1)
      refine Br.dec (fun hlt => ?_) (fun hge => ?_)
      · have hil : i < ws.length := by omega
        have hwi := hW ws[i] (List.getElem_mem hil)
        have hsn : psum (ws.take (i + 1)) = psum (ws.take i) + ws[i] := by rw [List.take_succ_eq_append_getElem hil, psum_snoc]
        obtain ⟨B, hBe⟩ := Int.eq_ofNat_of_zero_le hp0.1
        rw [hBe]
        refine LoopVC.of (fun s w' => w3 = w' ∧ ∃ k : Nat, (k : Int) ≤ ws[i] ∧ s = (8 * (q : Int) + B + k, fieldV (bitAt bs) (8 * q + B) k, (k : Int))) (fun s _ => (ws[i] - s.2.2).toNat) ⟨rfl, 0, by omega, by simp [fieldV]⟩ ?_
        rintro _ w4 ⟨rfl, k, hk, rfl⟩
        show weirref1_Fields_L522826 _ A n c W m A2 i c2 (i : Int) _ (8 * (q : Int) + B + k) (fieldV (bitAt bs) (8 * q + B) k) (k : Int) w3 _
        unfold weirref1_Fields_L522826
        refine IdxVC.int (hws.ext hE3) (by omega) hlt hm fun a hc => ⟨_, hc, ?_⟩
        rw [getD_cast _ _ hil]
        have hfb := fieldV_bound (bitAt_01 bs) (8 * q + B) k
        have h01 := bitAt_01 bs (8 * q + B + k)
        have hp2 := pow2_32 (n := k) (by omega)
        refine Br.dec (fun hkl => ?_) (fun hkg => ?_)
        · have ei : 8 * (q : Int) + B + k = ((8 * q + B + k : Nat) : Int) := by omega
          rw [ei]
          refine (bit_spec (hb.ext hE3) hl hB hn (by omega)).mono ?_
          rintro _ w5 ⟨rfl, rfl⟩
          refine ⟨_, rfl, ⟨rfl, k + 1, by omega, ?_⟩, ?_⟩
          · rw [w64 (n := 2 * fieldV (bitAt bs) (8 * q + B) k) (by omega) (by omega), w64 (n := 2 * fieldV (bitAt bs) (8 * q + B) k + bitAt bs (8 * q + B + k)) (by omega) (by omega), w64 (by omega) (by omega), w64 (by omega) (by omega)]
            simp only [fieldV]
            rw [Prod.mk.injEq]; constructor
            · omega
            · rfl
          · simp only
            rw [w64 (n := (k : Int) + 1) (by omega) (by omega)]; omega
        · have hkw : (k : Int) = ws[i] := by omega
          refine AppVC.one Tryd.underlying97 tyInt rfl hown rfl (by omega) (by decide) hE3.size fun A3 c3 w7 hown7 hm7 hc7 => ?_
          have hE7 := Ext.own hE3 hown hm7
          refine ⟨⟨i + 1, A3, c3, by omega, ?_, hE7, ?_⟩, ?_⟩
          · rw [w64 (n := (i : Int) + 1) (by omega) (by omega), hsn, hBe, hkw]
            simp; omega
          · rw [List.take_succ_eq_append_getElem hil, fieldsV_snoc _ _ _ _ (hW.take i), List.map_append]
            have e2 : (psum (ws.take i)).toNat = B := by omega
            have e3 : (ws[i]).toNat = k := by omega
            rw [e2, e3]
            simpa using hown7
          · simp only
            rw [w64 (n := (i : Int) + 1) (by omega) (by omega)]; omega
      · have him' : i = ws.length := by omega
        subst him'
        have hm' : m = ws.length := by omega
        subst hm'
        rw [List.take_length] at hown
        refine ⟨hE3, .inl ⟨hok, by omega, by omega, A2, c2, ?_, ?_⟩⟩
        · rw [e8, w64 (n := psum ws / 8) (by omega) (by omega), w64 (n := (q : Int) + psum ws / 8) (by omega) (by omega)]
        · rw [Int.toNat_natCast, ← fieldsV_window hW h8]; exact hown
    · rw [decide_eq_false hr]
      exact Br.t rfl ⟨Mod.refl _ _, .inr (.inr ⟨hok, by omega, rfl⟩)⟩
  · exact ⟨_, rfl, Br.yes (by omega) ⟨Mod.refl _ _, .inr (.inl ⟨hok, rfl⟩)⟩⟩

end N6
end Go.Proofs.YtkiogaglmjeplaaDoor
/- Chapter 7, reading: the document's options and headers. -/
namespace Go.Proofs.YtkiogaglmjeplaaDoor
namespace N6
open Go.Eng Go.RowKit
section
variable {w : World} {s : Sl} {l : List Int}
theorem part1_spec (hB : BytesAt w s l) {p k : Nat} (hk : p + k ≤ l.length) {lo hi : Int} (h1 : lo = p) (h2 : hi = (p + k : Nat)) :
    Calls Tryd.prog 15 #[s.val, .int .i64 lo, .int .i64 hi] w fun e w' => ∃ s' : Sl, e = .returned s'.val ∧ s'.n = k ∧ Sep [Fct.rest w None, rowB w.heap.size s' (bpart l p k)] w' := by
  subst h1; subst h2
  refine weirref1_Part_of s.A s.n s.k _ _ w _ ?_
  unfold weirref1_Part_VC
  have hl := hB.len
  have hs := hB.small
  refine LoopVC.of (fun st w' => ∃ j : Nat, st.2 = ((p + j : Nat) : Int) ∧ j ≤ k ∧ st.1.2.1 = j ∧ Sep [Fct.rest w None, ownB w.heap.size (.slice st.1.1 st.1.2.1 st.1.2.2) st.1.2.1 (bpart l p j)] w') (fun st _ => (((p + k : Nat) : Int) - st.2).toNat)
    ⟨0, rfl, Nat.zero_le _, rfl, (Sep.start0 w).nil _ _ _⟩ ?_
  rintro ⟨⟨A1, n1, c1⟩, _⟩ w1 ⟨j, rfl, hj, hn, H⟩
  simp only at hn
  subst hn
  show weirref1_Part_L58 _ s.A s.n _ A1 n1 c1 ((p + n1 : Nat) : Int) w1 _
  unfold weirref1_Part_L58
  refine Br.dec (fun hlt => ?_) fun hge => ?_
  · refine (hB.ext (H.restOf 0 rfl)).idx (i := p + n1) rfl (by omega) fun a x hx _ _ hc => ⟨_, hc, NewVC.sep H fun g1 w2 H => ?_⟩
    have H := H.front
    refine appB (m := 1) (ys := [x]) H 2 rfl (Cells.blk0 (H.blk 0 rfl)) rfl (show n1 + 1 ≤ 140737488355328 by omega) (H.restOf 1 rfl).size fun A2 c2 w3 H _ => ?_
    rw [w64 (by omega) (by omega)]
    refine ⟨⟨n1 + 1, by simp only; omega, by omega, rfl, ?_⟩, by simp only; omega⟩
    have e : bpart l p (n1 + 1) = bpart l p n1 ++ [x] := by
      unfold bpart
      rw [List.take_add_one, List.getElem?_drop, hx]; rfl
    rw [e]
    exact H.tail
  · have : n1 = k := by omega
    subst this
    exact ⟨⟨A1, n1, c1⟩, rfl, rfl, H⟩
theorem padding7_spec (hB : BytesAt w s l) {p : Nat} (hp : p ≤ l.length) : Calls Tryd.prog 103 #[s.val, .int .i64 p] w fun e w' => w' = w ∧
    ((∃ n : Nat, e = .returned (.int .i64 n) ∧ p + n ≤ l.length ∧ optsS l p 0 = optsS l (p + n) n ∧ (l.length ≤ p + n ∨ (l.getD (p + n) 0 ≠ 0 ∧ l.getD (p + n) 0 ≠ 1))) ∨ (e = .returned (.int .i64 (-1)) ∧ optsS l p 0 = none)) := by
  refine weirref7_padding_of s.A s.n s.k p w _ ?_
  unfold weirref7_padding_VC
  have hl := hB.len
  have hs := hB.small
  refine LoopVC.of (fun st w' => w' = w ∧ ∃ n : Nat, st = (n : Int) ∧ p + n ≤ l.length ∧ optsS l p 0 = optsS l (p + n) n) (fun st _ => ((s.n : Int) - st).toNat) ⟨rfl, 0, rfl, hp, rfl⟩ ?_
  rintro _ w1 ⟨hw1, n, rfl, hn, ho⟩
  subst w1
  unfold weirref7_padding_L28
  have e0 : IntKind.i64.wrap ((p : Int) + (n : Int)) = ((p + n : Nat) : Int) := by rw [w64 (by omega) (by omega)]; omega
  rw [e0]
  have e1 : IntKind.i64.wrap (((p + n : Nat) : Int) + 1) = ((p + n + 1 : Nat) : Int) := by rw [w64 (by omega) (by omega)]; omega
  rw [e1]
  refine Br.dec (fun hlt => ?_) fun hge => ⟨rfl, .inl ⟨n, rfl, hn, ho, .inl (by omega)⟩⟩
  have gd : ∀ {i : Nat} {x : Int}, l[i]? = some x → l.getD i 0 = x := fun h => by rw [List.getD_eq_getElem?_getD, h]; rfl
  refine hB.idx (i := p + n) rfl (by omega) fun a x hx hx0 hx1 hc => ⟨_, hc, Br.dec (fun h2 => ?_) fun h2 => ⟨rfl, .inl ⟨n, rfl, hn, ho, .inr ⟨by rw [gd hx]; omega, by rw [gd hx]; omega⟩⟩⟩⟩
  refine hB.idx (i := p + n) rfl (by omega) fun a1 y hy _ _ hcy => ⟨_, hcy, ?_⟩
  rw [hx] at hy; injection hy with hy; subst hy
  refine Br.dec (fun h0 => ?_) fun h0 => ?_
  · rw [w64 (by omega) (by omega)]
    refine ⟨⟨rfl, n + 1, by omega, by omega, ?_⟩, by omega⟩
    rw [ho, optsS_zero (by omega) ((gd hx).trans h0)]
    rfl
  · have h1 : x = 1 := by omega
    have none_ : l.length < p + n + 2 + (l.getD (p + n + 1) 0).toNat → optsS l p 0 = none := fun h => by
      rw [ho, optsS_none (by omega) (by rw [gd hx]; exact h0) h]
    refine Br.dec (fun h3 => ⟨rfl, .inr ⟨rfl, none_ (by omega)⟩⟩) fun h3 => ?_
    refine hB.idx (i := p + n + 1) rfl (by omega) fun a2 z hz hz0 hz1 hcz => ⟨_, hcz, ?_⟩
    have e2 : IntKind.i64.wrap (IntKind.i64.wrap (((p + n : Nat) : Int) + 2) + IntKind.i64.wrap z) = ((p + n + 2 + z.toNat : Nat) : Int) := by
      rw [w64 (n := ((p + n : Nat) : Int) + 2) (by omega) (by omega), w64 (n := z) (by omega) (by omega), w64 (by omega) (by omega)]; omega
    rw [e2]
    refine Br.dec (fun h4 => ⟨rfl, .inr ⟨rfl, none_ (by rw [gd hz]; omega)⟩⟩) fun h4 => ?_
    refine hB.idx (i := p + n + 1) rfl (by omega) fun a3 z' hz' _ _ hcz' => ⟨_, hcz', ?_⟩
    rw [hz] at hz'; injection hz' with hz'; subst hz'
    rw [w64 (n := (n : Int) + 2) (by omega) (by omega), w64 (n := z) (by omega) (by omega), w64 (by omega) (by omega)]
    refine ⟨⟨rfl, n + 2 + z.toNat, by omega, by omega, ?_⟩, by omega⟩
    rw [ho, optsS_pad ((gd hx).trans h1) (by rw [gd hz]; omega), gd hz]
    congr 1
    omega
/-- What the document's reader of options hands back. -/
def RefOpts (w : World) (l : List Int) (e : Ending) (w' : World) : Prop :=
  ∃ (so : Sl) (rs : List OptR), Sep (Fct.rest w None :: optFs w.heap.size so rs) w' ∧ OptsFine so rs ∧ match optsS l 0 0 with
    | some os => e = .returned (.tuple #[so.val, .int .i64 0]) ∧ rs.map OptR.d = os.map (OP.d l)
    | none => e = .returned (.tuple #[so.val, .int .i64 75]) ∧ so = Sl.z ∧ rs = []
theorem OptsFine.nil : OptsFine Sl.z [] := ⟨rfl, Nat.zero_le _, fun r hr => by cases hr⟩
theorem ExtsFine.nil : ExtsFine Sl.z [] := ⟨rfl, Nat.zero_le _, (fun r hr => by cases hr), fun r hr => by cases hr⟩
set_option maxHeartbeats 4000000 in
theorem refOptions_spec (hB : BytesAt w s l) : Calls Tryd.prog 82 #[s.val] w (RefOpts w l) := by
  refine weirref7_Options_of s.A s.n s.k w _ ?_
  unfold weirref7_Options_VC
  have hl := hB.len
  have hs := hB.small
  have bad : ∀ {w'}, Ext w w' → optsS l 0 0 = none → RefOpts w l (.returned (.tuple #[.slice none 0 0, .int .i64 75])) w' := fun hE h => ⟨Sl.z, [], ((Sep.start0 w).ext hE).nil _ _ _, OptsFine.nil, by rw [h]; exact ⟨rfl, rfl, rfl⟩⟩
  refine LoopVC.of (fun st w' => ∃ (p : Nat) (os : List OP) (rs : List OptR), st.2 = (p : Int) ∧ p ≤ l.length ∧ rs.length ≤ p ∧ optsS l 0 0 = (optsS l p 0).map (os ++ ·) ∧ rs.map OptR.d = os.map (OP.d l) ∧ OptsFine ⟨st.1.1, st.1.2.1, st.1.2.2⟩ rs ∧
      Sep (Fct.rest w None :: optFs w.heap.size ⟨st.1.1, st.1.2.1, st.1.2.2⟩ rs) w') (fun st _ => ((s.n : Int) - st.2).toNat)
    ⟨0, [], [], rfl, Nat.zero_le _, Nat.le_refl _, by simp, rfl, OptsFine.nil, (Sep.start0 w).nil _ _ _⟩ ?_
  rintro ⟨⟨A1, n1, c1⟩, _⟩ w1 ⟨p, os, rs, rfl, hp, hrp, ho, hd, hf, H⟩
  show weirref7_Options_L60 _ s.A s.n s.k A1 n1 c1 (p : Int) w1 _
  unfold weirref7_Options_L60
  have hn1 : n1 = rs.length := hf.len.symm
  refine Br.dec (fun hlt => ?_) fun hge => ?_
  · refine (padding7_spec (hB.ext H.start1) hp).mono ?_
    rintro _ w2 ⟨hw2, ⟨n, rfl, hn, hpn, hstop⟩ | ⟨rfl, hpn⟩⟩
    · subst w2
      refine ⟨_, rfl, Br.no (by omega) (Br.dec (fun hpos => ?_) fun hz => ?_)⟩
      · -- a run of padding
        refine LoopVC.of (fun st w' => ∃ j : Nat, st.2 = (j : Int) ∧ j ≤ n ∧ st.1.2.1 = j ∧ Sep (ownB w.heap.size (.slice st.1.1 st.1.2.1 st.1.2.2) st.1.2.1 (List.replicate j 0) :: Fct.rest w None :: optFs w.heap.size ⟨A1, n1, c1⟩ rs) w') (fun st _ => ((n : Int) - st.2).toNat)
          ⟨0, rfl, Nat.zero_le _, rfl, (H.nil _ _ _).front⟩ ?_
        rintro ⟨⟨A2, n2, c2⟩, _⟩ w3 ⟨j, rfl, hj, hn2, H⟩
        simp only at hn2
        subst hn2
        show weirref7_Options_L247210 A1 n1 c1 (p : Int) _ (n : Int) A2 n2 c2 (n2 : Int) w3 _
        unfold weirref7_Options_L247210
        refine Br.dec (fun hlt2 => ?_) fun hge2 => ?_
        · refine NewVC.sep H fun g1 w4 H => ?_
          have H := H.front
          refine appB (m := 1) (ys := [0]) H 1 rfl (Cells.blk0 (H.blk 0 rfl)) rfl (show n2 + 1 ≤ 140737488355328 by omega) (H.restOf 2 rfl).size fun A3 c3 w5 H _ => ?_
          rw [w64 (by omega) (by omega)]
          refine ⟨⟨n2 + 1, by simp only; omega, by omega, rfl, ?_⟩, by simp only; omega⟩
          rw [List.replicate_succ']
          exact H.tail
        · have hn2 : n2 = n := by omega
          subst hn2
          refine NewVC.sep H fun g2 w6 H => ?_
          have H := H.front
          refine appO (o := ⟨0, ⟨A2, n2, c2⟩⟩) H 3 rfl (Cells.blk0 (H.blk 0 rfl)) (show n1 ≤ 1000000000 by omega) (H.restOf 2 rfl).size fun A4 c4 w7 H hc4 => ?_
          rw [w64 (by omega) (by omega)]
          refine ⟨⟨p + n2, os ++ flushS n2, rs ++ [⟨⟨0, ⟨A2, n2, c2⟩⟩, List.replicate n2 0⟩], by simp only; omega, hn, by simp only [List.length_append, List.length_singleton]; omega, ?_, ?_, ⟨by simp only [List.length_append, List.length_singleton]; omega, by show n1 + 1 ≤ 4000000; omega, fun r hr => ?_⟩, ?_⟩, by simp only; omega⟩
          · rw [ho, hpn, optsS_flush hstop, Option.map_map]
            congr 1; funext q; simp
          · rw [List.map_append, List.map_append, hd, flushS_d, if_neg (by omega)]; rfl
          · rcases List.mem_append.1 hr with hr | hr
            · exact hf.each r hr
            · simp at hr; subst hr; exact ⟨by show n2 ≤ 4000000; omega, bts_zeros _⟩
          · have H := H.tail.rot
            simp only [optFs, rowO, List.map_append, List.flatten_append, List.map_cons, List.map_nil, List.flatten_cons, List.flatten_nil, List.append_nil]
            exact H
      · -- an option
        have hn0 : n = 0 := by omega
        subst hn0
        rw [Nat.add_zero] at hstop
        have hx2 : l.getD p 0 ≠ 0 ∧ l.getD p 0 ≠ 1 := hstop.resolve_left (by omega)
        have gd : ∀ {i : Nat} {x : Int}, l[i]? = some x → l.getD i 0 = x := fun h => by rw [List.getD_eq_getElem?_getD, h]; rfl
        rw [w64 (n := (p : Int) + 1) (by omega) (by omega)]
        have none_ : l.length < p + 2 + (l.getD (p + 1) 0).toNat → optsS l 0 0 = none := fun h => by
          rw [ho, optsS_none (by omega) hx2.1 h]; rfl
        refine Br.dec (fun h3 => bad H.start1 (none_ (by omega))) fun h3 => ?_
        have e1 : (p : Int) + 1 = ((p + 1 : Nat) : Int) := by omega
        rw [e1]
        refine (hB.ext H.start1).idx (i := p + 1) rfl (by omega) fun a z hz hz0 hz1 hcz => ⟨_, hcz, ?_⟩
        have e2 : IntKind.i64.wrap (IntKind.i64.wrap ((p : Int) + 2) + IntKind.i64.wrap z) = ((p + 2 + z.toNat : Nat) : Int) := by
          rw [w64 (n := (p : Int) + 2) (by omega) (by omega), w64 (n := z) (by omega) (by omega), w64 (by omega) (by omega)]; omega
        rw [e2]
        refine Br.dec (fun h4 => bad H.start1 (none_ (by rw [gd hz]; omega))) fun h4 => ?_
        refine (hB.ext H.start1).idx (i := p + 1) rfl (by omega) fun a1 z' hz' _ _ hcz' => ⟨_, hcz', ?_⟩
        rw [hz] at hz'; injection hz' with hz'; subst hz'
        refine DrawVC.sep H (fun w' => BytesAt w' s l) fun w8 H => ⟨hB.ext H.start1, ?_⟩
        have hpx : l[p]? = some l[p] := List.getElem?_eq_getElem (by omega)
        have hlb := hB.bts _ (List.getElem_mem (l := l) (n := p) (by omega))
        refine IdxVC.draw (k := .u8) (xs := l) (w := w8) (S := fun w' => BytesAt w' s l) (hB.ext H.start1) (fun w' h => h.cells) (by omega) (by omega) hl fun a2 ha2 => ⟨_, ha2, ?_⟩
        rw [Int.toNat_natCast, gd hpx, w64 (n := (p : Int) + 2) (by omega) (by omega), w64 (n := z) (by omega) (by omega), w64 (n := l[p]) (by omega) (by omega)]
        have e3 : IntKind.i64.wrap ((p : Int) + 2 + z) = ((p + 2 + z.toNat : Nat) : Int) := by rw [w64 (by omega) (by omega)]; omega
        rw [e3]
        have hz8 := H.start1.size
        refine (part1_spec (hB.ext H.start1) (p := p + 2) (k := z.toNat) (by omega) (by omega) rfl).mono ?_
        rintro _ w9 ⟨s', rfl, hsn, H9⟩
        have H := H.made (H9.lower 1 rfl hz8)
        refine ⟨_, _, _, rfl, hB.ext H.start1, NewVC.sep H fun g3 w10 H => ?_⟩
        have H := H.front
        refine ⟨hB.ext (H.restOf 1 rfl), ?_⟩
        refine appO (o := ⟨l[p], s'⟩) H 2 rfl (Cells.blk0 (H.blk 0 rfl)) (show n1 ≤ 1000000000 by omega) (H.restOf 1 rfl).size fun A4 c4 w11 H hc4 => ⟨hB.ext (H.restOf 1 rfl), ?_⟩
        have hpl : (bpart l (p + 2) z.toNat).length = z.toNat := bpart_len (by omega)
        refine ⟨⟨p + 2 + z.toNat, os ++ [⟨l[p], p + 2, z.toNat⟩], rs ++ [⟨⟨l[p], s'⟩, bpart l (p + 2) z.toNat⟩], rfl, by omega, by simp only [List.length_append, List.length_singleton]; omega, ?_, ?_, ⟨by simp only [List.length_append, List.length_singleton]; omega, by show n1 + 1 ≤ 4000000; omega, fun r hr => ?_⟩, ?_⟩, by simp only; omega⟩
        · rw [ho, optsS_opt hx2.1 hx2.2 (by rw [gd hz]; omega), gd hz, gd hpx, Option.map_map]
          congr 1; funext q; simp [flushS]
        · rw [List.map_append, List.map_append, hd]
          congr 1
          simp only [List.map_cons, List.map_nil, OP.d, OptR.d]
          rw [if_neg (by rw [← gd hpx]; exact hx2.1)]
        · rcases List.mem_append.1 hr with hr | hr
          · exact hf.each r hr
          · simp at hr; subst hr; exact ⟨by rw [hsn]; omega, (hB.bts.drop _).take _⟩
        · have H := H.tail
          simp only [optFs, rowO, List.map_append, List.flatten_append, List.map_cons, List.map_nil, List.flatten_cons, List.flatten_nil, List.append_nil]
          exact H
    · subst w2
      exact ⟨_, rfl, Br.yes (by decide) (bad H.start1 (by rw [ho, hpn]; rfl))⟩
  · refine ⟨⟨A1, n1, c1⟩, rs, H, hf, ?_⟩
    rw [ho, optsS_end (by omega)]
    exact ⟨rfl, by rw [hd]; simp [flushS]⟩
end
end N6
end Go.Proofs.YtkiogaglmjeplaaDoor
/- Chapter 7, reading: the document's chain of headers, and Chain. -/
namespace Go.Proofs.YtkiogaglmjeplaaDoor
namespace N6
open Go.Eng Go.RowKit
section
variable {w : World} {s : Sl} {l : List Int}
theorem bpart_drop (l : List Int) (p q n : Nat) : bpart (l.drop p) q n = bpart l (p + q) n := by
  unfold bpart; rw [List.drop_drop]
def RefChain (w : World) (L : List Int) (p0 : Nat) (r : Except Int (List EP × Int × Nat)) (e : Ending) (w' : World) : Prop :=
  ∃ (se : Sl) (xs : List ExtR), Sep (Fct.rest w None :: extFs w.heap.size se xs) w' ∧ ExtsFine se xs ∧ match r with
    | .ok (es, k', q) => e = .returned (.tuple #[se.val, .int .i64 k', .int .i64 ((p0 + q : Nat) : Int), .int .i64 0]) ∧ xs.map ExtR.d = es.map (EP.d L)
    | .error er => e = .returned (.tuple #[se.val, .int .i64 0, .int .i64 0, .int .i64 er]) ∧ se = Sl.z ∧ xs = [] ∧ er ≠ 0
set_option maxHeartbeats 8000000 in
theorem refChain_spec {k0 : Int} {p0 : Nat} {top : Bool} (hB : BytesAt w s l) (hp0 : p0 ≤ l.length) : Calls Tryd.prog 47 #[.int .i64 k0, s.val, .int .i64 p0, .bool top] w (RefChain w (l.drop p0) p0 (hdrsS (l.drop p0) top k0 0 0)) := by
  refine weirref7_chain_of k0 s.A s.n s.k p0 top w _ ?_
  unfold weirref7_chain_VC
  have hl := hB.len
  have hs := hB.small
  obtain ⟨L, hL⟩ : ∃ L, L = l.drop p0 := ⟨_, rfl⟩
  have hLl : p0 + L.length = l.length := by rw [hL, List.length_drop]; omega
  have hLB : Bts L := by rw [hL]; exact hB.bts.drop _
  rw [← hL]
  have bad : ∀ {w' : World} {er : Int}, Ext w w' → hdrsS L top k0 0 0 = .error er → er ≠ 0 → RefChain w L p0 (hdrsS L top k0 0 0) (.returned (.tuple #[.slice none 0 0, .int .i64 0, .int .i64 0, .int .i64 er])) w' := fun hE h he => ⟨Sl.z, [], ((Sep.start0 w).ext hE).nil _ _ _, ExtsFine.nil, by rw [h]; exact ⟨rfl, rfl, rfl, he⟩⟩
  refine LoopVC.of (fun st w' => ∃ (q : Nat) (es : List EP) (xs : List ExtR), st.2.1 = ((p0 + q : Nat) : Int) ∧ q ≤ L.length ∧ xs.length ≤ 8 ∧ hdrsS L top k0 0 0 = behind es (hdrsS L top st.1 q xs.length) ∧ xs.map ExtR.d = es.map (EP.d L) ∧ ExtsFine ⟨st.2.2.1, st.2.2.2.1, st.2.2.2.2⟩ xs ∧
      Sep (Fct.rest w None :: extFs w.heap.size ⟨st.2.2.1, st.2.2.2.1, st.2.2.2.2⟩ xs) w') (fun st _ => ((s.n : Int) + 1 - st.2.1).toNat)
    ⟨0, [], [], rfl, Nat.zero_le _, by decide, (behind_nil _).symm, rfl, ExtsFine.nil, (Sep.start0 w).nil _ _ _⟩ ?_
  rintro ⟨k, _, ⟨A1, n1, c1⟩⟩ w1 ⟨q, es, xs, rfl, hq, hx8, ho, hd, hf, H⟩
  show weirref7_chain_L28 _ s.A s.n s.k top k ((p0 + q : Nat) : Int) A1 n1 c1 w1 _
  simp only at ho
  have hn1 : n1 = xs.length := hf.len.symm
  unfold weirref7_chain_L28
  refine JoinVC.of (fun _ w' => w' = w1 ∧ isH k) (Br.dec (fun h => ⟨rfl, .inl h⟩) fun h1 => Br.dec (fun h => ⟨rfl, .inr (.inl h)⟩) fun h2 => Br.dec (fun h => ⟨rfl, .inr (.inr h)⟩) fun h3 => ?_) ?_
  · have hk : ¬ isH k := fun h => by unfold isH at h; omega
    refine ⟨⟨A1, n1, c1⟩, xs, H, hf, ?_⟩
    rw [ho, hdrsS_end hk]
    exact ⟨rfl, by rw [hd]; simp⟩
  rintro _ w2 ⟨hw2, hk⟩
  subst w2
  unfold weirref7_chain_J56
  have err : ∀ {er : Int}, hdrsS L top k q xs.length = .error er → hdrsS L top k0 0 0 = .error er := fun h => by rw [ho, h]; rfl
  refine JoinVC.of (fun _ w' => w' = w1 ∧ ¬ (k = 0 ∧ (top = false ∨ 0 < xs.length))) ?_ ?_
  · refine Br.dec (fun h0 => ?_) fun h0 => ⟨rfl, fun h => h0 h.1⟩
    cases top with
    | false => exact Br.t rfl (bad H.start1 (err (hdrsS_first hk ⟨h0, .inl rfl⟩)) (by decide))
    | true => exact Br.f rfl (Br.dec (fun h => bad H.start1 (err (hdrsS_first hk ⟨h0, .inr (by omega)⟩)) (by decide)) fun h => ⟨rfl, fun x => x.2.elim (fun y => by cases y) (by omega)⟩)
  rintro _ w3 ⟨hw3, hnf⟩
  subst w3
  unfold weirref7_chain_J226
  refine Br.dec (fun h8 => bad H.start1 (err (hdrsS_many hk hnf (by omega))) (by decide)) fun h8 => ?_
  rw [w64 (n := (s.n : Int) - ((p0 + q : Nat) : Int)) (by omega) (by omega)]
  refine Br.dec (fun h9 => bad H.start1 (err (hdrsS_short hk hnf (by omega) (.inl (by omega)))) (by decide)) fun h9 => ?_
  have e1 : IntKind.i64.wrap (((p0 + q : Nat) : Int) + 1) = ((p0 + q + 1 : Nat) : Int) := by rw [w64 (by omega) (by omega)]; omega
  rw [e1]
  have gd : ∀ {j : Nat} {x : Int}, l[p0 + j]? = some x → L.getD j 0 = x := fun h => by rw [hL, getD_drop, List.getD_eq_getElem?_getD, h]; rfl
  refine (hB.ext H.start1).idx (i := p0 + q + 1) rfl (by omega) fun a x hx hx0 hx1 hc => ⟨_, hc, ?_⟩
  have hgx : L.getD (q + 1) 0 = x := gd hx
  have hlen : lenH L q = 8 * x.toNat + 6 := by unfold lenH; rw [hgx]
  have e2 : IntKind.i64.wrap (IntKind.i64.wrap (8 * IntKind.i64.wrap x) + 8) = ((lenH L q + 2 : Nat) : Int) := by
    rw [w64 (n := x) (by omega) (by omega), w64 (n := 8 * x) (by omega) (by omega), w64 (by omega) (by omega)]; omega
  rw [e2]
  refine Br.dec (fun h10 => bad H.start1 (err (hdrsS_short hk hnf (by omega) (.inr (by omega)))) (by decide)) fun h10 => ?_
  refine (hB.ext H.start1).idx (i := p0 + q + 1) rfl (by omega) fun a1 x' hx' _ _ hc' => ⟨_, hc', ?_⟩
  rw [hx] at hx'; injection hx' with hx'; subst hx'
  have hw : q + 2 + lenH L q ≤ L.length := by omega
  refine NewVC.sep H fun g1 w4 H => ?_
  have H := H.front
  refine Stores.sep H 0 rfl (ExtV.one ⟨k, Sl.z, Sl.z⟩) (Nat.le_refl _) (splice_all rfl) fun w5 H => ?_
  have H := H.nil w.heap.size 65 2
  have e3 : IntKind.i64.wrap (((p0 + q : Nat) : Int) + 2) = ((p0 + q + 2 : Nat) : Int) := by rw [w64 (by omega) (by omega)]; omega
  have e4 : IntKind.i64.wrap (IntKind.i64.wrap (((p0 + q : Nat) : Int) + IntKind.i64.wrap (8 * IntKind.i64.wrap x)) + 8) = ((p0 + q + 2 + lenH L q : Nat) : Int) := by
    rw [w64 (n := x) (by omega) (by omega), w64 (n := 8 * x) (by omega) (by omega), w64 (n := ((p0 + q : Nat) : Int) + 8 * x) (by omega) (by omega), w64 (by omega) (by omega)]; omega
  rw [e3, e4]
  have hz5 := (H.restOf 1 rfl).size
  refine (part1_spec (hB.ext (H.restOf 1 rfl)) (p := p0 + q + 2) (k := lenH L q) (by omega) rfl rfl).mono ?_
  rintro _ w6 ⟨s', rfl, hsn, H6⟩
  have hbp : bpart l (p0 + q + 2) (lenH L q) = bpart L (q + 2) (lenH L q) := by rw [hL, bpart_drop]; rfl
  rw [hbp] at H6
  have H := H.made (H6.lower 1 rfl hz5)
  have hpl : (bpart L (q + 2) (lenH L q)).length = lenH L q := bpart_len (by omega)
  have hlH : lenH L q ≤ 2046 := by omega
  have hsf : BFine s' (bpart L (q + 2) (lenH L q)) := ⟨by rw [hsn]; omega, (hLB.drop _).take _⟩
  refine ⟨_, _, _, rfl, ?_⟩
  refine JoinVC.of (fun _ w' => ∃ (xv : ExtV) (ro : List OptR) (data : List Int) (os : List OP), inS k L (q + 2) (lenH L q) = some os ∧ ExtR.d ⟨xv, ro, data⟩ = EP.d L ⟨k, os, q + 2, lenH L q⟩ ∧ OptsFine xv.opts ro ∧ BFine xv.data data ∧
      Sep (Fct.blk g1 54 xv.cells :: Fct.rest w None :: (extFs w.heap.size ⟨A1, n1, c1⟩ xs ++ (optFs w.heap.size xv.opts ro ++ [rowB w.heap.size xv.data data]))) w') ?_ ?_
  · refine Br.dec (fun h43 => ?_) fun h43 => ?_
    · refine SetVC.sep H 0 rfl (show 2 < 3 by decide) fun w7 H => ⟨⟨k, Sl.z, s'⟩, [], bpart L (q + 2) (lenH L q), [], by unfold inS; rw [if_pos h43], ?_, OptsFine.nil, hsf, ?_⟩
      · unfold ExtR.d EP.d; rw [if_pos h43]; rfl
      · have e : (extFs w.heap.size ⟨A1, n1, c1⟩ xs ++ (optFs w.heap.size Sl.z [] ++ [rowB w.heap.size s' (bpart L (q + 2) (lenH L q))])) = (extFs w.heap.size ⟨A1, n1, c1⟩ xs ++ optFs w.heap.size Sl.z []) ++ [rowB w.heap.size s' (bpart L (q + 2) (lenH L q))] := by rw [List.append_assoc]
        rw [e]
        exact H
    · have hin : inS k L (q + 2) (lenH L q) = optsS (bpart L (q + 2) (lenH L q)) 0 0 := by unfold inS; rw [if_neg h43]
      have hBs : BytesAt w6 s' (bpart L (q + 2) (lenH L q)) := bytesAt_of (H.mem (List.mem_append_right _ List.mem_cons_self)) hsf
      have hz6 := (H.restOf 1 rfl).size
      refine (refOptions_spec hBs).mono ?_
      rintro e w8 ⟨so, ro, H8, hof, hm⟩
      have H8 := (AllLe.append (AllLe.refl [Fct.rest w6 None]) (optFs_less hz6)).sep H8
      cases hos : optsS (bpart L (q + 2) (lenH L q)) 0 0 with
      | none =>
        rw [hos] at hm
        obtain ⟨rfl, rfl, rfl⟩ := hm
        have hE := ((H.restOf 1 rfl).trans (H8.restOf 0 rfl))
        exact ⟨_, _, _, _, rfl, Br.yes (by decide) (bad hE (err (hdrsS_opts hk hnf (by omega) hw (hin.trans hos))) (by decide))⟩
      | some os =>
        rw [hos] at hm
        obtain ⟨rfl, hod⟩ := hm
        have H := H.mades H8
        refine ⟨_, _, _, _, rfl, Br.no (fun h => h rfl) (SetVC.sep H 0 rfl (show 1 < 3 by decide) fun w9 H => ⟨⟨k, so, Sl.z⟩, ro, [], os, hin.trans hos, ?_, hof, ⟨Nat.zero_le _, bts_nil⟩, ?_⟩)⟩
        · unfold ExtR.d EP.d; rw [if_neg h43, hod]
        · have H : Sep ((Fct.blk g1 54 (⟨k, so, Sl.z⟩ : ExtV).cells :: Fct.rest w None :: extFs w.heap.size ⟨A1, n1, c1⟩ xs) ++ [Fct.own w.heap.size 65 2 (.slice none 0 0) 0 []] ++ [rowB w.heap.size s' (bpart L (q + 2) (lenH L q))] ++ optFs w.heap.size so ro ++ [Fct.own w.heap.size 5 1 (.slice none 0 0) 0 []]) w9 := H.nil w.heap.size 5 1
          have H := H.sub (Γ' := (Fct.blk g1 54 (⟨k, so, Sl.z⟩ : ExtV).cells :: Fct.rest w None :: extFs w.heap.size ⟨A1, n1, c1⟩ xs) ++ optFs w.heap.size so ro ++ [Fct.own w.heap.size 5 1 (.slice none 0 0) 0 []]) (by
            refine List.Sublist.append (List.Sublist.append ?_ (List.Sublist.refl _)) (List.Sublist.refl _)
            exact (List.sublist_append_left _ _).trans (List.sublist_append_left _ _))
          have e : (Fct.blk g1 54 (⟨k, so, Sl.z⟩ : ExtV).cells :: Fct.rest w None :: (extFs w.heap.size ⟨A1, n1, c1⟩ xs ++ (optFs w.heap.size so ro ++ [rowB w.heap.size Sl.z []]))) = (Fct.blk g1 54 (⟨k, so, Sl.z⟩ : ExtV).cells :: Fct.rest w None :: extFs w.heap.size ⟨A1, n1, c1⟩ xs) ++ optFs w.heap.size so ro ++ [Fct.own w.heap.size 5 1 (.slice none 0 0) 0 []] := by
            simp only [List.append_assoc, List.cons_append]; rfl
          rw [e]
          exact H
  rintro _ w10 ⟨xv, ro, data, os, hin, hxd, hof, hdf, H⟩
  unfold weirref7_chain_J14527
  refine ExtV.of xv ⟨H.at 0 rfl, NewVC.sep H fun g2 w11 H => ?_⟩
  have H := H.front
  refine appE (o := xv) H 3 rfl (Cells.blk0 (H.blk 0 rfl)) (show n1 ≤ 1000000000 by omega) (H.restOf 2 rfl).size fun A2 c2 w12 H hc2 => ?_
  refine (hB.ext (H.restOf 2 rfl)).idx (i := p0 + q) rfl (by omega) fun a2 y hy hy0 hy1 hcy => ⟨_, hcy, ?_⟩
  have hgy : L.getD q 0 = y := gd hy
  rw [w64 (n := y) (by omega) (by omega), e4]
  refine ⟨⟨q + 2 + lenH L q, es ++ [⟨k, os, q + 2, lenH L q⟩], xs ++ [⟨xv, ro, data⟩], by simp only; omega, hw, by simp only [List.length_append, List.length_singleton]; omega, ?_, ?_, ⟨by simp only [List.length_append, List.length_singleton]; omega, by show n1 + 1 ≤ 4000000; omega, fun r hr => ?_, fun r hr => ?_⟩, ?_⟩, by simp only; omega⟩
  · rw [ho, hdrsS_step hk hnf (by omega) hw hin, behind_map, hgy]
    simp
  · rw [List.map_append, List.map_append, hd]
    simp only [List.map_cons, List.map_nil, hxd]
  · rcases List.mem_append.1 hr with hr | hr
    · exact hf.opts r hr
    · simp at hr; subst hr; exact hof
  · rcases List.mem_append.1 hr with hr | hr
    · exact hf.data r hr
    · simp at hr; subst hr; exact hdf
  · have H := H.tail.tail
    unfold extFs rowE
    simp only [List.map_append, List.flatten_append, List.map_cons, List.map_nil, List.flatten_cons, List.flatten_nil, List.append_nil, List.flatMap_append, List.flatMap_cons, List.flatMap_nil]
    exact H
end
end N6
end Go.Proofs.YtkiogaglmjeplaaDoor
/- Chapter 7, reading: what is read, and that it lies there; the document's Chain. -/
namespace Go.Eng
open Go Go.RowKit
theorem walkS_inside {b : List Int} (hB : Bts b) {k : Int} (hk : 0 ≤ k ∧ k ≤ 255) {inner : Bool} {t : Tail6} (h : walkS b k inner = .ok t) : (∀ x ∈ t.exts, x.inside b) ∧ t.p ≤ b.length ∧ t.exts.length ≤ 8 ∧ 0 ≤ t.next ∧ t.next ≤ 255 := by
  unfold walkS at h
  cases hh : hdrsS b (!inner) k 0 0 with
  | error e => rw [hh] at h; cases h
  | ok r =>
    obtain ⟨l, k', p⟩ := r
    obtain ⟨i1, i2, i3, i4, i5, i6⟩ := hdrsS_inside hB 8 0 k 0 l k' p (by omega) (Nat.zero_le _) hh
    have hl8 : l.length ≤ 8 := by
      rcases i5 with e | rfl
      · omega
      · simp
    rw [hh] at h
    simp only at h
    split at h
    · split at h
      · cases h
      · split at h
        · cases h
        · split at h
          · cases h
          · cases h
            exact ⟨i1, by show p + 8 ≤ b.length; omega, hl8, getD_byte hB p⟩
    · cases h
      exact ⟨i1, i2, hl8, i6 hk⟩
theorem bts_z : Bts (IPV.z : IPV).bytes := by
  intro x hx
  simp only [IPV.bytes, IPV.z, List.mem_cons, List.not_mem_nil, or_false] at hx
  omega
theorem Ip6At.z (w : World) : Ip6At w Ip6V.z [] [] := ⟨ExtsAt.nil _ _ _, BytesAt.nil _ _ _, bts_z, bts_z⟩
theorem bpart_end {b : List Int} {p : Nat} (_h : p ≤ b.length) : bpart b p (b.length - p) = b.drop p := by
  unfold bpart; exact List.take_of_length_le (by rw [List.length_drop]; omega)
end Go.Eng
namespace Go.Proofs.YtkiogaglmjeplaaDoor
namespace N6
open Go.Eng Go.RowKit
/-- A datagram and an error are handed back. -/
def Parsed6 (w : World) (r : Ip6D × Int) (e : Ending) (w' : World) : Prop := ∃ (h : Ip6V) (xs : List ExtR) (data : List Int), e = .returned (.tuple #[h.val, .int .i64 r.2]) ∧ h.d xs data = r.1 ∧ Ip6At w' h xs data ∧ Ext w w'
def Chained6 (w : World) (r : List ExtD × Int × List Int × Int) (e : Ending) (w' : World) : Prop := ∃ (se sd : Sl) (xs : List ExtR) (data : List Int), e = .returned (.tuple #[se.val, .int .i64 r.2.1, sd.val, .int .i64 r.2.2.2]) ∧ xs.map ExtR.d = r.1 ∧ data = r.2.2.1 ∧
    ExtsAt w' se xs ∧ BytesAt w' sd data ∧ Ext w w'
section
variable {w : World} {s : Sl} {l : List Int}
theorem ParseRead.at (hB : BytesAt w s l) {e : Ending} {w' : World} (h : ParseRead w s l e w') : Parsed6 w (parsed l) e w' := by
  obtain ⟨h, xs, H, hn, hm⟩ := h
  unfold parsed
  cases hp : parseS l with
  | error er =>
    rw [hp] at hm
    obtain ⟨rfl, rfl, rfl, he⟩ := hm
    exact ⟨Ip6V.z, [], [], rfl, rfl, Ip6At.z _, H.restOf 0 rfl⟩
  | ok t =>
    rw [hp] at hm
    obtain ⟨rfl, h40, hA, hd, h1, h2, h3, h4, h5, h6, h7⟩ := hm
    have hW := (hB.win (p := 40) (n := lenP l) h40).ext (H.restOf 0 rfl)
    have hwl : (bpart l 40 (lenP l)).length = lenP l := bpart_len h40
    have hp' : walkS (bpart l 40 (lenP l)) (l.getD 6 0) false = .ok t := by
      unfold parseS at hp
      split at hp
      · cases hp
      · split at hp
        · cases hp
        · split at hp
          · cases hp
          · split at hp
            · cases hp
            · exact hp
    obtain ⟨i1, i2, i3, i4⟩ := walkS_inside hW.bts (getD_byte hB.bts 6) hp'
    have hdata := hW.win (p := t.p) (n := lenP l - t.p) (by omega)
    have hdl : bpart (bpart l 40 (lenP l)) t.p (lenP l - t.p) = (bpart l 40 (lenP l)).drop t.p := by
      have := bpart_end i2
      rwa [hwl] at this
    rw [hdl] at hdata
    have hal := hA.len
    refine ⟨h, xs, (bpart l 40 (lenP l)).drop t.p, rfl, ?_, ⟨extsAt_read (b := w.heap.size) (fun f hf => H.mem (List.mem_cons_of_mem _ hf)) hW hA i1 hn.symm (by omega), by rw [hd]; exact hdata, ?_, ?_⟩, H.restOf 0 rfl⟩
    · unfold Ip6V.d Tail6.d
      rw [hA.map_eq fun x r h => h.d, h1, h2, h3, h4, h5, h6, h7]
      rfl
    · rw [h4]; intro x hx
      have e := ipOf_back (v := 6) (l := bpart l 8 16) (bpart_len (by omega))
      rw [e] at hx
      exact (hB.bts.drop _).take _ x hx
    · rw [h5]; intro x hx
      have e := ipOf_back (v := 6) (l := bpart l 24 16) (bpart_len (by omega))
      rw [e] at hx
      exact (hB.bts.drop _).take _ x hx
theorem parse_at (hB : BytesAt w s l) (hK : Kn w) : Calls Tryd.prog 13 #[s.val] w (Parsed6 w (parsed l)) := (parse_spec hB hK).mono fun _ _ h => h.at hB
theorem ChainRead.at {next : Int} (hB : BytesAt w s l) {e : Ending} {w' : World} (h : ChainRead w s l (chainS next l) e w') : Chained6 w (chained next l) e w' := by
  obtain ⟨se, sd, xs, H, hn, hm⟩ := h
  unfold chained
  cases hp : chainS next l with
  | error er =>
    rw [hp] at hm
    obtain ⟨rfl, rfl, rfl, rfl, he⟩ := hm
    exact ⟨Sl.z, Sl.z, [], [], rfl, rfl, rfl, ExtsAt.nil _ _ _, BytesAt.nil _ _ _, H.restOf 0 rfl⟩
  | ok t =>
    rw [hp] at hm
    obtain ⟨rfl, hA, hd⟩ := hm
    have hp' : walkS l next true = .ok t ∧ (0 ≤ next ∧ next ≤ 255) := by
      unfold chainS at hp
      split at hp
      · cases hp
      · split at hp
        · cases hp
        · exact ⟨hp, by omega⟩
    have hB' := hB.ext (H.restOf 0 rfl)
    obtain ⟨i1, i2, i3, i4⟩ := walkS_inside hB.bts hp'.2 hp'.1
    have hdata := hB'.win (p := t.p) (n := l.length - t.p) (by omega)
    rw [bpart_end i2] at hdata
    have hal := hA.len
    exact ⟨se, sd, xs, l.drop t.p, rfl, hA.map_eq fun x r h => h.d, rfl, extsAt_read (b := w.heap.size) (fun f hf => H.mem (List.mem_cons_of_mem _ hf)) hB' hA i1 hn.symm (by omega), by rw [hd]; exact hdata, H.restOf 0 rfl⟩
theorem chain_at {next : Int} (hB : BytesAt w s l) (hK : Kn w) : Calls Tryd.prog 24 #[.int .i64 next, s.val] w (Chained6 w (chained next l)) := (chain_spec hB hK).mono fun _ _ h => h.at hB
/-- The document's Chain. -/
theorem refChained_spec {next : Int} (hB : BytesAt w s l) : Calls Tryd.prog 67 #[.int .i64 next, s.val] w (Chained6 w (chained next l)) := by
  refine weirref7_Chain_of next s.A s.n s.k w _ ?_
  unfold weirref7_Chain_VC
  have hl := hB.len
  have hs := hB.small
  have bad : ∀ {w' : World} {er : Int}, Ext w w' → chainS next l = .error er → Chained6 w (chained next l) (.returned (.tuple #[.slice none 0 0, .int .i64 0, .slice none 0 0, .int .i64 er])) w' := fun hE h => ⟨Sl.z, Sl.z, [], [], by unfold chained; rw [h]; rfl, by unfold chained; rw [h]; rfl, by unfold chained; rw [h], ExtsAt.nil _ _ _, BytesAt.nil _ _ _, hE⟩
  refine refOut_spec.mono ?_
  rintro _ w1 ⟨hw1, rfl⟩
  subst w1
  refine ⟨_, rfl, Br.dec (fun h => bad (Mod.refl _ _) (by unfold chainS; rw [if_pos h])) fun h => Br.dec (fun h2 => bad (Mod.refl _ _) (by unfold chainS; rw [if_neg h, if_pos (by omega)])) fun h2 => ?_⟩
  have hch : chainS next l = walkS l next true := by unfold chainS; rw [if_neg h, if_neg (by omega)]
  refine (refChain_spec (k0 := next) (p0 := 0) (top := false) hB (Nat.zero_le _)).mono ?_
  rintro e w2 ⟨se, xs, H, hf, hm⟩
  rw [List.drop_zero] at hm
  cases hh : hdrsS l false next 0 0 with
  | error er =>
    rw [hh] at hm
    obtain ⟨rfl, rfl, rfl, he⟩ := hm
    exact ⟨_, _, _, _, _, _, rfl, Br.yes he (bad (H.restOf 0 rfl) (by rw [hch]; unfold walkS; rw [Bool.not_true, hh]))⟩
  | ok r =>
    obtain ⟨es, k', q⟩ := r
    rw [hh] at hm
    obtain ⟨rfl, hd⟩ := hm
    have hin := hdrsS_inside hB.bts 8 0 next 0 es k' q (by omega) (Nat.zero_le _) hh
    refine ⟨_, _, _, _, _, _, rfl, Br.no (fun h => h rfl) (Br.dec (fun h44 => bad (H.restOf 0 rfl) ?_) fun h44 => ?_)⟩
    · rw [hch]; unfold walkS; rw [Bool.not_true, hh]; simp only; rw [if_pos h44, if_pos trivial]
    · have hz := (H.restOf 0 rfl).size
      refine (part1_spec (hB.ext (H.restOf 0 rfl)) (p := q) (k := l.length - q) (by omega) (by omega) (by omega)).mono ?_
      rintro _ w3 ⟨s', rfl, hsn, H3⟩
      have hch2 : chained next l = (es.map (EP.d l), k', l.drop q, 0) := by
        unfold chained; rw [hch]; unfold walkS; rw [Bool.not_true, hh]; simp only; rw [if_neg h44]
      rw [hch2]
      rw [bpart_end hin.2.1] at H3
      have hE3 := H3.restOf 0 rfl
      have H := H.ext hE3
      exact ⟨_, _, _, rfl, se, s', xs, l.drop q, rfl, hd, rfl, extsAt_of (b := w.heap.size) (fun f hf => H.mem (List.mem_cons_of_mem _ hf)) hf, bytesAt_of (H3.own 1 rfl) ⟨by rw [hsn]; omega, hB.bts.drop _⟩, H.restOf 0 rfl⟩
theorem ipOf_cells {v : Int} {l : List Int} (h : l.length = 16) : (ipOf v l).cells = .int .i64 v :: l.map (.int .u8) := by
  match l, h with
  | [a0, a1, a2, a3, a4, a5, a6, a7, a8, a9, a10, a11, a12, a13, a14, a15], _ => rfl
theorem take_set_next {X : List Int} {i : Nat} {x : Int} (hX : X.length = 16) (hx : X[i]? = some x) : (X.take i ++ List.replicate (16 - i) 0).set i x = X.take (i + 1) ++ List.replicate (16 - (i + 1)) 0 := by
  have hi := (List.getElem?_eq_some_iff.1 hx).1
  have hl : (X.take i).length = i := by rw [List.length_take]; omega
  rw [List.set_append_right _ _ (by omega), hl, Nat.sub_self, show 16 - i = (16 - (i + 1)) + 1 by omega, List.replicate_succ, List.set_cons_zero, List.take_add_one, hx]
  simp
set_option maxHeartbeats 1000000 in
theorem address_spec (hB : BytesAt w s l) {p : Nat} (hp : p + 16 ≤ l.length) : Calls Tryd.prog 48 #[s.val, .int .i64 p] w fun e w' => Ext w w' ∧ e = .returned (ipOf 6 (bpart l p 16)).val := by
  refine weirref7_address_of s.A s.n s.k p w _ ?_
  unfold weirref7_address_VC
  have hl := hB.len
  have hs := hB.small
  have hX : (bpart l p 16).length = 16 := bpart_len hp
  refine NewVC.sep (Sep.start0 w) fun g1 w1 H => NewVC.sep H fun g2 w2 H => Stores.sep H 2 rfl (IPV.one (ipOf 6 (List.replicate 16 0))) (Nat.le_refl _) (splice_all rfl) fun w3 H => ?_
  have H : Sep [Fct.rest w None, Fct.blk g1 25 (IPV.z : IPV).cells, Fct.blk g2 25 (.int .i64 6 :: ((bpart l p 16).take 0 ++ List.replicate (16 - 0) 0).map (.int .u8))] w3 := H
  refine LoopVC.of (fun st w' => ∃ i : Nat, st = (i : Int) ∧ i ≤ 16 ∧ Sep [Fct.rest w None, Fct.blk g1 25 (IPV.z : IPV).cells, Fct.blk g2 25 (.int .i64 6 :: ((bpart l p 16).take i ++ List.replicate (16 - i) 0).map (.int .u8))] w') (fun st _ => (16 - st).toNat)
    ⟨0, rfl, by decide, H⟩ ?_
  rintro _ w4 ⟨i, rfl, hi, H⟩
  unfold weirref7_address_L58
  refine Br.dec (fun hlt => ?_) fun hge => ?_
  · have e0 : IntKind.i64.wrap ((p : Int) + (i : Int)) = ((p + i : Nat) : Int) := by rw [w64 (by omega) (by omega)]; omega
    rw [e0]
    refine (hB.ext (H.restOf 0 rfl)).idx (i := p + i) rfl (by omega) fun a x hx hx0 hx1 hc => ⟨_, hc, ?_⟩
    have hxx : (bpart l p 16)[i]? = some x := by unfold bpart; rw [List.getElem?_take_of_lt (by omega), List.getElem?_drop]; exact hx
    refine ⟨_, rfl, by omega, by omega, ?_⟩
    rw [Int.toNat_natCast, Nat.mul_one, addr_add]
    refine SetVC.sep H 2 rfl (show 1 + i < _ by simp only [List.length_cons, List.length_map, List.length_append, List.length_take, List.length_replicate]; omega) fun w5 H => ?_
    rw [w64 (by omega) (by omega)]
    refine ⟨⟨i + 1, by omega, by omega, ?_⟩, by omega⟩
    have e : (Value.int IntKind.i64 6 :: ((bpart l p 16).take i ++ List.replicate (16 - i) 0).map (.int .u8)).set (1 + i) (.int .u8 x) = (Value.int IntKind.i64 6 :: ((bpart l p 16).take (i + 1) ++ List.replicate (16 - (i + 1)) 0).map (.int .u8)) := by
      rw [Nat.add_comm, List.set_cons_succ, ← take_set_next hX hxx, map_set]
    rw [← e]
    exact H
  · have hi16 : i = 16 := by omega
    subst hi16
    have e : (Value.int IntKind.i64 6 :: ((bpart l p 16).take 16 ++ List.replicate (16 - 16) 0).map (.int .u8)) = (ipOf 6 (bpart l p 16)).cells := by
      rw [ipOf_cells hX, List.take_of_length_le (by omega)]; simp
    rw [e] at H
    exact IPV.of (ipOf 6 (bpart l p 16)) ⟨H.at 2 rfl, Stores.sep H 1 rfl (IPV.one _) (Nat.le_refl _) (splice_all rfl) fun w6 H => IPV.of (ipOf 6 (bpart l p 16)) ⟨H.at 1 rfl, H.restOf 0 rfl, rfl⟩⟩
end
end N6
end Go.Proofs.YtkiogaglmjeplaaDoor
/- Chapter 7, reading: the document's Parse. -/
namespace Go.Eng
open Go Go.RowKit
theorem bnum_four {a b c d : Int} : beNum [a, b, c, d] = ((a * 256 + b) * 256 + c) * 256 + d := by simp [beNum]
theorem four_at {l : List Int} {p : Nat} (h : p + 4 ≤ l.length) : (l.drop p).take 4 = [l.getD p 0, l.getD (p + 1) 0, l.getD (p + 2) 0, l.getD (p + 3) 0] := by
  have e : ∀ j, j < 4 → l[p + j]? = some (l.getD (p + j) 0) := fun j hj => by
    rw [List.getD_eq_getElem?_getD, List.getElem?_eq_getElem (by omega)]; rfl
  have g0 := e 0 (by decide); have g1 := e 1 (by decide); have g2 := e 2 (by decide); have g3 := e 3 (by decide)
  rw [Nat.add_zero] at g0
  apply List.ext_getElem?
  intro j
  rw [List.getElem?_take]
  split
  · rename_i hj
    rw [List.getElem?_drop]
    match j, hj with
    | 0, _ => simpa using g0
    | 1, _ => simpa using g1
    | 2, _ => simpa using g2
    | 3, _ => simpa using g3
  · rename_i hj
    rw [List.getElem?_eq_none (by simp; omega)]
theorem uintS_four {l : List Int} {p : Nat} (h : p + 4 ≤ l.length) : uintS l (p : Int) 4 = (((l.getD p 0 * 256 + l.getD (p + 1) 0) * 256 + l.getD (p + 2) 0) * 256 + l.getD (p + 3) 0, 0) := by
  unfold uintS
  rw [if_neg (by omega), if_pos (by omega), Int.toNat_natCast, show (4 : Int).toNat = 4 from rfl, four_at h, bnum_four]
end Go.Eng
namespace Go.Proofs.YtkiogaglmjeplaaDoor
namespace N6
open Go.Eng Go.RowKit
section
variable {w : World} {s : Sl} {l : List Int}
/-- What is known of the datagram that is being read: its headers, which end at q in L. -/
structure Half (w : World) (l : List Int) (t : List EP) (k : Int) (h : Ip6V) (xs : List ExtR) : Prop where
  d : xs.map ExtR.d = t.map (EP.d (bpart l 40 (lenP l)))
  fine : ExtsFine h.exts xs
  cls : h.cls = (F6 l).getD 1 0
  flow : h.flow = (F6 l).getD 2 0
  hop : h.hop = l.getD 7 0
  src : h.src = ipOf 6 (bpart l 8 16)
  dst : h.dst = ipOf 6 (bpart l 24 16)
set_option maxHeartbeats 8000000 in
theorem refParse_tail {R : Ending → World → Prop} {g1 g3 q : Nat} {k : Int} {t : List EP} {h0 : Ip6V} {xs : List ExtR} {s1 : Sl} {w14 : World} (hB : BytesAt w s l) (h40 : 40 + lenP l ≤ l.length)
    (hR : ∀ e w', Parsed6 w (parsed l) e w' → R e w') (hB1 : BytesAt w s1 (l.take (40 + lenP l))) (hH : Half w l t k h0 xs) (hf : h0.frag = FragV.z) (hk : h0.next = k) (hq : q ≤ lenP l)
    (hp : parseS l = if k = 44 then (if (bpart l 40 (lenP l)).length < q + 8 then .error 72 else if fitsS (fragAt (bpart l 40 (lenP l)) q) ((bpart l 40 (lenP l)).length - (q + 8)) = false then .error 76 else .ok ⟨t, fragAt (bpart l 40 (lenP l)) q, (bpart l 40 (lenP l)).getD q 0, q + 8⟩) else .ok ⟨t, FragV.z, k, q⟩)
    (H : Sep (Fct.blk g3 30 h0.cells :: Fct.rest w None :: Fct.blk g1 30 (Ip6V.z : Ip6V).cells :: extFs w.heap.size h0.exts xs) w14) :
    weirref7_Parse_D2046 R k s1.n ((40 + q : Nat) : Int) g1 w14 s1.A s1.k g3 := by
  unfold weirref7_Parse_D2046
  have hl := hB.len
  have hs := hB.small
  obtain ⟨L, hL⟩ : ∃ L, L = bpart l 40 (lenP l) := ⟨_, rfl⟩
  have hLl : L.length = lenP l := by rw [hL]; exact bpart_len h40
  have hl1 : (l.take (40 + lenP l)).length = 40 + lenP l := by rw [List.length_take]; omega
  have hs1 : s1.n = 40 + lenP l := by rw [← hB1.len, hl1]
  have hLB : Bts L := by rw [hL]; exact (hB.bts.drop _).take _
  rw [← hL] at hp
  have gL : ∀ j, j < lenP l → (l.take (40 + lenP l))[40 + j]? = some (L.getD j 0) := fun j hj => by
    rw [List.getElem?_take_of_lt (by omega), hL, List.getD_eq_getElem?_getD]
    unfold bpart
    rw [List.getElem?_take_of_lt hj, List.getElem?_drop, List.getElem?_eq_getElem (by omega)]; rfl
  have gD : ∀ j, j < lenP l → (l.take (40 + lenP l)).getD (40 + j) 0 = L.getD j 0 := fun j hj => by rw [List.getD_eq_getElem?_getD, gL j hj]; rfl
  have bad : ∀ {err : Int} {w' : World}, parseS l = .error err → Ext w w' → Sep (Fct.blk g1 30 (Ip6V.z : Ip6V).cells :: [Fct.rest w None]) w' → Stores ⟨g1, 0, none⟩ 0 (Ip6V.z : Ip6V).cells w' fun w3 => Ip6V.ex fun res => CellsAt w3 ⟨g1, 0, none⟩ 0 res.cells ∧ R (.returned (.tuple #[res.val, .int .i64 err])) w3 := by
    intro err w' hp _ H
    refine Stores.sep H 0 rfl (Ip6V.one Ip6V.z) (Nat.le_refl _) (splice_all rfl) fun w8 H => Ip6V.of Ip6V.z ⟨H.at 0 rfl, hR _ _ ⟨Ip6V.z, [], [], ?_, ?_, Ip6At.z _, H.restOf 1 rfl⟩⟩
    · unfold parsed; rw [hp]
    · unfold parsed; rw [hp]; rfl
  have two : ∀ {h : Ip6V} {w' : World}, Sep (Fct.blk g3 30 h.cells :: Fct.rest w None :: Fct.blk g1 30 (Ip6V.z : Ip6V).cells :: extFs w.heap.size h0.exts xs) w' → Sep (Fct.blk g1 30 (Ip6V.z : Ip6V).cells :: [Fct.rest w None]) w' := fun H => (H.tail.take 2).perm (List.Perm.swap _ _ _)
  -- the end: the datagram h, its data from p on
  refine JoinVC.of (fun st w' => ∃ (h : Ip6V) (p : Nat) (tl : Tail6), st = ((40 + p : Nat) : Int) ∧ p ≤ lenP l ∧ Half w l t k h xs ∧ h.exts = h0.exts ∧ tl = ⟨t, h.frag, h.next, p⟩ ∧ (if h.frag.has = true then 0 ≤ h.frag.off ∧ h.frag.off ≤ 65528 else True) ∧
      parseS l = (if h.frag.has = true ∧ fitsS h.frag (lenP l - p) = false then .error 76 else .ok tl) ∧
      Sep (Fct.blk g3 30 h.cells :: Fct.rest w None :: Fct.blk g1 30 (Ip6V.z : Ip6V).cells :: extFs w.heap.size h0.exts xs) w') ?_ ?_
  · refine Br.dec (fun h44 => ?_) fun h44 => ?_
    · rw [if_pos h44] at hp
      rw [w64 (n := (s1.n : Int) - ((40 + q : Nat) : Int)) (by omega) (by omega)]
      refine Br.dec (fun h8 => ?_) fun h8 => ?_
      · rw [if_pos (by omega)] at hp
        exact bad hp (H.restOf 1 rfl) (two H)
      rw [if_neg (by omega)] at hp
      have e4 : IntKind.i64.wrap (((40 + q : Nat) : Int) + 4) = ((40 + q + 4 : Nat) : Int) := by rw [w64 (by omega) (by omega)]; omega
      rw [e4]
      have hB1' := hB1.ext (H.restOf 1 rfl)
      refine (refUint_spec (p := ((40 + q + 4 : Nat) : Int)) (k := 4) hB1'.cells hB1.len hB1.bts (by omega)).mono ?_
      rintro _ w16 ⟨hw16, rfl⟩
      subst w16
      rw [uintS_four (by rw [hl1]; omega)]
      have c4 : (l.take (40 + lenP l)).getD (40 + q + 4) 0 = L.getD (q + 4) 0 := by rw [Nat.add_assoc]; exact gD (q + 4) (by omega)
      have c5 : (l.take (40 + lenP l)).getD (40 + q + 4 + 1) 0 = L.getD (q + 5) 0 := by rw [show 40 + q + 4 + 1 = 40 + (q + 5) by omega]; exact gD (q + 5) (by omega)
      have c6 : (l.take (40 + lenP l)).getD (40 + q + 4 + 2) 0 = L.getD (q + 6) 0 := by rw [show 40 + q + 4 + 2 = 40 + (q + 6) by omega]; exact gD (q + 6) (by omega)
      have c7 : (l.take (40 + lenP l)).getD (40 + q + 4 + 3) 0 = L.getD (q + 7) 0 := by rw [show 40 + q + 4 + 3 = 40 + (q + 7) by omega]; exact gD (q + 7) (by omega)
      have b4 := getD_byte hLB (q + 4)
      have b5 := getD_byte hLB (q + 5)
      have b6 := getD_byte hLB (q + 6)
      have b7 := getD_byte hLB (q + 7)
      have b2 := getD_byte hLB (q + 2)
      have b3 := getD_byte hLB (q + 3)
      have b0 := getD_byte hLB q
      refine ⟨_, _, rfl, DrawVC.sep H (fun w' => BytesAt w' s1 (l.take (40 + lenP l))) fun w17 H => ⟨hB1.ext (H.restOf 1 rfl), ?_⟩⟩
      have e2 : IntKind.i64.wrap (((40 + q : Nat) : Int) + 2) = ((40 + (q + 2) : Nat) : Int) := by rw [w64 (by omega) (by omega)]; omega
      have e3 : IntKind.i64.wrap (((40 + q : Nat) : Int) + 3) = ((40 + (q + 3) : Nat) : Int) := by rw [w64 (by omega) (by omega)]; omega
      rw [e2, e3]
      refine IdxVC.draw (k := .u8) (xs := l.take (40 + lenP l)) (w := w17) (S := fun w' => BytesAt w' s1 (l.take (40 + lenP l))) (hB1.ext (H.restOf 1 rfl)) (fun w' h => h.cells) (by omega) (by omega) hB1.len fun a2 ha2 => ⟨_, ha2, ?_⟩
      refine IdxVC.draw (k := .u8) (xs := l.take (40 + lenP l)) (w := w17) (S := fun w' => BytesAt w' s1 (l.take (40 + lenP l))) (hB1.ext (H.restOf 1 rfl)) (fun w' h => h.cells) (by omega) (by omega) hB1.len fun a3 ha3 => ⟨_, ha3, ?_⟩
      rw [Int.toNat_natCast, Int.toNat_natCast, gD (q + 2) (by omega), gD (q + 3) (by omega), c4, c5, c6, c7]
      have elow : IntKind.i64.wrap (IntKind.i64.wrap (256 * IntKind.i64.wrap (L.getD (q + 2) 0)) + IntKind.i64.wrap (L.getD (q + 3) 0)) = 256 * L.getD (q + 2) 0 + L.getD (q + 3) 0 := by
        rw [w64 (n := L.getD (q + 2) 0) (by omega) (by omega), w64 (n := 256 * L.getD (q + 2) 0) (by omega) (by omega), w64 (n := L.getD (q + 3) 0) (by omega) (by omega), w64 (by omega) (by omega)]
      rw [elow]
      have etm : Int.tmod (256 * L.getD (q + 2) 0 + L.getD (q + 3) 0) 2 = L.getD (q + 3) 0 % 2 := by rw [Int.tmod_eq_emod_of_nonneg (by omega)]; omega
      have etd : IntKind.i64.wrap (IntKind.i64.wrap (Int.tdiv (256 * L.getD (q + 2) 0 + L.getD (q + 3) 0) 8) * 8) = (L.getD (q + 2) 0 * 32 + L.getD (q + 3) 0 / 8) * 8 := by
        rw [Int.tdiv_eq_ediv_of_nonneg (by omega), w64 (n := (256 * L.getD (q + 2) 0 + L.getD (q + 3) 0) / 8) (by omega) (by omega), w64 (by omega) (by omega)]; omega
      rw [etm, etd, w64 (n := ((L.getD (q + 4) 0 * 256 + L.getD (q + 5) 0) * 256 + L.getD (q + 6) 0) * 256 + L.getD (q + 7) 0) (by omega) (by omega)]
      obtain ⟨h1, hh1⟩ : ∃ h1 : Ip6V, h1 = { h0 with frag := fragAt L q } := ⟨_, rfl⟩
      refine Stores.sep H 0 rfl (o := 38) (cs' := h1.cells) (FragV.one (fragAt L q)) (show 38 + 4 ≤ 44 by decide) (by rw [hh1]; rfl) fun w18 H => ?_
      refine IdxVC.int (k := .u8) (xs := l.take (40 + lenP l)) (hB1.ext (H.restOf 1 rfl)).cells (by omega) (by omega) hB1.len fun a9 ha9 => ⟨_, ha9, ?_⟩
      rw [Int.toNat_natCast, gD q (by omega), w64 (n := L.getD q 0) (by omega) (by omega)]
      obtain ⟨h2, hh2⟩ : ∃ h2 : Ip6V, h2 = { h1 with next := L.getD q 0 } := ⟨_, rfl⟩
      refine SetVC.sep H 0 rfl (show 42 < 44 by decide) fun w19 H => ?_
      have ec : h1.cells.set 42 (.int .i64 (L.getD q 0)) = h2.cells := by rw [hh2]; rfl
      rw [ec] at H
      rw [w64 (by omega) (by omega)]
      have hft : (fragAt L q).has = true := rfl
      refine ⟨h2, q + 8, ⟨t, h2.frag, h2.next, q + 8⟩, by omega, by omega, ?_, by rw [hh2, hh1], rfl, ?_, ?_, H⟩
      · rw [hh2, hh1]; exact ⟨hH.d, hH.fine, hH.cls, hH.flow, hH.hop, hH.src, hH.dst⟩
      · rw [hh2, hh1]
        simp only [hft, if_true]
        unfold fragAt
        simp only
        omega
      · rw [hp, hh2, hh1]
        simp only [hft, true_and, hLl]
    · rw [if_neg h44] at hp
      refine ⟨h0, q, ⟨t, h0.frag, h0.next, q⟩, rfl, hq, hH, rfl, rfl, ?_, ?_, H⟩
      · rw [hf]; exact trivial
      · rw [hp, hf, hk, if_neg (fun x => by cases x.1)]
  rintro _ w20 ⟨h, p, tl, rfl, hpl, hh, hex, htl, hoff, hps, H⟩
  unfold weirref7_Parse_J2047
  have hz := (H.restOf 1 rfl).size
  refine (part1_spec (hB1.ext (H.restOf 1 rfl)) (p := 40 + p) (k := lenP l - p) (by rw [hl1]; omega) rfl (by omega)).mono ?_
  rintro _ w21 ⟨s', rfl, hsn, H21⟩
  have hbd : bpart (l.take (40 + lenP l)) (40 + p) (lenP l - p) = L.drop p := by
    rw [hL]; unfold bpart
    rw [List.drop_take, List.drop_take, List.take_take, List.drop_drop]
    congr 1
    omega
  rw [hbd] at H21
  have H := H.made (H21.lower 1 rfl hz)
  have hdl : (L.drop p).length = lenP l - p := by rw [List.length_drop]; omega
  obtain ⟨h3, hh3⟩ : ∃ h3 : Ip6V, h3 = { h with data := s' } := ⟨_, rfl⟩
  refine ⟨_, _, _, rfl, SetVC.sep H 0 rfl (show 43 < 44 by decide) fun w22 H => ?_⟩
  have ec : h.cells.set 43 (.slice s'.A s'.n s'.k) = h3.cells := by rw [hh3]; rfl
  rw [ec] at H
  have good : ∀ {w' : World}, parseS l = .ok tl → Sep (Fct.blk g3 30 h3.cells :: Fct.rest w None :: Fct.blk g1 30 (Ip6V.z : Ip6V).cells :: (extFs w.heap.size h0.exts xs ++ [rowB w.heap.size s' (L.drop p)])) w' →
      Ip6V.ex fun h2 => CellsAt w' ⟨g3, 0, none⟩ 0 h2.cells ∧ Stores ⟨g1, 0, none⟩ 0 h2.cells w' fun w25 => Ip6V.ex fun res7 => CellsAt w25 ⟨g1, 0, none⟩ 0 res7.cells ∧ R (.returned (.tuple #[res7.val, .int .i64 0])) w25 := by
    intro w' hok H
    refine Ip6V.of h3 ⟨H.at 0 rfl, Stores.sep H 2 rfl (Ip6V.one h3) (Nat.le_refl _) (splice_all rfl) fun w25 H => Ip6V.of h3 ⟨H.at 2 rfl, hR _ _ ⟨h3, xs, L.drop p, ?_, ?_, ⟨?_, ?_, ?_, ?_⟩, H.restOf 1 rfl⟩⟩⟩
    · unfold parsed; rw [hok]
    · unfold parsed; rw [hok, htl]
      simp only
      unfold Ip6V.d Tail6.d
      simp only
      rw [hh3]
      simp only
      rw [hh.d, hh.cls, hh.flow, hh.hop, hh.src, hh.dst, hL]
      rfl
    · have e : h3.exts = h0.exts := by rw [hh3]; exact hex
      have hfi := hh.fine
      rw [hex] at hfi
      rw [e]
      exact extsAt_of (b := w.heap.size) (fun f hf => H.mem (List.mem_cons_of_mem _ (List.mem_cons_of_mem _ (List.mem_cons_of_mem _ (List.mem_append_left _ hf))))) hfi
    · have e : h3.data = s' := by rw [hh3]
      rw [e]
      exact bytesAt_of (b := w.heap.size) (H.mem (List.mem_cons_of_mem _ (List.mem_cons_of_mem _ (List.mem_cons_of_mem _ (List.mem_append_right _ List.mem_cons_self))))) ⟨by rw [hsn]; omega, hLB.drop _⟩
    · have e : h3.src = ipOf 6 (bpart l 8 16) := by rw [hh3]; exact hh.src
      rw [e]; intro x hx
      rw [ipOf_back (v := 6) (l := bpart l 8 16) (bpart_len (by omega))] at hx
      exact (hB.bts.drop _).take _ x hx
    · have e : h3.dst = ipOf 6 (bpart l 24 16) := by rw [hh3]; exact hh.dst
      rw [e]; intro x hx
      rw [ipOf_back (v := 6) (l := bpart l 24 16) (bpart_len (by omega))] at hx
      exact (hB.bts.drop _).take _ x hx
  have e38 : h3.frag = h.frag := by rw [hh3]
  refine ⟨_, H.cell 0 rfl 38 rfl, ?_⟩
  rw [e38]
  cases hhas : h.frag.has with
  | false =>
    rw [hhas, if_neg (fun x => by cases x.1)] at hps
    exact Br.f rfl (good hps H)
  | true =>
    rw [hhas] at hps hoff
    simp only [if_true] at hoff
    refine Br.t rfl ⟨_, H.cell 0 rfl 41 rfl, _, H.cell 0 rfl 39 rfl, _, _, _, H.cell 0 rfl 43 rfl, ?_⟩
    rw [e38]
    have ed : h3.data.n = lenP l - p := by rw [hh3]; exact hsn
    rw [ed]
    refine (piece_spec (f := h.frag) (k := lenP l - p) (by omega) hoff).mono ?_
    rintro _ w23 ⟨hw23, rfl⟩
    subst w23
    refine ⟨_, rfl, ?_⟩
    cases hfit : fitsS h.frag (lenP l - p) with
    | false =>
      rw [hfit, if_pos ⟨rfl, rfl⟩] at hps
      exact Br.t rfl (bad hps (H.restOf 1 rfl) ((H.tail.take 2).perm (List.Perm.swap _ _ _)))
    | true =>
      rw [hfit, if_neg (fun x => by cases x.2)] at hps
      exact Br.f rfl (good hps H)
end
end N6
end Go.Proofs.YtkiogaglmjeplaaDoor
/- Chapter 7, reading: the document's Parse (the head); Canonical and Hop. -/
namespace Go.Proofs.YtkiogaglmjeplaaDoor
namespace N6
open Go.Eng Go.RowKit
section
variable {w : World} {s : Sl} {l : List Int}
set_option maxHeartbeats 8000000 in
theorem refParse_spec (hB : BytesAt w s l) : Calls Tryd.prog 14 #[s.val] w (Parsed6 w (parsed l)) := by
  refine weirref7_Parse_of s.A s.n s.k w _ ?_
  unfold weirref7_Parse_VC
  have hl := hB.len
  have hs := hB.small
  have bad : ∀ {err : Int} {w' : World} {Γ : List Fct} {g1 : Nat}, parseS l = .error err → Sep (Fct.rest w None :: Fct.blk g1 30 (Ip6V.z : Ip6V).cells :: Γ) w' → Stores ⟨g1, 0, none⟩ 0 (Ip6V.z : Ip6V).cells w' fun w3 => Ip6V.ex fun res => CellsAt w3 ⟨g1, 0, none⟩ 0 res.cells ∧ Parsed6 w (parsed l) (.returned (.tuple #[res.val, .int .i64 err])) w3 := by
    intro err w' Γ g1 hp H
    refine Stores.sep H 1 rfl (Ip6V.one Ip6V.z) (Nat.le_refl _) (splice_all rfl) fun w8 H => Ip6V.of Ip6V.z ⟨H.at 1 rfl, Ip6V.z, [], [], ?_, ?_, Ip6At.z _, H.restOf 0 rfl⟩
    · unfold parsed; rw [hp]
    · unfold parsed; rw [hp]; rfl
  refine NewVC.sep (Sep.start0 w) fun g1 w1 H => ?_
  refine Br.dec (fun h1 => bad (by unfold parseS; rw [if_pos (by omega)]) H) fun h1 => Br.dec (fun h2 => bad (by unfold parseS; rw [if_neg (by omega), if_pos (by omega)]) H) fun h2 => ?_
  refine NewVC.sep H fun g2 w4 H => ?_
  have hws : Cells w4 (some ⟨g2, 0, none⟩) (ws6.map (.int .i64)) := Cells.blk0 (H.blk 2 rfl)
  refine (refFields_spec (c := s.k) (d := 6) (p := 0) (ws := ws6) (hB.ext (H.restOf 0 rfl)).cells hl hB.bts (by omega) hws rfl).mono ?_
  rintro _ w5 ⟨hE5, ⟨hok, _, _, A', c', rfl, hrow⟩ | ⟨hno, _⟩ | ⟨_, hno, _⟩⟩
  rotate_left 1
  · exact absurd ws6_ok hno
  · exact absurd ⟨Int.le_refl _, by rw [psum_ws6]; omega⟩ hno
  rw [ws6_at hB.bts (by omega)] at hrow
  have H := (H.pushOwn hE5 hrow (Nat.le_refl _)).lower 3 rfl (b' := w.heap.size) (H.restOf 0 rfl).size
  have H : Sep [Fct.rest w None, Fct.blk g1 30 (Ip6V.z : Ip6V).cells, Fct.own w.heap.size 3 1 (.slice A' 6 c') 6 ((F6 l).map (.int .i64))] w5 := H.sub (.cons_cons _ (.cons_cons _ (.cons _ (List.Sublist.refl _))))
  have b0 := getD_byte hB.bts 0
  have b4 := getD_byte hB.bts 4
  have b5 := getD_byte hB.bts 5
  refine ⟨_, _, _, _, _, rfl, ?_⟩
  refine IdxVC.int (k := .i64) (xs := F6 l) (H.cells 2 rfl) (by decide) (by decide) rfl fun a ha => ⟨_, ha, Br.dec (fun h3 => bad ?_ H) fun h3 => ?_⟩
  · have h3 : l.getD 0 0 / 16 ≠ 6 := h3
    unfold parseS; rw [if_neg (by omega), if_neg (by omega), if_pos h3]
  have h3 : l.getD 0 0 / 16 = 6 := Classical.not_not.1 h3
  have e3 : (F6 l).getD (3 : Int).toNat 0 = ((lenP l : Nat) : Int) := by
    show l.getD 4 0 * 256 + l.getD 5 0 = _
    unfold lenP; omega
  refine IdxVC.int (k := .i64) (xs := F6 l) (H.cells 2 rfl) (by decide) (by decide) rfl fun a1 ha1 => ⟨_, ha1, ?_⟩
  rw [e3, w64 (n := (s.n : Int) - 40) (by omega) (by omega)]
  refine Br.dec (fun h4 => bad ?_ H) fun h4 => ?_
  · unfold parseS; rw [if_neg (by omega), if_neg (by omega), if_neg (by omega), if_pos (by omega)]
  have h40 : 40 + lenP l ≤ l.length := by omega
  have hpw : parseS l = walkS (bpart l 40 (lenP l)) (l.getD 6 0) false := by
    unfold parseS; rw [if_neg (by omega), if_neg (by omega), if_neg (by omega), if_neg (by omega)]
  have hcap := hB.cap
  refine IdxVC.int (k := .i64) (xs := F6 l) (H.cells 2 rfl) (by decide) (by decide) rfl fun a2 ha2 => ⟨_, ha2, ?_⟩
  rw [e3]
  have e40 : IntKind.i64.wrap ((40 : Int) + ((lenP l : Nat) : Int)) = ((40 + lenP l : Nat) : Int) := by rw [w64 (by omega) (by omega)]; omega
  rw [e40]
  refine ⟨by omega, by omega, ?_⟩
  rw [Int.toNat_natCast]
  refine IdxVC.int (k := .i64) (xs := F6 l) (H.cells 2 rfl) (by decide) (by decide) rfl fun a3 ha3 => ⟨_, ha3, ?_⟩
  obtain ⟨s1, hs1⟩ : ∃ s1 : Sl, s1 = ⟨s.A, 40 + lenP l, s.k⟩ := ⟨_, rfl⟩
  have hB1 : BytesAt w s1 (l.take (40 + lenP l)) := by
    rw [hs1]
    refine ⟨by rw [List.length_take]; show min _ _ = 40 + lenP l; omega, by show 40 + lenP l ≤ s.k; omega, by show 40 + lenP l ≤ 4000000; omega, hB.bts.take _, ?_⟩
    rw [List.map_take]
    exact hB.cells.take _
  have hl1 : (l.take (40 + lenP l)).length = 40 + lenP l := by rw [List.length_take]; omega
  have hdr : (l.take (40 + lenP l)).drop 40 = bpart l 40 (lenP l) := by
    unfold bpart; rw [List.drop_take]; congr 1; omega
  have hwl : (bpart l 40 (lenP l)).length = lenP l := bpart_len h40
  have hLB : Bts (bpart l 40 (lenP l)) := (hB.bts.drop _).take _
  have hz5 := (H.restOf 0 rfl).size
  have hc := refChain_spec (w := w5) (s := s1) (k0 := l.getD 6 0) (p0 := 40) (top := true) (hB1.ext (H.restOf 0 rfl)) (by rw [hl1]; omega)
  rw [hdr] at hc
  have hc' : Calls Tryd.prog 47 #[.int .i64 ((F6 l).getD (4 : Int).toNat 0), .slice s.A (40 + lenP l) s.k, .int .i64 40, .bool true] w5 (RefChain w5 (bpart l 40 (lenP l)) 40 (hdrsS (bpart l 40 (lenP l)) true (l.getD 6 0) 0 0)) := by
    rw [hs1] at hc; exact hc
  refine hc'.mono ?_
  rintro e w8 ⟨se, xs, H8, hf, hm⟩
  have H8 := (AllLe.append (AllLe.refl [Fct.rest w5 None]) (extFs_less hz5)).sep H8
  cases hh : hdrsS (bpart l 40 (lenP l)) true (l.getD 6 0) 0 0 with
  | error er =>
    rw [hh] at hm
    obtain ⟨rfl, rfl, rfl, he⟩ := hm
    refine ⟨_, _, _, _, _, _, rfl, Br.yes he (bad ?_ (H.ext (H8.restOf 0 rfl)))⟩
    rw [hpw]; unfold walkS; rw [Bool.not_false, hh]
  | ok r =>
    obtain ⟨es, k', q⟩ := r
    rw [hh] at hm
    obtain ⟨rfl, hd⟩ := hm
    obtain ⟨i1, i2, i3, i4, i5, i6⟩ := hdrsS_inside hLB 8 0 _ 0 es k' q (by omega) (Nat.zero_le _) hh
    have H := H.mades H8
    have hp : parseS l = if k' = 44 then (if (bpart l 40 (lenP l)).length < q + 8 then .error 72 else if fitsS (fragAt (bpart l 40 (lenP l)) q) ((bpart l 40 (lenP l)).length - (q + 8)) = false then .error 76 else .ok ⟨es, fragAt (bpart l 40 (lenP l)) q, (bpart l 40 (lenP l)).getD q 0, q + 8⟩) else .ok ⟨es, FragV.z, k', q⟩ := by
      rw [hpw]; unfold walkS; rw [Bool.not_false, hh]
      simp only
      rw [if_neg (show ¬ (false = true) by decide)]
    obtain ⟨h0, hh0⟩ : ∃ h0 : Ip6V, h0 = ⟨(F6 l).getD 1 0, (F6 l).getD 2 0, (F6 l).getD 5 0, ipOf 6 (bpart l 8 16), ipOf 6 (bpart l 24 16), se, FragV.z, k', Sl.z⟩ := ⟨_, rfl⟩
    have fin : ∀ {g : Nat} {w' : World}, Sep (Fct.blk g 30 (Ip6V.z : Ip6V).cells :: Fct.rest w None :: Fct.blk g1 30 (Ip6V.z : Ip6V).cells :: Fct.own w.heap.size 3 1 (.slice A' 6 c') 6 ((F6 l).map (.int .i64)) :: extFs w.heap.size se xs) w' →
        Stores ⟨g, 0, none⟩ 0 h0.cells w' fun w14 => weirref7_Parse_D2046 (fun e w' => Parsed6 w (parsed l) e w') k' (40 + lenP l) ((40 + q : Nat) : Int) g1 w14 s.A s.k g := by
      intro g w' H
      refine Stores.sep H 0 rfl (Ip6V.one h0) (Nat.le_refl _) (splice_all rfl) fun w14 H => ?_
      have ht := refParse_tail (R := fun e w' => Parsed6 w (parsed l) e w') (g1 := g1) (g3 := g) (q := q) (k := k') (t := es) (h0 := h0) (xs := xs) (s1 := s1) (w14 := w14) hB h40 (fun _ _ h => h) hB1 ⟨hd, by rw [hh0]; exact hf, by rw [hh0], by rw [hh0], by rw [hh0]; rfl, by rw [hh0], by rw [hh0]⟩ (by rw [hh0]) (by rw [hh0]) (by omega) hp
        (by rw [show h0.exts = se by rw [hh0]]; exact H.sub (.cons_cons _ (.cons_cons _ (.cons_cons _ (.cons _ (List.Sublist.refl _))))))
      rw [hs1] at ht
      exact ht
    refine ⟨_, _, _, _, _, _, rfl, Br.no (fun h => h rfl) ?_⟩
    refine DrawVC.sep H (fun w' => Cells w' A' ((F6 l).map (.int .i64))) fun w10 H => ⟨H.cells 2 rfl, ?_⟩
    have H : Sep (Fct.rest w None :: Fct.blk g1 30 (Ip6V.z : Ip6V).cells :: Fct.own w.heap.size 3 1 (.slice A' 6 c') 6 ((F6 l).map (.int .i64)) :: extFs w.heap.size se xs) w10 := H
    have hS : Cells w10 A' ((F6 l).map (.int .i64)) := H.cells 2 rfl
    refine IdxVC.draw (k := .i64) (xs := F6 l) (w := w10) (S := fun w' => Cells w' A' ((F6 l).map (.int .i64))) hS (fun w' h => h) (by decide) (by decide) rfl fun a4 ha4 => ⟨_, ha4, ?_⟩
    refine IdxVC.draw (k := .i64) (xs := F6 l) (w := w10) (S := fun w' => Cells w' A' ((F6 l).map (.int .i64))) hS (fun w' h => h) (by decide) (by decide) rfl fun a5 ha5 => ⟨_, ha5, ?_⟩
    refine IdxVC.draw (k := .i64) (xs := F6 l) (w := w10) (S := fun w' => Cells w' A' ((F6 l).map (.int .i64))) hS (fun w' h => h) (by decide) (by decide) rfl fun a6 ha6 => ⟨_, ha6, ?_⟩
    have ad : ∀ {w' : World} {p : Nat}, p + 16 ≤ 40 → Ext w w' → Calls Tryd.prog 48 #[.slice s.A (40 + lenP l) s.k, .int .i64 p] w' fun e w'' => Ext w' w'' ∧ e = .returned (ipOf 6 (bpart l p 16)).val := by
      intro w' p hp16 hE
      have := address_spec (hB1.ext hE) (p := p) (by rw [hl1]; omega)
      have e : bpart (l.take (40 + lenP l)) p 16 = bpart l p 16 := by
        unfold bpart; rw [List.drop_take, List.take_take, Nat.min_eq_left (by omega)]
      rw [e, hs1] at this
      exact this
    have e0 : h0.cells = h0.cells := rfl
    rw [hh0] at fin
    refine ⟨?_, ?_⟩
    · refine (ad (p := 8) (by decide) (H.restOf 0 rfl)).mono ?_
      rintro _ w11 ⟨hE11, rfl⟩
      have H := H.ext hE11
      refine onRet_is (IPV.of (ipOf 6 (bpart l 8 16)) ⟨rfl, H.cells 2 rfl, ?_, ?_⟩)
      · refine (ad (p := 24) (by decide) (H.restOf 0 rfl)).mono ?_
        rintro _ w12 ⟨hE12, rfl⟩
        have H := H.ext hE12
        refine onRet_is (IPV.of (ipOf 6 (bpart l 24 16)) ⟨rfl, H.cells 2 rfl, NewVC.sep H fun g3 w13 H => ⟨H.cells 2 rfl, fin H.front⟩⟩)
      · refine NewVC.sep H fun g4 w27 H => ⟨H.cells 2 rfl, ?_⟩
        refine (ad (p := 24) (by decide) (H.restOf 0 rfl)).mono ?_
        rintro _ w28 ⟨hE28, rfl⟩
        have H := H.ext hE28
        exact onRet_is (IPV.of (ipOf 6 (bpart l 24 16)) ⟨rfl, H.cells 2 rfl, fin H.front⟩)
    · refine NewVC.sep H fun g5 w42 H => ⟨H.cells 2 rfl, ?_⟩
      refine (ad (p := 8) (by decide) (H.restOf 0 rfl)).mono ?_
      rintro _ w43 ⟨hE43, rfl⟩
      have H := H.ext hE43
      refine onRet_is (IPV.of (ipOf 6 (bpart l 8 16)) ⟨rfl, H.cells 2 rfl, ?_⟩)
      refine (ad (p := 24) (by decide) (H.restOf 0 rfl)).mono ?_
      rintro _ w44 ⟨hE44, rfl⟩
      have H := H.ext hE44
      exact onRet_is (IPV.of (ipOf 6 (bpart l 24 16)) ⟨rfl, H.cells 2 rfl, fin H.front⟩)
end
end N6
end Go.Proofs.YtkiogaglmjeplaaDoor
