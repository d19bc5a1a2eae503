/- Contracts of the document's own answer for looks at bytes (package weirref1), and what its numbers are. -/
import Derived.Test.YtdchpilghgnnoaaL2
namespace Go.Eng
open Go Go.RowKit
theorem IdxVC.draw {A : Option Addr} {k : IntKind} {xs : List Int} {n : Nat} {i : Int} {F : Addr → Prop} {S : World → Prop} {w : World} (hw : S w) (hS : ∀ w', S w' → Cells w' A (xs.map (.int k))) (h0 : 0 ≤ i) (h1 : i < n) (hl : xs.length = n)
    (hF : ∀ a, (∀ w', S w' → w'.cell? a = some (.int k (xs.getD i.toNat 0))) → F a) : IdxVC A n 1 i F := by
  have hlt : i.toNat < xs.length := by omega
  obtain ⟨a, ha, _⟩ := (hS w hw).at (i := i.toNat) (by simpa using hlt)
  refine ⟨a, ha, h0, h1, hF _ fun w' hw' => ?_⟩
  obtain ⟨a', ha', hc⟩ := (hS w' hw').at (i := i.toNat) (by simpa using hlt)
  rw [ha] at ha'; cases ha'
  rw [Nat.mul_one, hc]; simp [hlt]
section
variable {P : Program} {w : World} {base e n : Nat} {xs : List Value}
/-- One more onto a row of the call's own. -/
theorem AppVC.one {t ty : TypeId} {z : Value} {bytes : Nat} (ht : P.underlying t = some (.slice e)) (hi : TypeIs P e z 1 bytes) (hzs : z.cells.size = 1)
    {A : Option Addr} {c : Nat} {u : Value} {F : Option Addr → Nat → Nat → World → Prop}
    (hown : w.ownsRow base e 1 (.slice A n c) n xs) (h1 : u.oneCell' = true) (hbytes : (n + 1) * bytes ≤ 140737488355328) (hb0 : 0 < bytes) (hbase : base ≤ w.heap.size)
    (h : ∀ A2 c2 w', w'.ownsRow base e 1 (.slice A2 (n + 1) c2) (n + 1) (xs ++ [u]) → Mod (fun k => some k = (Value.slice A n c).ownBlock) w w' → n + 1 ≤ c2 → F A2 (n + 1) c2 w') :
    NewVC w (.cells #[u] e) fun g w1 => AppVC P #[t, t] ty (.slice A n c) (.slice (some ⟨g, 0, none⟩) 1 1) w1 F := by
  obtain ⟨i, hi, hz, hs, hy⟩ := hi
  refine NewVC.blk fun g w1 hg hz1 hE1 hb1 => ?_
  refine AppVC.own ht hi hz hs hy hzs (by decide) (own_ext hown hE1) (by simpa using Cells.of_blk hb1 0) rfl (by simpa using h1) hbytes hb0 (by omega) fun A2 c2 w2 hown2 hm2 hc2 => ?_
  exact h A2 c2 w2 hown2 ((hE1.to _).trans hm2) hc2
end
/-- What was laid onto the call's own row left the older world alone. -/
theorem Ext.own {w0 w w' : World} {e size : Nat} {v : Value} {n : Nat} {xs : List Value} (hE : Ext w0 w) (hown : w.ownsRow w0.heap.size e size v n xs) (hm : Mod (fun k => some k = v.ownBlock) w w') : Ext w0 w' :=
  hE.trans' hm fun k hk e => by have := own_new hown k e.symm; omega

/-! ### Numbers out of bits -/
theorem fieldV_add (f : Nat → Int) (p a : Nat) : ∀ b, fieldV f p (a + b) = fieldV f p a * 2 ^ b + fieldV f (p + a) b
  | 0 => by simp [fieldV]
  | b + 1 => by
    rw [← Nat.add_assoc]
    simp only [fieldV]
    have e : fieldV f p a * 2 ^ (b + 1) = 2 * (fieldV f p a * 2 ^ b) := by
      rw [Int.pow_succ, ← Int.mul_assoc, Int.mul_comm _ 2]
    rw [fieldV_add f p a b, e, Nat.add_assoc p a b]
    omega
theorem fieldV_byte {bs : List Int} (hB : Bts bs) {q : Nat} (hq : q < bs.length) : fieldV (bitAt bs) (8 * q) 8 = bs[q] := by
  have hx := hB.at hq
  have hg : bs.getD q 0 = bs[q] := by simp [hq]
  simp only [fieldV, bitAt]
  have e0 : (8 * q + 0) / 8 = q := by omega
  have e1 : (8 * q + 1) / 8 = q := by omega
  have e2 : (8 * q + 2) / 8 = q := by omega
  have e3 : (8 * q + 3) / 8 = q := by omega
  have e4 : (8 * q + 4) / 8 = q := by omega
  have e5 : (8 * q + 5) / 8 = q := by omega
  have e6 : (8 * q + 6) / 8 = q := by omega
  have e7 : (8 * q + 7) / 8 = q := by omega
  have m0 : 7 - (8 * q + 0) % 8 = 7 := by omega
  have m1 : 7 - (8 * q + 1) % 8 = 6 := by omega
  have m2 : 7 - (8 * q + 2) % 8 = 5 := by omega
  have m3 : 7 - (8 * q + 3) % 8 = 4 := by omega
  have m4 : 7 - (8 * q + 4) % 8 = 3 := by omega
  have m5 : 7 - (8 * q + 5) % 8 = 2 := by omega
  have m6 : 7 - (8 * q + 6) % 8 = 1 := by omega
  have m7 : 7 - (8 * q + 7) % 8 = 0 := by omega
  rw [e0, e1, e2, e3, e4, e5, e6, e7, m0, m1, m2, m3, m4, m5, m6, m7, hg]
  generalize bs[q] = x at hx
  simp only [Int.reducePow]
  omega
theorem fieldV_beNum {bs : List Int} (hB : Bts bs) (p : Nat) : ∀ k, p + k ≤ bs.length → fieldV (bitAt bs) (8 * p) (8 * k) = beNum ((bs.drop p).take k)
  | 0, _ => by simp [fieldV, beNum]
  | k + 1, h => by
    have hlt : k < (bs.drop p).length := by rw [List.length_drop]; omega
    have hb := fieldV_byte hB (q := p + k) (by omega)
    rw [Nat.mul_add 8 k 1, fieldV_add, fieldV_beNum hB p k (by omega), List.take_succ_eq_append_getElem hlt, beNum_snoc, Nat.mul_one, ← Nat.mul_add, hb]
    simp
theorem bitAt_window (bs : List Int) (p k i : Nat) (hi : i < 8 * k) : bitAt ((bs.drop p).take k) i = bitAt bs (8 * p + i) := by
  unfold bitAt
  have e1 : (8 * p + i) / 8 = p + i / 8 := by omega
  have e2 : (8 * p + i) % 8 = i % 8 := by omega
  rw [e1, e2]
  have : ((bs.drop p).take k).getD (i / 8) 0 = bs.getD (p + i / 8) 0 := by
    simp [List.getD_eq_getElem?_getD, List.getElem?_drop, show i / 8 < k by omega]
  rw [this]
theorem fieldV_shift (f : Nat → Int) (q p : Nat) : ∀ n, fieldV f (q + p) n = fieldV (fun i => f (q + i)) p n
  | 0 => rfl
  | n + 1 => by simp only [fieldV]; rw [fieldV_shift f q p n, Nat.add_assoc]
theorem fieldsV_shift (f : Nat → Int) (q : Nat) : ∀ (ws : List Int) (p : Nat), fieldsV f (q + p) ws = fieldsV (fun i => f (q + i)) p ws
  | [], _ => rfl
  | w :: r, p => by simp only [fieldsV]; rw [fieldV_shift, Nat.add_assoc, fieldsV_shift f q r]
theorem fieldsV_window {bs ws : List Int} {p : Nat} (hW : W32 ws) (h8 : psum ws % 8 = 0) : fieldsV (bitAt bs) (8 * p) ws = fieldsV (bitAt ((bs.drop p).take (psum ws / 8).toNat)) 0 ws := by
  have := fieldsV_shift (bitAt bs) (8 * p) ws 0
  rw [Nat.add_zero] at this
  rw [this]
  have hb := psum_bound hW
  refine fieldsV_congr ws 0 hW fun i hi => ?_
  rw [bitAt_window _ _ _ _ (by omega)]
end Go.Eng
namespace Go.Proofs.Ytdchpilghgnnoaa
open Go.Eng Go.RowKit

theorem there_spec {A : Option Addr} {n c : Nat} {p k : Int} {w : World} (hn : n ≤ 4611686018427387904) :
    Calls Try.prog 74 #[.slice A n c, .int .i64 p, .int .i64 k] w fun e w' => w = w' ∧ e = .returned (.bool (decide (0 ≤ p ∧ p ≤ n ∧ k ≤ n - p))) := by
  refine weirref1_There_of A n c p k w _ ?_
  unfold weirref1_There_VC
  refine Br.dec (fun h1 => Br.dec (fun h2 => ⟨rfl, ?_⟩) (fun h2 => ⟨rfl, ?_⟩)) (fun h1 => ⟨rfl, ?_⟩)
  · rw [w64 (by omega) (by omega)]
    congr 2
    exact decide_eq_decide.2 ⟨fun h => ⟨h1, h2, h⟩, fun h => h.2.2⟩
  · rw [decide_eq_false (by omega)]
  · rw [decide_eq_false (by omega)]
theorem bit_spec {A : Option Addr} {n c i : Nat} {bs : List Int} {w : World} (hb : Cells w A (bs.map (.int .u8))) (hl : bs.length = n) (hB : Bts bs) (hn : n ≤ 140737488355328) (hi : i < 8 * n) :
    Calls Try.prog 76 #[.slice A n c, .int .i64 (i : Int)] w fun e w' => w = w' ∧ e = .returned (.int .i64 (bitAt bs i)) := by
  refine weirref1_bit_of A n c (i : Int) w _ ?_
  unfold weirref1_bit_VC
  have e1 : Int.tdiv (i : Int) 8 = ((i / 8 : Nat) : Int) := by rw [Int.tdiv_eq_ediv_of_nonneg (by omega)]; omega
  have e2 : Int.tmod (i : Int) 8 = ((i % 8 : Nat) : Int) := by rw [Int.tmod_eq_emod_of_nonneg (by omega)]; omega
  rw [e1, e2, w64 (n := ((i / 8 : Nat) : Int)) (by omega) (by omega)]
  refine IdxVC.int hb (by omega) (by omega) hl fun a hc => ⟨_, hc, ?_⟩
  have hlt : i / 8 < bs.length := by omega
  have hx := hB.at hlt
  rw [getD_cast _ _ hlt, w64 (n := bs[i / 8]) (by omega) (by omega)]
  refine LoopVC.of (fun s w' => w = w' ∧ ∃ k : Nat, i % 8 ≤ k ∧ k ≤ 7 ∧ s = (bs[i / 8] / 2 ^ (k - i % 8), (k : Int))) (fun s _ => (7 - s.2).toNat) ⟨rfl, i % 8, Nat.le_refl _, by omega, by simp⟩ ?_
  rintro _ w1 ⟨rfl, k, hk0, hk1, rfl⟩
  show weirref1_bit_L58 _ (bs[i / 8] / 2 ^ (k - i % 8)) (k : Int) w _
  unfold weirref1_bit_L58
  have hd0 : 0 ≤ bs[i / 8] / 2 ^ (k - i % 8) := Int.ediv_nonneg hx.1 (Int.pow_nonneg (by decide))
  have hd1 : bs[i / 8] / 2 ^ (k - i % 8) ≤ bs[i / 8] := Int.ediv_le_self _ hx.1
  refine Br.dec (fun h => ⟨⟨rfl, k + 1, by omega, by omega, ?_⟩, ?_⟩) (fun h => ⟨rfl, ?_⟩)
  · have e3 : k + 1 - i % 8 = (k - i % 8) + 1 := by omega
    rw [Int.tdiv_eq_ediv_of_nonneg hd0, w64 (by omega) (by omega), w64 (by omega) (by omega), e3, Int.pow_succ, Int.ediv_ediv_of_nonneg (Int.pow_nonneg (by decide))]
    rfl
  · simp only
    rw [w64 (by omega) (by omega)]; omega
  · have : k = 7 := by omega
    subst this
    rw [Int.tmod_eq_emod_of_nonneg hd0]
    unfold bitAt
    have hg : bs.getD (i / 8) 0 = bs[i / 8] := by simp [hlt]
    rw [hg]
theorem refUint_spec {A : Option Addr} {n c : Nat} {p k : Int} {bs : List Int} {w : World} (hb : Cells w A (bs.map (.int .u8))) (hl : bs.length = n) (hB : Bts bs) (hn : n ≤ 140737488355328) :
    Calls Try.prog 67 #[.slice A n c, .int .i64 p, .int .i64 k] w fun e w' => w = w' ∧ e = .returned (.tuple #[.int .u64 (uintS bs p k).1, .int .i64 (uintS bs p k).2]) := by
  refine weirref1_Uint_of A n c p k w _ ?_
  unfold weirref1_Uint_VC
  refine Br.dec (fun h => ⟨rfl, ?_⟩) (fun h1 => Br.dec (fun h => ⟨rfl, ?_⟩) (fun h2 => ?_))
  · unfold uintS; rw [if_pos (by omega)]
  · unfold uintS; rw [if_pos (by omega)]
  refine (there_spec (by omega)).mono ?_
  rintro _ w1 ⟨rfl, rfl⟩
  refine ⟨_, rfl, ?_⟩
  by_cases hr : 0 ≤ p ∧ p ≤ n ∧ k ≤ n - p
  · rw [decide_eq_true hr]
    refine Br.f rfl ?_
    obtain ⟨q, rfl⟩ := Int.eq_ofNat_of_zero_le hr.1
    obtain ⟨m, rfl⟩ := Int.eq_ofNat_of_zero_le (show 0 ≤ k by omega)
    rw [w64 (n := 8 * (q : Int)) (by omega) (by omega)]
    refine LoopVC.of (fun s w' => w = w' ∧ ∃ j : Nat, j ≤ 8 * m ∧ s = (fieldV (bitAt bs) (8 * q) j, 8 * (q : Int) + j)) (fun s _ => (8 * ((q : Int) + m) - s.2).toNat) ⟨rfl, 0, by omega, by simp [fieldV]⟩ ?_
    rintro _ w1 ⟨rfl, j, hj, rfl⟩
    show weirref1_Uint_L506 _ A n c (q : Int) (m : Int) (fieldV (bitAt bs) (8 * q) j) (8 * (q : Int) + j) w _
    unfold weirref1_Uint_L506
    rw [w64 (n := (q : Int) + m) (by omega) (by omega), w64 (n := 8 * ((q : Int) + m)) (by omega) (by omega)]
    have h01 := bitAt_01 bs (8 * q + j)
    have hfb := fieldV_bound (bitAt_01 bs) (8 * q) j
    refine Br.dec (fun hlt => ?_) (fun hge => ⟨rfl, ?_⟩)
    · have ei : 8 * (q : Int) + j = ((8 * q + j : Nat) : Int) := by omega
      rw [ei]
      refine (bit_spec hb hl hB hn (by omega)).mono ?_
      rintro _ w2 ⟨rfl, rfl⟩
      have hp : (2 : Int) ^ j ≤ 2 ^ 63 := by
        have : (2 : Nat) ^ j ≤ 2 ^ 63 := Nat.pow_le_pow_right (by decide) (by omega)
        exact_mod_cast this
      have hp' : (2 : Int) ^ 63 = 9223372036854775808 := by decide
      rw [hp'] at hp
      refine ⟨_, rfl, ⟨rfl, j + 1, by omega, ?_⟩, ?_⟩
      · rw [wu64 (n := 2 * fieldV (bitAt bs) (8 * q) j) (by omega) (by omega), wu64 (n := bitAt bs (8 * q + j)) (by omega) (by omega), wu64 (by omega) (by omega), w64 (by omega) (by omega)]
        simp only [fieldV]
        rw [Prod.mk.injEq]; constructor
        · rfl
        · omega
      · simp only
        rw [w64 (by omega) (by omega)]; omega
    · have : j = 8 * m := by omega
      subst this
      rw [fieldV_beNum hB q m (by omega)]
      unfold uintS
      rw [if_neg (by omega), if_pos (by omega)]
      simp
  · rw [decide_eq_false hr]
    refine Br.t rfl ⟨rfl, ?_⟩
    unfold uintS
    rw [if_neg (by omega), if_neg (by omega)]
theorem refBits_spec {A : Option Addr} {n c : Nat} {ws : List Int} {w : World} (hb : Cells w A (ws.map (.int .i64))) (hl : ws.length = n) :
    Calls Try.prog 77 #[.slice A n c] w fun e w' => w = w' ∧ ((widthsOk ws ∧ e = .returned (.int .i64 (psum ws))) ∨ (¬ widthsOk ws ∧ e = .returned (.int .i64 (-1)))) := by
  refine weirref1_bits_of A n c w _ ?_
  unfold weirref1_bits_VC
  refine Br.dec (fun h => ⟨rfl, .inr ⟨fun hok => ?_, rfl⟩⟩) (fun h64 => ?_)
  · have := hok.1; omega
  refine LoopVC.of (fun s w1 => w = w1 ∧ ∃ i : Nat, i ≤ n ∧ s = (psum (ws.take i), (i : Int)) ∧ W32 (ws.take i)) (fun s _ => (n - s.2).toNat) ⟨rfl, 0, by omega, rfl, fun x hx => by simp at hx⟩ ?_
  rintro _ w1 ⟨rfl, i, hi, rfl, hWi⟩
  have hb1 := psum_bound hWi
  have hle : (ws.take i).length ≤ 64 := by rw [List.length_take]; omega
  show weirref1_bits_L122 _ A n (psum (ws.take i)) (i : Int) w _
  unfold weirref1_bits_L122
  refine Br.dec (fun h1 => ?_) (fun h1 => ?_)
  · refine IdxVC.int hb (by omega) (by omega) hl fun a hc => ⟨_, hc, ?_⟩
    have hil : i < ws.length := by omega
    rw [getD_cast _ _ hil]
    refine Br.dec (fun h2 => ⟨rfl, .inr ⟨fun hok => ?_, rfl⟩⟩) (fun h2 => ?_)
    · have := hok.2.1 _ (List.getElem_mem hil); omega
    refine IdxVC.int hb (by omega) (by omega) hl fun a hc => ⟨_, hc, ?_⟩
    rw [getD_cast _ _ hil]
    refine Br.dec (fun h3 => ⟨rfl, .inr ⟨fun hok => ?_, rfl⟩⟩) (fun h3 => ?_)
    · have := hok.2.1 _ (List.getElem_mem hil); omega
    refine IdxVC.int hb (by omega) (by omega) hl fun a hc => ⟨_, hc, ?_⟩
    rw [getD_cast _ _ hil]
    have e2 : psum (ws.take (i + 1)) = psum (ws.take i) + ws[i] := by
      rw [List.take_succ_eq_append_getElem hil, psum_snoc]
    refine ⟨⟨rfl, i + 1, by omega, ?_, ?_⟩, ?_⟩
    · rw [w64 (n := psum (ws.take i) + ws[i]) (by omega) (by omega), w64 (n := (i : Int) + 1) (by omega) (by omega), e2]; simp
    · intro x hx
      rw [List.take_succ_eq_append_getElem hil] at hx
      rcases List.mem_append.1 hx with hx | hx
      · exact hWi x hx
      · simp at hx; omega
    · simp only
      rw [w64 (n := (i : Int) + 1) (by omega) (by omega)]; omega
  · have hin : i = ws.length := by omega
    subst hin
    rw [List.take_length] at hb1 hWi ⊢
    rw [Int.tmod_eq_emod_of_nonneg hb1.1]
    refine Br.dec (fun h8 => ⟨rfl, .inr ⟨fun hok => h8 hok.2.2, rfl⟩⟩) (fun h8 => ⟨rfl, .inl ⟨⟨by omega, hWi, by omega⟩, rfl⟩⟩)
theorem power_spec {k : Nat} {w : World} (hk : k ≤ 62) : Calls Try.prog 78 #[.int .i64 (k : Int)] w fun e w' => w = w' ∧ e = .returned (.int .i64 (2 ^ k)) := by
  refine weirref1_power_of (k : Int) w _ ?_
  unfold weirref1_power_VC
  refine LoopVC.of (fun s w1 => w = w1 ∧ ∃ i : Nat, i ≤ k ∧ s = ((2 : Int) ^ i, (i : Int))) (fun s _ => (k - s.2).toNat) ⟨rfl, 0, by omega, rfl⟩ ?_
  rintro _ w1 ⟨rfl, i, hi, rfl⟩
  show weirref1_power_L58 _ (k : Int) ((2 : Int) ^ i) (i : Int) w _
  unfold weirref1_power_L58
  refine Br.dec (fun h => ⟨⟨rfl, i + 1, by omega, ?_⟩, ?_⟩) (fun h => ⟨rfl, ?_⟩)
  · have hp : (2 : Int) ^ i ≤ 2 ^ 61 := by
      have : (2 : Nat) ^ i ≤ 2 ^ 61 := Nat.pow_le_pow_right (by decide) (by omega)
      exact_mod_cast this
    have hp' : (2 : Int) ^ 61 = 2305843009213693952 := by decide
    have hp0 : (0 : Int) < 2 ^ i := Int.pow_pos (by decide)
    rw [w64 (n := 2 * (2 : Int) ^ i) (by omega) (by omega), w64 (by omega) (by omega), Int.pow_succ, Int.mul_comm]
    rfl
  · simp only
    rw [w64 (by omega) (by omega)]; omega
  · have : i = k := by omega
    subst this
    rfl
end Go.Proofs.Ytdchpilghgnnoaa
