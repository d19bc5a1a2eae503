/- The sum that a text of itself bears, both programs. -/
import Derived.Test.YtjngdcilnipjcaaDoorBt
import Derived.Test.YtjngdcilnipjcaaDoorBe
import Derived.Test.YtjngdcilnipjcaaDoorBd
namespace Go.Proofs.YtjngdcilnipjcaaDoor
open Go.Eng Go.RowKit
section
variable {w : World} {PA : Option Addr} {m mc : Nat} {ps : List PartV}
end
end Go.Proofs.YtjngdcilnipjcaaDoor
/- Addresses and messages by value; the small functions of layer 8: laid, copied, same, marked, stand, echo, widths, the two Checks. -/
namespace Go.Eng
open Go Go.RowKit
section
variable {P : Program} {w : World} {base e n c : Nat} {xs : List Value}
theorem AppVC.both {P : Program} {ts : Array TypeId} {ty : TypeId} {v v' : Value} {w : World} {F G : Option Addr → Nat → Nat → World → Prop} (h : AppVC P ts ty v v' w F) (h' : AppVC P ts ty v v' w G) :
    AppVC P ts ty v v' w fun A n c w' => F A n c w' ∧ G A n c w' := by
  obtain ⟨A, n, c, w1, hr, hf⟩ := h
  obtain ⟨B, m, d, w2, hr', hg⟩ := h'
  rw [hr] at hr'
  injection hr' with e1 e2
  injection e1 with a b c
  subst a; subst b; subst c; subst e2
  exact ⟨_, _, _, _, hr, hf, hg⟩
/-- append onto a row of the call's own: in its place, or in new memory. -/
theorem AppVC.place {t ty : TypeId} {z : Value} {bytes : Nat} (ht : P.underlying t = some (.slice e)) (hi : TypeIs P e z 1 bytes) (hzs : z.cells.size = 1)
    {A A' : Option Addr} {m c' : Nat} {news : List Value}
    (hown : w.ownsRow base e 1 (.slice A n c) n xs) (hsrc : Cells w A' news) (hl : news.length = m) (h0 : 0 < m) (h1 : ∀ u ∈ news, u.oneCell' = true)
    (hbytes : (n + m) * bytes ≤ 140737488355328) (hb0 : 0 < bytes) :
    AppVC P #[t, t] ty (.slice A n c) (.slice A' m c') w fun A2 n2 c2 w' => A2 = A ∨ (Ext w w' ∧ ∀ k, (Value.slice A2 n2 c2).ownBlock = some k → w.heap.size ≤ k) := by
  obtain ⟨i, hi, hz, hs, hy⟩ := hi
  obtain ⟨a', ha', _⟩ := hsrc.at (i := 0) (by omega)
  subst ha'
  have hsrc' : ∀ j u, news[j]? = some u → w.cell? (a'.add j) = some u := fun j u hu => by
    obtain ⟨b', ha, hc⟩ := hsrc j u hu; cases ha; exact hc
  have h63 : n + m ≤ maxLen := by
    have : (n + m) * 1 ≤ (n + m) * bytes := Nat.mul_le_mul_left _ hb0
    simp only [maxLen]; omega
  rcases hown.2 with ⟨hv, hn0⟩ | ⟨g, cap, cur, hv, hb, hg, hnc, hm, hsz, htk⟩
  · injection hv with hA _ hc
    subst hA; subst hc; subst hn0
    refine AppVC.own ht hi hz hs hy hzs (by decide) (base := w.heap.size) (World.ownsRow_nil _ _ _ _) hsrc (by omega) h1 hbytes hb0 (Nat.le_refl _) fun A2 c2 w2 ho2 hm2 _ => ?_
    exact .inr ⟨hm2.mono (fun k _ hk => by simp [Value.ownBlock] at hk), own_new ho2⟩
  · injection hv with hA _ hcap
    subst hA; subst hcap
    by_cases hroom : n + m ≤ c
    · have hcell : ∀ j, j < news.length → (w.cell? ⟨g, 0 + n * i.size + j, none⟩).isSome = true := fun j hj => by
        rw [cell_of_row w g _ cur e (0, 0) hg, hs]
        have : n + j < cur.size := by omega
        simp [this]
      have hr := run_append_room_cells (P := P) w t ty e i ht hi g 0 n c a' m c' news (by rw [hs]; omega) hsrc' h1 hroom hcell (fun j hj => frozen_of_row w g _ cur e hg)
      exact ⟨_, _, _, _, hr, .inl rfl⟩
    · obtain ⟨v', w', hr, ho, hgr⟩ := run_append_arg_grows (P := P) (w := w) t ty e i z 1 bytes ht hi hz hs hy hzs (by decide) ⟨g, 0, none⟩ n c xs (by have := hown.1; omega)
        (fun j u hu => by obtain ⟨a, ha, hc⟩ := own_cells hown j u hu; cases ha; exact hc) a' m c' news (by omega) hsrc' (by omega) h63 hbytes
      obtain ⟨A2, c2, rfl, _, _⟩ := own_form ho
      exact ⟨A2, n + m, c2, w', hr, .inr ⟨(Mod.grown hgr).mono (fun k hk e => by cases e), own_new ho⟩⟩
/-- All of it: the new row, the old one, and where the new one lies. -/
theorem AppVC.whole {t ty : TypeId} {z : Value} {bytes : Nat} (ht : P.underlying t = some (.slice e)) (hi : TypeIs P e z 1 bytes) (hzs : z.cells.size = 1)
    {A A' : Option Addr} {m c' : Nat} {news : List Value} {F : Option Addr → Nat → Nat → World → Prop}
    (hown : w.ownsRow base e 1 (.slice A n c) n xs) (hsrc : Cells w A' news) (hl : news.length = m) (h0 : 0 < m) (h1 : ∀ u ∈ news, u.oneCell' = true)
    (hbytes : (n + m) * bytes ≤ 140737488355328) (hb0 : 0 < bytes) (hbase : base ≤ w.heap.size)
    (h : ∀ A2 c2 w', w'.ownsRow base e 1 (.slice A2 (n + m) c2) (n + m) (xs ++ news) → w'.ownsRow base e 1 (.slice A n c) n xs → Mod (fun k => some k = (Value.slice A n c).ownBlock) w w' →
      (∀ k, some k = (Value.slice A2 (n + m) c2).ownBlock → some k = (Value.slice A n c).ownBlock ∨ w.heap.size ≤ k) → (A2 = A ∨ (Ext w w' ∧ ∀ k, (Value.slice A2 (n + m) c2).ownBlock = some k → w.heap.size ≤ k)) → F A2 (n + m) c2 w') :
    AppVC P #[t, t] ty (.slice A n c) (.slice A' m c') w F := by
  have hA := AppVC.at (F := fun A2 n2 c2 w' => n2 = n + m ∧ w'.ownsRow base e 1 (.slice A2 (n + m) c2) (n + m) (xs ++ news) ∧ Mod (fun k => some k = (Value.slice A n c).ownBlock) w w' ∧
      ∀ k, some k = (Value.slice A2 (n + m) c2).ownBlock → some k = (Value.slice A n c).ownBlock ∨ w.heap.size ≤ k) (t := t) (ty := ty) ht hi hzs hown hsrc hl h1 hbytes hb0 hbase (c' := c') fun A2 c2 w' a b _ d => ⟨rfl, a, b, d⟩
  have hB := AppVC.keep (F := fun _ _ _ w' => w'.ownsRow base e 1 (.slice A n c) n xs) (t := t) (ty := ty) ht hi hzs hown hsrc hl h0 h1 hbytes hb0 (c' := c') fun _ _ w' a _ => a
  have hC := AppVC.place (t := t) (ty := ty) ht hi hzs hown hsrc hl h0 h1 hbytes hb0 (c' := c')
  obtain ⟨A2, n2, c2, w', hr, ⟨rfl, a, b, d⟩, k, p⟩ := AppVC.both hA (AppVC.both hB hC)
  exact ⟨A2, _, c2, w', hr, h A2 c2 w' a k b d p⟩
end
/-- A message, by value. -/
structure MsgV where
  v : Int
  t : Int
  c : Int
  r : Int
  A : Option Addr
  n : Nat
  k : Nat
def MsgV.cells (m : MsgV) : List Value := [.int .i64 m.v, .int .i64 m.t, .int .i64 m.c, .int .i64 m.r, .slice m.A m.n m.k]
def MsgV.val (m : MsgV) : Value := .agg #[.int .i64 m.v, .int .i64 m.t, .int .i64 m.c, .int .i64 m.r, .slice m.A m.n m.k]
def checkS (m : MsgV) : Int :=
  if m.v ≠ 4 ∧ m.v ≠ 6 then 1 else if m.t < 0 ∨ 255 < m.t ∨ m.c < 0 ∨ 255 < m.c ∨ m.r < 0 ∨ 4294967295 < m.r then 82 else if 65507 < m.n then 2 else 0
end Go.Eng
namespace Go.Proofs.YtjngdcilnipjcaaDoor
open Go.Eng Go.RowKit

section
variable {w : World}
theorem leaf82 {m : MsgV} (h : ¬ (m.v ≠ 4 ∧ m.v ≠ 6)) (h2 : m.t < 0 ∨ 255 < m.t ∨ m.c < 0 ∨ 255 < m.c ∨ m.r < 0 ∨ 4294967295 < m.r) : Ending.returned (.int .i64 82) = .returned (.int .i64 (checkS m)) := by
  unfold checkS; rw [if_neg h, if_pos h2]
theorem check_spec (m : MsgV) (hn : m.n ≤ 140737488355328) : Calls Tryd.prog 24 #[m.val] w fun e w' => Ext w w' ∧ e = .returned (.int .i64 (checkS m)) := by
  refine icmp_Check_of m.v m.t m.c m.r m.A m.n m.k w _ ?_
  unfold icmp_Check_VC
  refine NewVC.blk fun g1 w1 hg1 hz1 hE1 hb1 => ?_
  refine JoinVC.of (fun s w' => w' = w1 ∧ s = decide (m.v ≠ 4 ∧ m.v ≠ 6)) ?_ ?_
  · refine ⟨_, hb1.cell 0, Br.dec (fun h => ⟨_, hb1.cell 0, rfl, ?_⟩) (fun h => ⟨rfl, ?_⟩)⟩
    · simp [h]
    · simp at h; simp [h]
  rintro s w2 ⟨rfl, rfl⟩
  unfold icmp_Check_J12
  refine Br.dec (fun h => ⟨hE1, ?_⟩) (fun h => ?_)
  · unfold checkS; rw [if_pos h]
  refine ⟨_, hb1.cell 1, Br.dec (fun h1 => ⟨hE1, leaf82 h (by omega)⟩) fun h1 => ?_⟩
  refine ⟨_, hb1.cell 1, Br.dec (fun h2 => ⟨hE1, leaf82 h (by omega)⟩) fun h2 => ?_⟩
  refine ⟨_, hb1.cell 2, Br.dec (fun h3 => ⟨hE1, leaf82 h (by omega)⟩) fun h3 => ?_⟩
  refine ⟨_, hb1.cell 2, Br.dec (fun h4 => ⟨hE1, leaf82 h (by omega)⟩) fun h4 => ?_⟩
  refine ⟨_, hb1.cell 3, Br.dec (fun h5 => ⟨hE1, leaf82 h (by omega)⟩) fun h5 => ?_⟩
  refine ⟨_, hb1.cell 3, Br.dec (fun h6 => ⟨hE1, leaf82 h (by omega)⟩) fun h6 => ?_⟩
  refine ⟨_, _, _, hb1.cell 4, ?_⟩
  rw [w64 (by omega) (by omega)]
  refine Br.dec (fun h7 => ⟨hE1, ?_⟩) (fun h7 => ⟨hE1, ?_⟩)
  · unfold checkS; rw [if_neg h, if_neg (by omega), if_pos (by omega)]
  · unfold checkS; rw [if_neg h, if_neg (by omega), if_neg (by omega)]
theorem widths_spec : Calls Tryd.prog 59 #[] w fun e w' => Ext w w' ∧ ∃ g, w.heap.size ≤ g ∧ e = .returned (.slice (some ⟨g, 0, none⟩) 4 4) ∧ Blk w' g 3 (([8, 8, 16, 32] : List Int).map (.int .i64)) := by
  refine icmp_widths_of w _ ?_
  unfold icmp_widths_VC
  exact NewVC.blk fun g1 w1 hg1 _ hE1 hb1 => ⟨hE1, g1, by omega, rfl, hb1⟩
def roomS : List Int := [201, 202, 203, 204, 205]
/-- laid: new memory, the bytes (66000 at most) and five behind them. -/
theorem laid_spec {A : Option Addr} {n c : Nat} {bs : List Int} (hb : Cells w A (bs.map (.int .u8))) (hl : bs.length = n) (hc : n ≤ c) (hn : n ≤ 140737488355328) :
    Calls Tryd.prog 14 #[.slice A n c] w fun e w' => Ext w w' ∧ ∃ W wc, e = .returned (.tuple #[.slice W (bs.take 66000).length wc, .slice W ((bs.take 66000).length + 5) wc]) ∧
      w'.ownsRow w.heap.size 5 1 (.slice W ((bs.take 66000).length + 5) wc) ((bs.take 66000).length + 5) ((bs.take 66000 ++ roomS).map (.int .u8)) := by
  refine weirlaw8_laid_of A n c w _ ?_
  unfold weirlaw8_laid_VC
  refine JoinVC.of (fun s w' => w = w' ∧ ∃ d, s = (A, (bs.take 66000).length, d)) ?_ ?_
  · refine Br.dec (fun h => ?_) (fun h => ?_)
    · refine ⟨by omega, by omega, rfl, c, ?_⟩
      rw [List.length_take]
      have : min 66000 bs.length = (66000 : Int).toNat := by omega
      rw [this]
    · exact ⟨rfl, c, by rw [List.length_take]; have : min 66000 bs.length = n := by omega
                        rw [this]⟩
  rintro _ w1 ⟨rfl, d, rfl⟩
  show weirlaw8_laid_J3 _ A (bs.take 66000).length d w
  unfold weirlaw8_laid_J3
  have hlt : (bs.take 66000).length ≤ 66000 := by rw [List.length_take]; omega
  have hbt : Cells w A ((bs.take 66000).map (.int .u8)) := by have := hb.take 66000; rwa [← List.map_take] at this
  generalize bs.take 66000 = L at hlt hbt ⊢
  refine AppVC.at Tryd.underlying22 tyByte rfl (World.ownsRow_nil _ _ _ _) hbt (by simp) (ints_one _ _) (by omega) (by decide) (Nat.le_refl _) fun W wc w2 hown hm _ _ => ?_
  rw [Nat.zero_add, List.nil_append] at hown
  rw [Nat.zero_add]
  have hE2 : Ext w w2 := hm.mono fun k _ e => by simp [Value.ownBlock] at e
  refine NewVC.blk fun g1 w3 hg1 hz3 hE3 hb3 => ?_
  refine AppVC.at Tryd.underlying22 tyByte rfl (own_ext hown hE3) (by simpa using Cells.of_blk hb3 0) (m := 5) rfl (by intro u hu; simp at hu; rcases hu with rfl | rfl | rfl | rfl | rfl <;> rfl) (by omega) (by decide) (hE2.ext hE3).size fun W2 wc2 w4 hown4 hm4 hc4 _ => ?_
  refine ⟨by omega, by omega, Ext.own (hE2.ext hE3) (own_ext hown hE3) hm4, W2, wc2, ?_, ?_⟩
  · simp
  · rw [List.map_append]; exact hown4
theorem same_spec {A B : Option Addr} {n c m d : Nat} {xs ys : List Int} (hx : Cells w A (xs.map (.int .u8))) (hy : Cells w B (ys.map (.int .u8))) (hn : xs.length = n) (hm : ys.length = m) (hb : n ≤ 4611686018427387904) :
    Calls Tryd.prog 18 #[.slice A n c, .slice B m d] w fun e w' => Ext w w' ∧ e = .returned (.bool (decide (xs = ys))) := by
  refine weirlaw8_same_of A n c B m d w _ ?_
  unfold weirlaw8_same_VC
  refine Br.dec (fun h => ⟨Mod.refl _ _, ?_⟩) (fun h => ?_)
  · rw [decide_eq_false (fun e => h (by rw [← hn, ← hm, e]))]
  refine LoopVC.of (fun s w' => Ext w w' ∧ ∃ i : Nat, s = (i : Int) ∧ i ≤ n ∧ xs.take i = ys.take i) (fun s _ => (n - s).toNat) ⟨Mod.refl _ _, 0, rfl, by omega, by simp⟩ ?_
  rintro _ w1 ⟨hE1, i, rfl, hi, ht⟩
  unfold weirlaw8_same_L58
  refine Br.dec (fun hlt => ?_) (fun hge => ?_)
  · refine DrawVC.of (fun w' => Ext w w') fun w2 hE2 _ => ⟨hE1.ext hE2, ?_⟩
    have hE := hE1.ext hE2
    refine IdxVC.draw (S := fun w' => Ext w w') hE (fun w' hE' => hx.ext hE') (by omega) hlt hn fun a ha => ⟨_, ha, ?_⟩
    refine IdxVC.draw (S := fun w' => Ext w w') hE (fun w' hE' => hy.ext hE') (by omega) (by omega) hm fun a1 ha1 => ⟨_, ha1, ?_⟩
    rw [Int.toNat_natCast]
    refine Br.dec (fun hne => ⟨hE, ?_⟩) (fun heq => ?_)
    · rw [decide_eq_false (fun e => hne (by rw [e]))]
    · rw [w64 (n := (i : Int) + 1) (by omega) (by omega)]
      refine ⟨⟨hE, i + 1, by omega, by omega, ?_⟩, by omega⟩
      rw [take_snocD xs i (by omega), take_snocD ys i (by omega), ht, Decidable.not_not.1 heq]
  · have hin : i = n := by omega
    subst hin
    refine ⟨hE1, ?_⟩
    rw [List.take_of_length_le (by omega), List.take_of_length_le (by omega)] at ht
    rw [decide_eq_true ht]
end
end Go.Proofs.YtjngdcilnipjcaaDoor
/- The eight bytes of a message's head as fields of 8, 8, 16 and 32 bits. -/
namespace Go.Eng
open Go Go.RowKit
theorem fieldV_add (f : Nat → Int) (p a : Nat) : ∀ b, fieldV f p (a + b) = fieldV f p a * 2 ^ b + fieldV f (p + a) b
  | 0 => by simp [fieldV]
  | b + 1 => by
    rw [← Nat.add_assoc]
    simp only [fieldV]
    have e : fieldV f p a * 2 ^ (b + 1) = 2 * (fieldV f p a * 2 ^ b) := by
      rw [Int.pow_succ, ← Int.mul_assoc, Int.mul_comm _ 2]
    rw [fieldV_add f p a b, e, Nat.add_assoc p a b]
    omega
theorem fieldV_byte {bs : List Int} (hB : Bts bs) {q : Nat} (hq : q < bs.length) : fieldV (bitAt bs) (8 * q) 8 = bs[q] := by
  have hx := hB.at hq
  have hg : bs.getD q 0 = bs[q] := by simp [hq]
  simp only [fieldV, bitAt]
  have e0 : (8 * q + 0) / 8 = q := by omega
  have e1 : (8 * q + 1) / 8 = q := by omega
  have e2 : (8 * q + 2) / 8 = q := by omega
  have e3 : (8 * q + 3) / 8 = q := by omega
  have e4 : (8 * q + 4) / 8 = q := by omega
  have e5 : (8 * q + 5) / 8 = q := by omega
  have e6 : (8 * q + 6) / 8 = q := by omega
  have e7 : (8 * q + 7) / 8 = q := by omega
  have m0 : 7 - (8 * q + 0) % 8 = 7 := by omega
  have m1 : 7 - (8 * q + 1) % 8 = 6 := by omega
  have m2 : 7 - (8 * q + 2) % 8 = 5 := by omega
  have m3 : 7 - (8 * q + 3) % 8 = 4 := by omega
  have m4 : 7 - (8 * q + 4) % 8 = 3 := by omega
  have m5 : 7 - (8 * q + 5) % 8 = 2 := by omega
  have m6 : 7 - (8 * q + 6) % 8 = 1 := by omega
  have m7 : 7 - (8 * q + 7) % 8 = 0 := by omega
  rw [e0, e1, e2, e3, e4, e5, e6, e7, m0, m1, m2, m3, m4, m5, m6, m7, hg]
  generalize bs[q] = x at hx
  simp only [Int.reducePow]
  omega
theorem fieldV_beNum {bs : List Int} (hB : Bts bs) (p : Nat) : ∀ k, p + k ≤ bs.length → fieldV (bitAt bs) (8 * p) (8 * k) = beNum ((bs.drop p).take k)
  | 0, _ => by simp [fieldV, beNum]
  | k + 1, h => by
    have hlt : k < (bs.drop p).length := by rw [List.length_drop]; omega
    have hb := fieldV_byte hB (q := p + k) (by omega)
    rw [Nat.mul_add 8 k 1, fieldV_add, fieldV_beNum hB p k (by omega), List.take_succ_eq_append_getElem hlt, beNum_snoc, Nat.mul_one, ← Nat.mul_add, hb]
    simp

def hws : List Int := [8, 8, 16, 32]
theorem hws_ok : widthsOk hws := ⟨by decide, by intro x hx; simp [hws] at hx; omega, by decide⟩
theorem hws_psum : psum hws = 64 := by decide
/-- The four fields of eight bytes. -/
theorem hws_fields {bs : List Int} (hB : Bts bs) (hl : bs.length = 8) : fieldsV (bitAt bs) 0 hws = [bs.getD 0 0, bs.getD 1 0, bs.getD 2 0 * 256 + bs.getD 3 0, ((bs.getD 4 0 * 256 + bs.getD 5 0) * 256 + bs.getD 6 0) * 256 + bs.getD 7 0] := by
  match bs, hl with
  | [b0, b1, b2, b3, b4, b5, b6, b7], _ =>
    have f0 := fieldV_beNum hB 0 1 (by simp)
    have f1 := fieldV_beNum hB 1 1 (by simp)
    have f2 := fieldV_beNum hB 2 2 (by simp)
    have f3 := fieldV_beNum hB 4 4 (by simp)
    simp only [hws, fieldsV]
    simp only [Nat.mul_zero, Nat.mul_one, List.drop_zero, List.drop_succ_cons, List.take_succ_cons, List.take_zero, beNum, List.foldl_cons, List.foldl_nil] at f0 f1 f2 f3
    show [fieldV (bitAt [b0, b1, b2, b3, b4, b5, b6, b7]) 0 8, fieldV (bitAt [b0, b1, b2, b3, b4, b5, b6, b7]) 8 8, fieldV (bitAt [b0, b1, b2, b3, b4, b5, b6, b7]) 16 16, fieldV (bitAt [b0, b1, b2, b3, b4, b5, b6, b7]) 32 32] = _
    rw [f0, f1, f2, f3]
    simp
/-- The eight bytes of four values. -/
def headS (t c s r : Int) : List Int := [t, c, s / 256, s % 256, r / 16777216, r / 65536 % 256, r / 256 % 256, r % 256]
theorem headS_bts {t c s r : Int} (ht : 0 ≤ t ∧ t ≤ 255) (hc : 0 ≤ c ∧ c ≤ 255) (hs : 0 ≤ s ∧ s ≤ 65535) (hr : 0 ≤ r ∧ r ≤ 4294967295) : Bts (headS t c s r) := by
  intro x hx
  simp only [headS, List.mem_cons, List.not_mem_nil, or_false] at hx
  omega
theorem packed_head {t c s r : Int} {ds : List Int} (h : Packed hws [t, c, s, r] ds) : ds = headS t c s r := by
  have hl : ds.length = 8 := by have := h.len; rw [hws_psum] at this; omega
  have hv := h.vals
  rw [hws_fields h.bts hl] at hv
  have hB := h.bts
  match ds, hl with
  | [b0, b1, b2, b3, b4, b5, b6, b7], _ =>
    have q0 := hB b0 (by simp)
    have q1 := hB b1 (by simp)
    have q2 := hB b2 (by simp)
    have q3 := hB b3 (by simp)
    have q4 := hB b4 (by simp)
    have q5 := hB b5 (by simp)
    have q6 := hB b6 (by simp)
    have q7 := hB b7 (by simp)
    simp only [List.getD_cons_zero, List.getD_cons_succ, List.cons.injEq, and_true] at hv
    simp only [headS, List.cons.injEq, and_true]
    omega
theorem head_valuesOk {t c r : Int} (ht : 0 ≤ t ∧ t ≤ 255) (hc : 0 ≤ c ∧ c ≤ 255) (hr : 0 ≤ r ∧ r ≤ 4294967295) : valuesOk hws [t, c, 0, r] := by
  refine ⟨rfl, fun i hi => ?_⟩
  match i, hi with
  | 0, _ => simp [hws]; omega
  | 1, _ => simp [hws]; omega
  | 2, _ => simp [hws]
  | 3, _ => simp [hws]; omega
end Go.Eng
/- Layer 8's looks at addresses: the pseudo-headers, both the same; what a message's sum goes over. -/
namespace Go.Eng
open Go Go.RowKit
def tailS (n : Int) : List Int := [0, 0, n / 256, n % 256, 0, 0, 0, 58]
def pseudoL (src dst : IPV) (n : Int) : List Int := src.bytes ++ dst.bytes ++ tailS n
theorem pseudoL_len (src dst : IPV) (n : Int) : (pseudoL src dst n).length = 40 := rfl
theorem pseudoL_bts {src dst : IPV} {n : Int} (hs : Bts src.bytes) (hd : Bts dst.bytes) (h0 : 0 ≤ n) (h1 : n ≤ 65535) : Bts (pseudoL src dst n) := by
  refine (hs.append hd).append fun x hx => ?_
  simp only [tailS, List.mem_cons, List.not_mem_nil, or_false] at hx
  omega
/-- The parts that the document's sum goes over. -/
def overS (v : Int) (src dst : IPV) (bs : List Int) : List Int := if v = 4 then bs else pseudoL src dst bs.length ++ bs
theorem bytes_at {w : World} {g : Nat} {t : TypeId} {p : IPV} (h : Blk w g t p.cells) : Cells w (some ⟨g, 1, none⟩) (p.bytes.map (.int .u8)) := Cells.of_blk h 1
end Go.Eng
namespace Go.Proofs.YtjngdcilnipjcaaDoor
open Go.Eng Go.RowKit

section
variable {w : World}
theorem version6_spec {p : IPV} (h : p.v = 6) : Calls Tryd.prog 115 #[p.val] w fun e w' => Ext w w' ∧ e = .returned (.int .i64 6) := by
  refine sum_version_of p.v p.a0 p.a1 p.a2 p.a3 p.a4 p.a5 p.a6 p.a7 p.a8 p.a9 p.a10 p.a11 p.a12 p.a13 p.a14 p.a15 w _ ?_
  unfold sum_version_VC
  refine NewVC.blk fun g1 w1 hg1 hz1 hE1 hb1 => ?_
  exact ⟨_, hb1.cell 0, Br.yes h ⟨hE1, rfl⟩⟩
theorem fdiv_byte {n : Int} (h0 : 0 ≤ n) (h1 : n ≤ 65535) : IntKind.u8.wrap (Int.fdiv n 256) = n / 256 := by
  rw [Int.fdiv_eq_ediv_of_nonneg _ (by decide), wu8 (by omega) (by omega)]
theorem pseudo6_spec {src dst : IPV} {n : Int} (hs : src.v = 6) (hd : dst.v = 6) (h0 : 0 ≤ n) (h1 : n ≤ 65535) :
    Calls Tryd.prog 87 #[src.val, dst.val, .int .i64 58, .int .i64 n] w fun e w' => Ext w w' ∧ ∃ W wc, e = .returned (.tuple #[.slice W 40 wc, .int .i64 0]) ∧
      w'.ownsRow w.heap.size 5 1 (.slice W 40 wc) 40 ((pseudoL src dst n).map (.int .u8)) := by
  refine sum_Pseudo_of src.v src.a0 src.a1 src.a2 src.a3 src.a4 src.a5 src.a6 src.a7 src.a8 src.a9 src.a10 src.a11 src.a12 src.a13 src.a14 src.a15
    dst.v dst.a0 dst.a1 dst.a2 dst.a3 dst.a4 dst.a5 dst.a6 dst.a7 dst.a8 dst.a9 dst.a10 dst.a11 dst.a12 dst.a13 dst.a14 dst.a15 58 n w _ ?_
  unfold sum_Pseudo_VC
  refine NewVC.blk fun g1 w1 hg1 hz1 hE1 hb1 => NewVC.blk fun g2 w2 hg2 hz2 hE2 hb2 => ?_
  have hb1 := hb1.ext hE2
  refine ⟨_, _, _, _, _, _, _, _, _, _, _, _, _, _, _, _, _, CellsAt.blk hb1, ?_⟩
  refine (version6_spec (p := src) hs).mono ?_
  rintro _ w3 ⟨hE3, rfl⟩
  refine ⟨_, rfl, ?_⟩
  refine JoinVC.of (fun s w' => s = false ∧ Ext w3 w') ?_ ?_
  · refine Br.no (by decide) ⟨_, _, _, _, _, _, _, _, _, _, _, _, _, _, _, _, _, CellsAt.blk (hb2.ext hE3), ?_⟩
    refine (version6_spec (p := dst) hd).mono ?_
    rintro _ w4 ⟨hE4, rfl⟩
    exact ⟨_, rfl, rfl, hE4⟩
  rintro s w5 ⟨rfl, hE5⟩
  unfold sum_Pseudo_J28
  have hE25 := hE3.ext hE5
  have hE05 := (hE1.ext hE2).ext hE25
  have c1 := bytes_at (p := src) (hb1.ext hE25)
  have c2 := bytes_at (p := dst) (hb2.ext hE25)
  refine Br.f rfl (Br.no (by decide) (Br.no (by decide) (Br.no (by omega) (Br.no (by omega) (Br.no (by decide) ?_)))))
  refine AppVC.at Tryd.underlying22 tyByte rfl (World.ownsRow_nil _ _ _ _) c1 (by rfl) (ints_one _ _) (by omega) (by decide) (Nat.le_refl _) fun W wc w6 hown6 hm6 _ _ => ?_
  have hE6 : Ext w5 w6 := hm6.mono fun k _ e => by simp [Value.ownBlock] at e
  rw [List.nil_append] at hown6
  refine AppVC.at Tryd.underlying22 tyByte rfl hown6 (c2.ext hE6) (by rfl) (ints_one _ _) (by omega) (by decide) hE6.size fun W2 wc2 w7 hown7 hm7 _ _ => ?_
  have hE7 := Ext.own hE6 hown6 hm7
  refine NewVC.blk fun g3 w8 hg3 hz8 hE8 hb8 => ?_
  have hc8 : Cells w8 (some ⟨g3, 0, none⟩) ((tailS n).map (.int .u8)) := by
    have := Cells.of_blk hb8 0
    rw [fdiv_byte h0 h1, u8_eq] at this
    exact this
  refine AppVC.at Tryd.underlying22 tyByte rfl (own_ext hown7 hE8) hc8 (by rfl) (ints_one _ _) (by omega) (by decide) (hE7.ext hE8).size fun W3 wc3 w9 hown9 hm9 _ _ => ?_
  have hE9 := Ext.own (hE7.ext hE8) (own_ext hown7 hE8) hm9
  refine ⟨hE05.ext hE9, W3, wc3, rfl, ?_⟩
  rw [← List.map_append, ← List.map_append] at hown9
  exact own_base hown9 hE05.size
/-- What the sum takes in beside the message; 20: not of one family. -/
theorem pseudo_spec {v : Int} {src dst : IPV} {n : Int} (h0 : 0 ≤ n) (h1 : n ≤ 65535) :
    Calls Tryd.prog 57 #[.int .i64 v, src.val, dst.val, .int .i64 n] w fun e w' => Ext w w' ∧
      ((v = 4 ∧ e = .returned (.tuple #[.slice none 0 0, .int .i64 0])) ∨ (v ≠ 4 ∧ ¬ (src.v = 6 ∧ dst.v = 6) ∧ e = .returned (.tuple #[.slice none 0 0, .int .i64 20])) ∨
       (v ≠ 4 ∧ (src.v = 6 ∧ dst.v = 6) ∧ ∃ W wc, e = .returned (.tuple #[.slice W 40 wc, .int .i64 0]) ∧ w'.ownsRow w.heap.size 5 1 (.slice W 40 wc) 40 ((pseudoL src dst n).map (.int .u8)))) := by
  refine icmp_pseudo_of v src.v src.a0 src.a1 src.a2 src.a3 src.a4 src.a5 src.a6 src.a7 src.a8 src.a9 src.a10 src.a11 src.a12 src.a13 src.a14 src.a15
    dst.v dst.a0 dst.a1 dst.a2 dst.a3 dst.a4 dst.a5 dst.a6 dst.a7 dst.a8 dst.a9 dst.a10 dst.a11 dst.a12 dst.a13 dst.a14 dst.a15 n w _ ?_
  unfold icmp_pseudo_VC
  refine NewVC.blk fun g1 w1 hg1 hz1 hE1 hb1 => NewVC.blk fun g2 w2 hg2 hz2 hE2 hb2 => ?_
  have hb1 := hb1.ext hE2
  have hE := hE1.ext hE2
  refine Br.dec (fun h4 => ⟨hE, .inl ⟨h4, rfl⟩⟩) (fun h4 => ?_)
  refine ⟨_, hb1.cell 0, Br.dec (fun hs => ⟨hE, .inr (.inl ⟨h4, fun e => hs e.1, rfl⟩)⟩) (fun hs => ?_)⟩
  refine ⟨_, hb2.cell 0, Br.dec (fun hd => ⟨hE, .inr (.inl ⟨h4, fun e => hd e.2, rfl⟩)⟩) (fun hd => ?_)⟩
  refine ⟨_, _, _, _, _, _, _, _, _, _, _, _, _, _, _, _, _, CellsAt.blk hb1, _, _, _, _, _, _, _, _, _, _, _, _, _, _, _, _, _, CellsAt.blk hb2, ?_⟩
  refine (pseudo6_spec (src := src) (dst := dst) (Decidable.not_not.1 hs) (Decidable.not_not.1 hd) h0 h1).mono ?_
  rintro _ w3 ⟨hE3, W, wc, rfl, hown⟩
  exact ⟨_, _, _, _, rfl, hE.ext hE3, .inr (.inr ⟨h4, ⟨Decidable.not_not.1 hs, Decidable.not_not.1 hd⟩, W, wc, rfl, own_base hown hE.size⟩)⟩
end
end Go.Proofs.YtjngdcilnipjcaaDoor
/- What a message is written as: both programs' Serialise. -/
namespace Go.Eng
open Go Go.RowKit
/-- The bytes and the error. -/
def serS (m : MsgV) (src dst : IPV) (data : List Int) : List Int × Int :=
  if checkS m ≠ 0 then ([], checkS m) else if m.v ≠ 4 ∧ ¬ (src.v = 6 ∧ dst.v = 6) then ([], 20)
  else (headS m.t m.c (65535 - sumS (overS m.v src dst (headS m.t m.c 0 m.r ++ data))) m.r ++ data, 0)
theorem checkS_ok {m : MsgV} (h : checkS m = 0) : (m.v = 4 ∨ m.v = 6) ∧ (0 ≤ m.t ∧ m.t ≤ 255) ∧ (0 ≤ m.c ∧ m.c ≤ 255) ∧ (0 ≤ m.r ∧ m.r ≤ 4294967295) ∧ m.n ≤ 65507 := by
  unfold checkS at h
  split at h
  · omega
  · split at h
    · omega
    · split at h <;> omega
theorem sumS_bound {l : List Int} (h : Bts l) : 0 ≤ sumS l ∧ sumS l ≤ 65535 := foldS_bound (rawS_bound h true).1
theorem headS_len (t c s r : Int) : (headS t c s r).length = 8 := rfl
end Go.Eng
namespace Go.Proofs.YtjngdcilnipjcaaDoor
open Go.Eng Go.RowKit

section
variable {w0 w : World} {m : MsgV} {src dst : IPV} {data : List Int} {R : Ending → World → Prop}
set_option maxHeartbeats 1000000 in
theorem ser_tail {g3 x0n x0c : Nat} {PA BA : Option Addr} {L0 : List Int} (hE : Ext w0 w) (hb : Blk w g3 24 m.cells) (hok : checkS m = 0) (_ : w0.heap.size ≤ g3)
    (hp : Cells w PA (L0.map (.int .u8))) (hpl : L0.length = x0n) (hpB : Bts L0) (hpn : x0n ≤ 70000) (hown : w.ownsRow w0.heap.size 5 1 (.slice BA 8 8) 8 ((headS m.t m.c 0 m.r).map (.int .u8)))
    (hne : ∀ k, (Value.slice BA 8 8).ownBlock = some k → k ≠ g3) (hd : Cells w0 m.A (data.map (.int .u8))) (hl : data.length = m.n) (hB : Bts data) (hov : L0 ++ (headS m.t m.c 0 m.r ++ data) = overS m.v src dst (headS m.t m.c 0 m.r ++ data))
    (hR : ∀ w' W wc, Ext w0 w' → w'.ownsRow w0.heap.size 5 1 (.slice W (8 + m.n) wc) (8 + m.n) ((headS m.t m.c (65535 - sumS (overS m.v src dst (headS m.t m.c 0 m.r ++ data))) m.r ++ data).map (.int .u8)) → R (.returned (.tuple #[.slice W (8 + m.n) wc, .int .i64 0])) w') :
    icmp_Serialise_D62 R 0 w g3 PA x0n x0c BA 8 8 := by
  obtain ⟨hv, ht, hc, hr, hn⟩ := checkS_ok hok
  have hhB : Bts (headS m.t m.c 0 m.r) := headS_bts ht hc ⟨by decide, by decide⟩ hr
  unfold icmp_Serialise_D62
  refine Br.no (by decide) ⟨_, _, _, hb.cell 4, ?_⟩
  refine NewVC.blk fun g5 w10 hg5 hz10 hE10 hb10 => ?_
  let ps : List PartV := [⟨PA, x0n, x0c, L0⟩, ⟨BA, 8, 8, headS m.t m.c 0 m.r⟩, ⟨m.A, m.n, m.k, data⟩]
  have hps : PartsAt w10 (some ⟨g5, 0, none⟩) ps := by
    refine ⟨by simpa [ps, PartV.val] using Cells.of_blk hb10 0, fun p hp' => ?_⟩
    simp only [ps, List.mem_cons, List.not_mem_nil, or_false] at hp'
    rcases hp' with rfl | rfl | rfl
    · exact ⟨hp.ext hE10, hpl, hpB, hpn⟩
    · exact ⟨own_cells (own_ext hown hE10), rfl, hhB, by show 8 ≤ 70000; decide⟩
    · exact ⟨(hd.ext hE).ext hE10, hl, hB, by show m.n ≤ 70000; omega⟩
  have hgr : groundS ps = overS m.v src dst (headS m.t m.c 0 m.r ++ data) := by rw [← hov]; simp [groundS, ps]
  have hsb := sumS_bound (groundS_bts fun p hp' => (hps.each p hp').2.2.1)
  refine (sumCheck_spec (m := 3) hps rfl (by decide)).mono ?_
  rintro _ w11 ⟨rfl, rfl⟩
  rw [hgr] at hsb ⊢
  generalize sumS (overS m.v src dst (headS m.t m.c 0 m.r ++ data)) = s at hsb hR ⊢
  have hx := (own_ext hown hE10)
  refine ⟨_, rfl, IdxVC.own hx (by decide) (by decide) (by decide) fun a _ hset => hset _ _ rfl fun w12 hz12 hm12 hown12 => ?_⟩
  refine IdxVC.own hown12 (by decide) (by decide) (by decide) fun a _ hset => hset _ _ rfl fun w13 hz13 hm13 hown13 => ?_
  have hnk : ∀ k, some k = (Value.slice BA 8 8).ownBlock → ¬ k = g3 := fun k hk => hne k hk.symm
  have hb13 := ((hb.ext hE10).mod hm12 fun e => hnk _ e rfl).mod hm13 fun e => hnk _ e rfl
  have hE12 := Ext.own (hE.ext hE10) hx hm12
  have hE13 := Ext.own hE12 hown12 hm13
  refine ⟨_, _, _, hb13.cell 4, ?_⟩
  have e1 : IntKind.u8.wrap (Int.fdiv (65535 - s) 256) = (65535 - s) / 256 := by rw [Int.fdiv_eq_ediv_of_nonneg _ (by decide), wu8 (by omega) (by omega)]
  have e2 : IntKind.u8.wrap (65535 - s) = (65535 - s) % 256 := u8_eq _
  rw [e1, e2] at hown13
  have hown13 : w13.ownsRow w0.heap.size 5 1 (.slice BA 8 8) 8 ((headS m.t m.c (65535 - s) m.r).map (.int .u8)) := hown13
  refine AppVC.at Tryd.underlying22 tyByte rfl hown13 (hd.ext hE13) (by simpa using hl) (ints_one _ _) (by omega) (by decide) hE13.size fun W wc w14 hown14 hm14 _ _ => ?_
  rw [← List.map_append] at hown14
  exact hR w14 W wc (Ext.own hE13 hown13 hm14) hown14

set_option maxHeartbeats 1000000 in
theorem serialise_spec (hd : Cells w m.A (data.map (.int .u8))) (hl : data.length = m.n) (hB : Bts data) (hn : m.n ≤ 140737488355328) (hs : Bts src.bytes) (ht : Bts dst.bytes) :
    Calls Tryd.prog 26 #[src.val, dst.val, m.val] w fun e w' => Ext w w' ∧ ∃ W wc, e = .returned (.tuple #[.slice W (serS m src dst data).1.length wc, .int .i64 (serS m src dst data).2]) ∧
      w'.ownsRow w.heap.size 5 1 (.slice W (serS m src dst data).1.length wc) (serS m src dst data).1.length ((serS m src dst data).1.map (.int .u8)) := by
  refine icmp_Serialise_of src.v src.a0 src.a1 src.a2 src.a3 src.a4 src.a5 src.a6 src.a7 src.a8 src.a9 src.a10 src.a11 src.a12 src.a13 src.a14 src.a15
    dst.v dst.a0 dst.a1 dst.a2 dst.a3 dst.a4 dst.a5 dst.a6 dst.a7 dst.a8 dst.a9 dst.a10 dst.a11 dst.a12 dst.a13 dst.a14 dst.a15 m.v m.t m.c m.r m.A m.n m.k w _ ?_
  unfold icmp_Serialise_VC
  refine NewVC.blk fun g1 w1 hg1 hz1 hE1 hb1 => NewVC.blk fun g2 w2 hg2 hz2 hE2 hb2 => NewVC.blk fun g3 w3 hg3 hz3 hE3 hb3 => ?_
  have hE03 := (hE1.ext hE2).ext hE3
  have hb1 := (hb1.ext hE2).ext hE3
  have hb2 := hb2.ext hE3
  refine ⟨_, _, _, _, _, _, _, CellsAt.blk hb3, ?_⟩
  refine (check_spec m hn).mono ?_
  rintro _ w4 ⟨hE4, rfl⟩
  refine ⟨_, rfl, Br.dec (fun hne => ?_) (fun he => ?_)⟩
  · have e : serS m src dst data = ([], checkS m) := by unfold serS; rw [if_pos hne]
    rw [e]
    exact ⟨hE03.ext hE4, none, 0, rfl, World.ownsRow_nil _ _ _ _⟩
  have hok : checkS m = 0 := Decidable.not_not.1 he
  obtain ⟨hv, hmt, hmc, hmr, hmn⟩ := checkS_ok hok
  have hE04 := hE03.ext hE4
  refine ⟨_, (hb3.ext hE4).cell 0, _, _, _, _, _, _, _, _, _, _, _, _, _, _, _, _, _, CellsAt.blk (hb1.ext hE4), _, _, _, _, _, _, _, _, _, _, _, _, _, _, _, _, _, CellsAt.blk (hb2.ext hE4), _, _, _, (hb3.ext hE4).cell 4, ?_⟩
  rw [w64 (n := 8 + (m.n : Int)) (by omega) (by omega)]
  have key : ∀ {w5 : World} {PA : Option Addr} {x0n x0c : Nat} {L0 : List Int}, Ext w4 w5 → Cells w5 PA (L0.map (.int .u8)) → L0.length = x0n → Bts L0 → x0n ≤ 70000 → L0 ++ (headS m.t m.c 0 m.r ++ data) = overS m.v src dst (headS m.t m.c 0 m.r ++ data) → ¬ (m.v ≠ 4 ∧ ¬ (src.v = 6 ∧ dst.v = 6)) →
      ∀ {w9 : World} {BA : Option Addr} {ds : List Int}, Ext w5 w9 → Packed hws [m.t, m.c, 0, m.r] ds → w9.ownsRow w5.heap.size 5 1 (.slice BA ds.length ds.length) ds.length (ds.map (.int .u8)) →
      icmp_Serialise_D62 (fun e w' => Ext w w' ∧ ∃ W wc, e = .returned (.tuple #[.slice W (serS m src dst data).1.length wc, .int .i64 (serS m src dst data).2]) ∧
        w'.ownsRow w.heap.size 5 1 (.slice W (serS m src dst data).1.length wc) (serS m src dst data).1.length ((serS m src dst data).1.map (.int .u8))) 0 w9 g3 PA x0n x0c BA ds.length ds.length := by
    intro w5 PA x0n x0c L0 hE5 hp hpl hpB hpn hov hfam w9 BA ds hE9 hpk hown
    obtain rfl := packed_head hpk
    have hE59 := hE5.ext hE9
    have e : serS m src dst data = (headS m.t m.c (65535 - sumS (overS m.v src dst (headS m.t m.c 0 m.r ++ data))) m.r ++ data, 0) := by unfold serS; rw [if_neg he, if_neg hfam]
    have s4 := hE04.size
    have s5 := hE5.size
    refine ser_tail (hE04.ext hE59) ((hb3.ext hE4).ext hE59) hok (by omega) (hp.ext hE9) hpl hpB hpn (own_base hown (by omega)) (fun k hk => by have := own_new hown k hk; have := hb3.lt; have := hE4.size; omega) hd hl hB hov fun w' W wc hE' hown' => ?_
    rw [e]
    have el : (headS m.t m.c (65535 - sumS (overS m.v src dst (headS m.t m.c 0 m.r ++ data))) m.r ++ data).length = 8 + m.n := by rw [List.length_append, headS_len, hl]
    simp only [el]
    exact ⟨hE', W, wc, rfl, hown'⟩
  have pack : ∀ {w5 : World} {PA : Option Addr} {x0n x0c : Nat} {L0 : List Int}, Ext w4 w5 → Cells w5 PA (L0.map (.int .u8)) → L0.length = x0n → Bts L0 → x0n ≤ 70000 → L0 ++ (headS m.t m.c 0 m.r ++ data) = overS m.v src dst (headS m.t m.c 0 m.r ++ data) → ¬ (m.v ≠ 4 ∧ ¬ (src.v = 6 ∧ dst.v = 6)) →
      ∀ {w8 : World} {g4 gw : Nat}, Ext w5 w8 → Blk w8 g4 3 (([m.t, m.c, 0, m.r] : List Int).map (.int .i64)) → Blk w8 gw 3 (hws.map (.int .i64)) →
      Calls Tryd.prog 58 #[.slice (some ⟨gw, 0, none⟩) 4 4, .slice (some ⟨g4, 0, none⟩) 4 4] w8 (onRet (fun r_3 w9 => ∃ (x0A1 : Option Addr) (x0n1 x0c1 : Nat), ∃ x110 : Int, r_3 = .tuple #[.slice x0A1 x0n1 x0c1, .int .i64 x110] ∧
        Ext w4 w9 ∧ icmp_Serialise_D62 (fun e w' => Ext w w' ∧ ∃ W wc, e = .returned (.tuple #[.slice W (serS m src dst data).1.length wc, .int .i64 (serS m src dst data).2]) ∧
        w'.ownsRow w.heap.size 5 1 (.slice W (serS m src dst data).1.length wc) (serS m src dst data).1.length ((serS m src dst data).1.map (.int .u8))) x110 w9 g3 PA x0n x0c x0A1 x0n1 x0c1) (fun _ _ => False)) := by
    intro w5 PA x0n x0c L0 hE5 hp hpl hpB hpn hov hfam w8 g4 gw hE8 hbv hbw
    refine (pack_ok (ws := hws) (vs := [m.t, m.c, 0, m.r]) (by simpa using Cells.of_blk hbw 0) rfl (by simpa using Cells.of_blk hbv 0) rfl hws_ok rfl).mono ?_
    rintro _ w9 ⟨hE9, ⟨-, BA, ds, hpk, rfl, hown⟩ | ⟨hno, rfl⟩⟩
    · have hE59 := hE8.ext hE9
      exact ⟨_, _, _, _, rfl, hE5.ext hE59, key hE5 hp hpl hpB hpn hov hfam hE59 hpk (own_base hown hE8.size)⟩
    · exact absurd (head_valuesOk hmt hmc hmr) hno
  refine (pseudo_spec (v := m.v) (src := src) (dst := dst) (n := 8 + (m.n : Int)) (by omega) (by omega)).mono ?_
  rintro _ w5 ⟨hE5, ⟨h4, rfl⟩ | ⟨h4, h6, rfl⟩ | ⟨h4, h6, W, wc, rfl, hown⟩⟩
  · refine ⟨_, _, _, _, rfl, Br.no (by decide) ?_⟩
    have hb35 := (hb3.ext hE4).ext hE5
    have hov : ([] : List Int) ++ (headS m.t m.c 0 m.r ++ data) = overS m.v src dst (headS m.t m.c 0 m.r ++ data) := by unfold overS; rw [if_pos h4]; rfl
    refine DrawVC.of (fun w' => Ext w4 w') fun w6 hE6 _ => ⟨hE5.ext hE6, ?_⟩
    refine ⟨_, fun w' hE' => ((hb3.ext hE4).ext hE').cell 1, _, fun w' hE' => ((hb3.ext hE4).ext hE').cell 2, _, fun w' hE' => ((hb3.ext hE4).ext hE').cell 3, ?_, ?_⟩
    · refine widths_spec.mono ?_
      rintro _ w7 ⟨hE7, gw, hgw, rfl, hbw⟩
      refine ⟨_, _, _, rfl, (hE5.ext hE6).ext hE7, ?_⟩
      refine NewVC.blk fun g4 w8 hg4 hz8 hE8 hb8 => ⟨((hE5.ext hE6).ext hE7).ext hE8, ?_⟩
      exact pack (hE5.ext hE6) (Cells.nil _ _) rfl (fun _ h => by cases h) (by decide) hov (fun e => e.1 h4) (hE7.ext hE8) hb8 (hbw.ext hE8)
    · refine NewVC.blk fun g4 w7 hg4 hz7 hE7 hb7 => ⟨(hE5.ext hE6).ext hE7, ?_⟩
      refine widths_spec.mono ?_
      rintro _ w8 ⟨hE8, gw, hgw, rfl, hbw⟩
      refine ⟨_, _, _, rfl, ((hE5.ext hE6).ext hE7).ext hE8, ?_⟩
      exact pack (hE5.ext hE6) (Cells.nil _ _) rfl (fun _ h => by cases h) (by decide) hov (fun e => e.1 h4) (hE7.ext hE8) (hb7.ext hE8) hbw
  · refine ⟨_, _, _, _, rfl, Br.yes (by decide) ?_⟩
    have e : serS m src dst data = ([], 20) := by unfold serS; rw [if_neg he, if_pos ⟨h4, h6⟩]
    rw [e]
    exact ⟨hE04.ext hE5, none, 0, rfl, World.ownsRow_nil _ _ _ _⟩
  · refine ⟨_, _, _, _, rfl, Br.no (by decide) ?_⟩
    have hov : pseudoL src dst (8 + (m.n : Int)) ++ (headS m.t m.c 0 m.r ++ data) = overS m.v src dst (headS m.t m.c 0 m.r ++ data) := by
      unfold overS; rw [if_neg h4, List.length_append, headS_len, hl]; simp
    have hpB := pseudoL_bts (n := 8 + (m.n : Int)) hs ht (by omega) (by omega)
    refine DrawVC.of (fun w' => Ext w4 w') fun w6 hE6 _ => ⟨hE5.ext hE6, ?_⟩
    refine ⟨_, fun w' hE' => ((hb3.ext hE4).ext hE').cell 1, _, fun w' hE' => ((hb3.ext hE4).ext hE').cell 2, _, fun w' hE' => ((hb3.ext hE4).ext hE').cell 3, ?_, ?_⟩
    · refine widths_spec.mono ?_
      rintro _ w7 ⟨hE7, gw, hgw, rfl, hbw⟩
      refine ⟨_, _, _, rfl, (hE5.ext hE6).ext hE7, ?_⟩
      refine NewVC.blk fun g4 w8 hg4 hz8 hE8 hb8 => ⟨((hE5.ext hE6).ext hE7).ext hE8, ?_⟩
      exact pack (hE5.ext hE6) (own_cells (own_ext hown hE6)) (pseudoL_len _ _ _) hpB (by decide) hov (fun e => e.2 h6) (hE7.ext hE8) hb8 (hbw.ext hE8)
    · refine NewVC.blk fun g4 w7 hg4 hz7 hE7 hb7 => ⟨(hE5.ext hE6).ext hE7, ?_⟩
      refine widths_spec.mono ?_
      rintro _ w8 ⟨hE8, gw, hgw, rfl, hbw⟩
      refine ⟨_, _, _, rfl, ((hE5.ext hE6).ext hE7).ext hE8, ?_⟩
      exact pack (hE5.ext hE6) (own_cells (own_ext hown hE6)) (pseudoL_len _ _ _) hpB (by decide) hov (fun e => e.2 h6) (hE7.ext hE8) (hb7.ext hE8) hbw

end
end Go.Proofs.YtjngdcilnipjcaaDoor
/- What is read of a message: both programs' Parse; Part, Same; lists that are marked, and whether they stand. -/
namespace Go.Eng
open Go Go.RowKit
/-- Lists that all hold one mark. -/
structure StandAt (w : World) (PA : Option Addr) (ps : List PartV) (mk : Int) : Prop where
  top : Cells w PA (ps.map PartV.val)
  each : ∀ p ∈ ps, Cells w p.A ((List.replicate p.n mk).map (.int .u8)) ∧ p.n ≤ 1000000
theorem StandAt.ext {w w' : World} {PA : Option Addr} {ps : List PartV} {mk : Int} (h : StandAt w PA ps mk) (hE : Ext w w') : StandAt w' PA ps mk := ⟨h.top.ext hE, fun p hp => ⟨(h.each p hp).1.ext hE, (h.each p hp).2⟩⟩
end Go.Eng
namespace Go.Proofs.YtjngdcilnipjcaaDoor
open Go.Eng Go.RowKit

section
variable {w : World} {src dst : IPV} {R : Ending → World → Prop}
theorem same8_spec {a b : MsgV} {da db : List Int} (ha : Cells w a.A (da.map (.int .u8))) (hb : Cells w b.A (db.map (.int .u8))) (hla : da.length = a.n) (hlb : db.length = b.n) (hn : a.n ≤ 100000000) :
    Calls Tryd.prog 21 #[a.val, b.val] w fun e w' => Ext w w' ∧ e = .returned (.bool (decide (a.v = b.v ∧ a.t = b.t ∧ a.c = b.c ∧ a.r = b.r ∧ da = db))) := by
  refine weirref8_Same_of a.v a.t a.c a.r a.A a.n a.k b.v b.t b.c b.r b.A b.n b.k w _ ?_
  unfold weirref8_Same_VC
  refine NewVC.blk fun g1 w1 hg1 hz1 hE1 hb1 => NewVC.blk fun g2 w2 hg2 hz2 hE2 hb2 => ?_
  have hb1 := hb1.ext hE2
  have hE := hE1.ext hE2
  have no : ∀ {w' : World}, Ext w w' → ¬ (a.v = b.v ∧ a.t = b.t ∧ a.c = b.c ∧ a.r = b.r ∧ da = db) → Ext w w' ∧ Ending.returned (.bool false) = .returned (.bool (decide (a.v = b.v ∧ a.t = b.t ∧ a.c = b.c ∧ a.r = b.r ∧ da = db))) := fun hE' h => ⟨hE', by rw [decide_eq_false h]⟩
  refine ⟨_, hb1.cell 0, _, hb2.cell 0, Br.dec (fun h => no hE fun e => h e.1) (fun h0 => ?_)⟩
  refine ⟨_, hb1.cell 1, _, hb2.cell 1, Br.dec (fun h => no hE fun e => h e.2.1) (fun h1 => ?_)⟩
  refine ⟨_, hb1.cell 2, _, hb2.cell 2, Br.dec (fun h => no hE fun e => h e.2.2.1) (fun h2 => ?_)⟩
  refine ⟨_, hb1.cell 3, _, hb2.cell 3, Br.dec (fun h => no hE fun e => h e.2.2.2.1) (fun h3 => ?_)⟩
  refine ⟨_, _, _, hb1.cell 4, _, _, _, hb2.cell 4, Br.dec (fun h => no hE fun e => h (by rw [← hla, ← hlb, e.2.2.2.2])) (fun h4 => ?_)⟩
  refine LoopVC.of (fun s w' => Ext w2 w' ∧ ∃ i : Nat, s = (i : Int) ∧ i ≤ a.n ∧ da.take i = db.take i) (fun s _ => (a.n - s).toNat) ⟨Mod.refl _ _, 0, rfl, by omega, by simp⟩ ?_
  rintro _ w3 ⟨hE3, i, rfl, hi, ht⟩
  unfold weirref8_Same_L58
  refine ⟨_, _, _, (hb1.ext hE3).cell 4, Br.dec (fun hlt => ?_) (fun hge => ?_)⟩
  · refine DrawVC.of (fun w' => Ext w2 w') fun w4 hE4 _ => ⟨hE3.ext hE4, ?_⟩
    have hE24 := hE3.ext hE4
    refine ⟨_, _, _, fun w' hE' => (hb1.ext hE').cell 4, ?_⟩
    refine IdxVC.draw (S := fun w' => Ext w2 w') hE24 (fun w' hE' => ha.ext (hE.ext hE')) (by omega) hlt hla fun a' ha' => ⟨_, ha', ?_⟩
    refine ⟨_, _, _, fun w' hE' => (hb2.ext hE').cell 4, ?_⟩
    refine IdxVC.draw (S := fun w' => Ext w2 w') hE24 (fun w' hE' => hb.ext (hE.ext hE')) (by omega) (by omega) hlb fun a1 ha1 => ⟨_, ha1, ?_⟩
    rw [Int.toNat_natCast]
    refine Br.dec (fun hne => no (hE.ext hE24) fun e => hne (by rw [e.2.2.2.2])) (fun heq => ?_)
    rw [w64 (n := (i : Int) + 1) (by omega) (by omega)]
    refine ⟨⟨hE24, i + 1, by omega, by omega, ?_⟩, by omega⟩
    rw [take_snocD da i (by omega), take_snocD db i (by omega), ht, Decidable.not_not.1 heq]
  · have hin : i = a.n := by omega
    subst hin
    rw [List.take_of_length_le (by omega), List.take_of_length_le (by omega)] at ht
    exact ⟨hE.ext hE3, by rw [decide_eq_true ⟨Decidable.not_not.1 h0, Decidable.not_not.1 h1, Decidable.not_not.1 h2, Decidable.not_not.1 h3, ht⟩]⟩

end
end Go.Proofs.YtjngdcilnipjcaaDoor
/- The document's Parse; lists that are marked, and whether they stand. -/
namespace Go.Proofs.YtjngdcilnipjcaaDoor
open Go.Eng Go.RowKit

section
variable {w : World} {src dst : IPV} {R : Ending → World → Prop}

theorem stand_spec {PA : Option Addr} {m mc : Nat} {ps : List PartV} {mk : Int} (h : StandAt w PA ps mk) (hm : ps.length = m) (hm2 : m ≤ 1000) :
    Calls Tryd.prog 23 #[.slice PA m mc, .int .u8 mk] w fun e w' => w = w' ∧ e = .returned (.bool true) := by
  refine weirlaw8_stand_of PA m mc mk w _ ?_
  unfold weirlaw8_stand_VC
  have read : ∀ {i : Nat} (hi : i < ps.length) {F : Addr → Prop}, (∀ a, w.cell? a = some (.slice ps[i].A ps[i].n ps[i].c) → F a) → IdxVC PA m 1 (i : Int) F := fun {i} hi {F} hF =>
    IdxVC.of h.top (by omega) (by omega) (by simpa using hm) fun a _ ha => hF _ (by rw [ha]; simp [PartV.val])
  refine LoopVC.of (fun s w' => w = w' ∧ ∃ i : Nat, s = (i : Int) ∧ i ≤ m) (fun s _ => ((m : Int) - s).toNat) ⟨rfl, 0, rfl, by omega⟩ ?_
  rintro _ w1 ⟨rfl, i, rfl, hi⟩
  unfold weirlaw8_stand_L26
  refine Br.dec (fun hlt => ?_) (fun hge => ⟨rfl, rfl⟩)
  have hil : i < ps.length := by omega
  obtain ⟨hc, hn⟩ := h.each _ (List.getElem_mem hil)
  refine LoopVC.of (fun s w' => w = w' ∧ ∃ k : Nat, s = (k : Int) ∧ k ≤ ps[i].n) (fun s _ => ((ps[i].n : Int) - s).toNat) ⟨rfl, 0, rfl, by omega⟩ ?_
  rintro _ w2 ⟨rfl, k, rfl, hk⟩
  unfold weirlaw8_stand_L1682
  rw [w64 (n := (k : Int) + 1) (by omega) (by omega), w64 (n := (i : Int) + 1) (by omega) (by omega)]
  refine read hil fun a ha => ⟨_, _, _, ha, Br.dec (fun hkl => ?_) (fun hkg => ⟨⟨rfl, i + 1, by omega, by omega⟩, by omega⟩)⟩
  refine read hil fun a ha => ⟨_, _, _, ha, ?_⟩
  refine IdxVC.int hc (by omega) hkl (by simp) fun a ha => ⟨_, ha, Br.no ?_ ⟨⟨rfl, k + 1, by omega, by omega⟩, by omega⟩⟩
  rw [Int.toNat_natCast]
  simp [List.getD_eq_getElem?_getD, show k < ps[i].n by omega]
end
end Go.Proofs.YtjngdcilnipjcaaDoor
/- What the statements ask first of all (firsts, awake). -/
namespace Go.Eng
open Go Go.RowKit
theorem CellsAt.part {w : World} {g : Nat} {t : TypeId} {cs ds es : List Value} (h : Blk w g t cs) (k : Nat) (hd : cs.drop k = ds ++ es) : CellsAt w ⟨g, k, none⟩ 0 ds := by
  refine CellsAt.of ds 0 fun j v hj => ?_
  rw [addr_add, Nat.zero_add, h.cell]
  have e : cs[k + j]? = (cs.drop k)[j]? := by rw [List.getElem?_drop]
  rw [e, hd, List.getElem?_append_left (List.getElem?_eq_some_iff.1 hj).1]; exact hj
def zeroIP : IPV := ⟨0, 0, 0, 0, 0, 0, 0, 0, 0, 0, 0, 0, 0, 0, 0, 0, 0⟩
theorem zeroIP_bts : Bts zeroIP.bytes := by intro x hx; simp [zeroIP, IPV.bytes] at hx; omega
end Go.Eng
namespace Go.Proofs.YtjngdcilnipjcaaDoor
open Go.Eng Go.RowKit

section
variable {w : World}

section
variable {R : Ending → World → Prop} {g1 g2 g4 g5 : Nat} {tn : TypeId} {bigM : MsgV}
end
end
end Go.Proofs.YtjngdcilnipjcaaDoor
