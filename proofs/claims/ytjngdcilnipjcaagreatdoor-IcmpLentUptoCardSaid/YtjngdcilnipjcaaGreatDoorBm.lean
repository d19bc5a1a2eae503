/- The sum that a text of itself bears, both programs. -/
import Derived.Test.YtjngdcilnipjcaaGreatDoorBt
import Derived.Test.YtjngdcilnipjcaaGreatDoorBe
import Derived.Test.YtjngdcilnipjcaaGreatDoorBd
namespace Go.Proofs.YtjngdcilnipjcaaGreatDoor
set_option maxRecDepth 100000
open Go.Eng Go.RowKit
section
variable {w : World} {PA : Option Addr} {m mc : Nat} {ps : List PartV}
theorem sumGood_spec (h : PartsAt w PA ps) (hm : ps.length = m) (hm2 : m ≤ 10) : Calls Tryz.prog 53 #[.slice PA m mc] w fun e w' => w = w' ∧ e = .returned (.bool (decide (sumS (groundS ps) = 65535))) := by
 refine sum_Good_of PA m mc w _ ?_
 refine (sum_spec h hm hm2).mono ?_
 rintro _ w1 ⟨rfl, rfl⟩
 exact ⟨_, rfl, rfl, rfl⟩
theorem refGood_spec (h : PartsAt w PA ps) (hm : ps.length = m) (hm2 : m ≤ 10) : Calls Tryz.prog 81 #[.slice PA m mc] w fun e w' => w = w' ∧ e = .returned (.bool (decide (sumS (groundS ps) = 65535))) := by
 refine weirref2_Good_of PA m mc w _ ?_
 refine (refSum_spec h hm hm2).mono ?_
 rintro _ w1 ⟨rfl, rfl⟩
 exact ⟨_, rfl, rfl, rfl⟩
end
end Go.Proofs.YtjngdcilnipjcaaGreatDoor
/- Addresses and messages by value; the small functions of layer 8: laid, copied, same, marked, stand, echo, widths, the two Checks. -/
namespace Go.Eng
open Go Go.RowKit
section
variable {P : Program} {w : World} {base e n c : Nat} {xs : List Value}
theorem AppVC.both {P : Program} {ts : Array TypeId} {ty : TypeId} {v v' : Value} {w : World} {F G : Option Addr → Nat → Nat → World → Prop} (h : AppVC P ts ty v v' w F) (h' : AppVC P ts ty v v' w G) :
  AppVC P ts ty v v' w fun A n c w' => F A n c w' ∧ G A n c w' := by
 obtain ⟨A, n, c, w1, hr, hf⟩ := h
 obtain ⟨B, m, d, w2, hr', hg⟩ := h'
 rw [hr] at hr'
 injection hr' with e1 e2
 injection e1 with a b c
 subst a; subst b; subst c; subst e2
 exact ⟨_, _, _, _, hr, hf, hg⟩
theorem AppVC.place {t ty : TypeId} {z : Value} {bytes : Nat} (ht : P.underlying t = some (.slice e)) (hi : TypeIs P e z 1 bytes) (hzs : z.cells.size = 1)
  {A A' : Option Addr} {m c' : Nat} {news : List Value}
  (hown : w.ownsRow base e 1 (.slice A n c) n xs) (hsrc : Cells w A' news) (hl : news.length = m) (h0 : 0 < m) (h1 : ∀ u ∈ news, u.oneCell' = true)
  (hbytes : (n + m) * bytes ≤ 140737488355328) (hb0 : 0 < bytes) :
  AppVC P #[t, t] ty (.slice A n c) (.slice A' m c') w fun A2 n2 c2 w' => A2 = A ∨ (Ext w w' ∧ ∀ k, (Value.slice A2 n2 c2).ownBlock = some k → w.heap.size ≤ k) := by
 obtain ⟨i, hi, hz, hs, hy⟩ := hi
 obtain ⟨a', ha', _⟩ := hsrc.at (i := 0) (by omega)
 subst ha'
 have hsrc' : ∀ j u, news[j]? = some u → w.cell? (a'.add j) = some u := fun j u hu => by
  obtain ⟨b', ha, hc⟩ := hsrc j u hu; cases ha; exact hc
 have h63 : n + m ≤ maxLen := by
  have : (n + m) * 1 ≤ (n + m) * bytes := Nat.mul_le_mul_left _ hb0
  simp only [maxLen]; omega
 rcases hown.2 with ⟨hv, hn0⟩ | ⟨g, cap, cur, hv, hb, hg, hnc, hm, hsz, htk⟩
 ·injection hv with hA _ hc
  subst hA; subst hc; subst hn0
  refine AppVC.own ht hi hz hs hy hzs (by decide) (base := w.heap.size) (World.ownsRow_nil _ _ _ _) hsrc (by omega) h1 hbytes hb0 (Nat.le_refl _) fun A2 c2 w2 ho2 hm2 _ => ?_
  exact .inr ⟨hm2.mono (fun k _ hk => by simp [Value.ownBlock] at hk), own_new ho2⟩
 ·injection hv with hA _ hcap
  subst hA; subst hcap
  by_cases hroom : n + m ≤ c
  ·have hcell : ∀ j, j < news.length → (w.cell? ⟨g, 0 + n * i.size + j, none⟩).isSome = true := fun j hj => by
    rw [cell_of_row w g _ cur e (0, 0) hg, hs]
    have : n + j < cur.size := by omega
    simp [this]
   have hr := run_append_room_cells (P := P) w t ty e i ht hi g 0 n c a' m c' news (by rw [hs]; omega) hsrc' h1 hroom hcell (fun j hj => frozen_of_row w g _ cur e hg)
   exact ⟨_, _, _, _, hr, .inl rfl⟩
  ·obtain ⟨v', w', hr, ho, hgr⟩ := run_append_arg_grows (P := P) (w := w) t ty e i z 1 bytes ht hi hz hs hy hzs (by decide) ⟨g, 0, none⟩ n c xs (by have := hown.1; omega)
    (fun j u hu => by obtain ⟨a, ha, hc⟩ := own_cells hown j u hu; cases ha; exact hc) a' m c' news (by omega) hsrc' (by omega) h63 hbytes
   obtain ⟨A2, c2, rfl, _, _⟩ := own_form ho
   exact ⟨A2, n + m, c2, w', hr, .inr ⟨(Mod.grown hgr).mono (fun k hk e => by cases e), own_new ho⟩⟩
theorem AppVC.whole {t ty : TypeId} {z : Value} {bytes : Nat} (ht : P.underlying t = some (.slice e)) (hi : TypeIs P e z 1 bytes) (hzs : z.cells.size = 1)
  {A A' : Option Addr} {m c' : Nat} {news : List Value} {F : Option Addr → Nat → Nat → World → Prop}
  (hown : w.ownsRow base e 1 (.slice A n c) n xs) (hsrc : Cells w A' news) (hl : news.length = m) (h0 : 0 < m) (h1 : ∀ u ∈ news, u.oneCell' = true)
  (hbytes : (n + m) * bytes ≤ 140737488355328) (hb0 : 0 < bytes) (hbase : base ≤ w.heap.size)
  (h : ∀ A2 c2 w', w'.ownsRow base e 1 (.slice A2 (n + m) c2) (n + m) (xs ++ news) → w'.ownsRow base e 1 (.slice A n c) n xs → Mod (fun k => some k = (Value.slice A n c).ownBlock) w w' →
   (∀ k, some k = (Value.slice A2 (n + m) c2).ownBlock → some k = (Value.slice A n c).ownBlock ∨ w.heap.size ≤ k) → (A2 = A ∨ (Ext w w' ∧ ∀ k, (Value.slice A2 (n + m) c2).ownBlock = some k → w.heap.size ≤ k)) → F A2 (n + m) c2 w') :
  AppVC P #[t, t] ty (.slice A n c) (.slice A' m c') w F := by
 have hA := AppVC.at (F := fun A2 n2 c2 w' => n2 = n + m ∧ w'.ownsRow base e 1 (.slice A2 (n + m) c2) (n + m) (xs ++ news) ∧ Mod (fun k => some k = (Value.slice A n c).ownBlock) w w' ∧
   ∀ k, some k = (Value.slice A2 (n + m) c2).ownBlock → some k = (Value.slice A n c).ownBlock ∨ w.heap.size ≤ k) (t := t) (ty := ty) ht hi hzs hown hsrc hl h1 hbytes hb0 hbase (c' := c') fun A2 c2 w' a b _ d => ⟨rfl, a, b, d⟩
 have hB := AppVC.keep (F := fun _ _ _ w' => w'.ownsRow base e 1 (.slice A n c) n xs) (t := t) (ty := ty) ht hi hzs hown hsrc hl h0 h1 hbytes hb0 (c' := c') fun _ _ w' a _ => a
 have hC := AppVC.place (t := t) (ty := ty) ht hi hzs hown hsrc hl h0 h1 hbytes hb0 (c' := c')
 obtain ⟨A2, n2, c2, w', hr, ⟨rfl, a, b, d⟩, k, p⟩ := AppVC.both hA (AppVC.both hB hC)
 exact ⟨A2, _, c2, w', hr, h A2 c2 w' a k b d p⟩
end
theorem set5 {w : World} {g : Nat} {t : TypeId} {x0 x1 x2 x3 x4 a b c d e : Value} {K : World → Prop} (hb : Blk w g t [x0, x1, x2, x3, x4])
  (h : ∀ w', w'.heap.size = w.heap.size → Mod (fun k => k = g) w w' → Blk w' g t [a, b, c, d, e] → K w') :
  SetVC w ⟨g, 0, none⟩ a fun w1 => SetVC w1 ⟨g, 1, none⟩ b fun w2 => SetVC w2 ⟨g, 2, none⟩ c fun w3 => SetVC w3 ⟨g, 3, none⟩ d fun w4 => SetVC w4 ⟨g, 4, none⟩ e K := by
 refine SetVC.blk hb (by simp) fun w1 z1 m1 h1 => ?_
 refine SetVC.blk h1 (by simp) fun w2 z2 m2 h2 => ?_
 refine SetVC.blk h2 (by simp) fun w3 z3 m3 h3 => ?_
 refine SetVC.blk h3 (by simp) fun w4 z4 m4 h4 => ?_
 refine SetVC.blk h4 (by simp) fun w5 z5 m5 h5 => ?_
 exact h w5 (by omega) ((((m1.trans m2).trans m3).trans m4).trans m5) h5
structure MsgV where
 v : Int
 t : Int
 c : Int
 r : Int
 A : Option Addr
 n : Nat
 k : Nat
def MsgV.cells (m : MsgV) : List Value := [.int .i64 m.v, .int .i64 m.t, .int .i64 m.c, .int .i64 m.r, .slice m.A m.n m.k]
def MsgV.val (m : MsgV) : Value := .agg #[.int .i64 m.v, .int .i64 m.t, .int .i64 m.c, .int .i64 m.r, .slice m.A m.n m.k]
def checkS (m : MsgV) : Int :=
 if m.v ≠ 4 ∧ m.v ≠ 6 then 1 else if m.t < 0 ∨ 255 < m.t ∨ m.c < 0 ∨ 255 < m.c ∨ m.r < 0 ∨ 4294967295 < m.r then 82 else if 65507 < m.n then 2 else 0
end Go.Eng
namespace Go.Proofs.YtjngdcilnipjcaaGreatDoor
open Go.Eng Go.RowKit
section
variable {w : World}
theorem leaf82 {m : MsgV} (h : ¬ (m.v ≠ 4 ∧ m.v ≠ 6)) (h2 : m.t < 0 ∨ 255 < m.t ∨ m.c < 0 ∨ 255 < m.c ∨ m.r < 0 ∨ 4294967295 < m.r) : Ending.returned (.int .i64 82) = .returned (.int .i64 (checkS m)) := by
 unfold checkS; rw [if_neg h, if_pos h2]
theorem check_spec (m : MsgV) (hn : m.n ≤ 140737488355328) : Calls Tryz.prog 39 #[m.val] w fun e w' => Ext w w' ∧ e = .returned (.int .i64 (checkS m)) := by
 refine icmp_Check_of m.v m.t m.c m.r m.A m.n m.k w _ ?_
 unfold icmp_Check_VC
 refine NewVC.blk fun g1 w1 hg1 hz1 hE1 hb1 => ?_
 refine JoinVC.of (fun s w' => w' = w1 ∧ s = decide (m.v ≠ 4 ∧ m.v ≠ 6)) ?_ ?_
 ·refine ⟨_, hb1.cell 0, Br.dec (fun h => ⟨_, hb1.cell 0, rfl, ?_⟩) (fun h => ⟨rfl, ?_⟩)⟩
  ·simp [h]
  ·simp at h; simp [h]
 rintro s w2 ⟨rfl, rfl⟩
 unfold icmp_Check_J12
 refine Br.dec (fun h => ⟨hE1, ?_⟩) (fun h => ?_)
 ·unfold checkS; rw [if_pos h]
 refine ⟨_, hb1.cell 1, Br.dec (fun h1 => ⟨hE1, leaf82 h (by omega)⟩) fun h1 => ?_⟩
 refine ⟨_, hb1.cell 1, Br.dec (fun h2 => ⟨hE1, leaf82 h (by omega)⟩) fun h2 => ?_⟩
 refine ⟨_, hb1.cell 2, Br.dec (fun h3 => ⟨hE1, leaf82 h (by omega)⟩) fun h3 => ?_⟩
 refine ⟨_, hb1.cell 2, Br.dec (fun h4 => ⟨hE1, leaf82 h (by omega)⟩) fun h4 => ?_⟩
 refine ⟨_, hb1.cell 3, Br.dec (fun h5 => ⟨hE1, leaf82 h (by omega)⟩) fun h5 => ?_⟩
 refine ⟨_, hb1.cell 3, Br.dec (fun h6 => ⟨hE1, leaf82 h (by omega)⟩) fun h6 => ?_⟩
 refine ⟨_, _, _, hb1.cell 4, ?_⟩
 rw [w64 (by omega) (by omega)]
 refine Br.dec (fun h7 => ⟨hE1, ?_⟩) (fun h7 => ⟨hE1, ?_⟩)
 ·unfold checkS; rw [if_neg h, if_neg (by omega), if_pos (by omega)]
 ·unfold checkS; rw [if_neg h, if_neg (by omega), if_neg (by omega)]
theorem refCheck8_spec (m : MsgV) : Calls Tryz.prog 27 #[m.val] w fun e w' => Ext w w' ∧ e = .returned (.int .i64 (checkS m)) := by
 refine weirref8_Check_of m.v m.t m.c m.r m.A m.n m.k w _ ?_
 unfold weirref8_Check_VC
 refine NewVC.blk fun g1 w1 hg1 hz1 hE1 hb1 => ?_
 refine JoinVC.of (fun _ w' => w' = w1 ∧ ¬ (m.v ≠ 4 ∧ m.v ≠ 6)) ?_ ?_
 ·refine ⟨_, hb1.cell 0, Br.dec (fun h => ⟨_, hb1.cell 0, Br.dec (fun h' => ⟨hE1, ?_⟩) (fun h' => ⟨rfl, ?_⟩)⟩) (fun h => ⟨rfl, ?_⟩)⟩
  ·unfold checkS; rw [if_pos ⟨h, h'⟩]
  ·exact fun e => h' e.2
  ·exact fun e => h e.1
 rintro s w2 ⟨rfl, h⟩
 unfold weirref8_Check_J3
 refine ⟨_, hb1.cell 1, Br.dec (fun h1 => ⟨hE1, leaf82 h (by omega)⟩) fun h1 => ?_⟩
 refine ⟨_, hb1.cell 1, Br.dec (fun h2 => ⟨hE1, leaf82 h (by omega)⟩) fun h2 => ?_⟩
 refine ⟨_, hb1.cell 2, Br.dec (fun h3 => ⟨hE1, leaf82 h (by omega)⟩) fun h3 => ?_⟩
 refine ⟨_, hb1.cell 2, Br.dec (fun h4 => ⟨hE1, leaf82 h (by omega)⟩) fun h4 => ?_⟩
 refine ⟨_, hb1.cell 3, Br.dec (fun h5 => ⟨hE1, leaf82 h (by omega)⟩) fun h5 => ?_⟩
 refine ⟨_, hb1.cell 3, Br.dec (fun h6 => ⟨hE1, leaf82 h (by omega)⟩) fun h6 => ?_⟩
 refine ⟨_, _, _, hb1.cell 4, ?_⟩
 refine Br.dec (fun h7 => ⟨hE1, ?_⟩) (fun h7 => ⟨hE1, ?_⟩)
 ·unfold checkS; rw [if_neg h, if_neg (by omega), if_pos (by omega)]
 ·unfold checkS; rw [if_neg h, if_neg (by omega), if_neg (by omega)]
theorem widths_spec : Calls Tryz.prog 42 #[] w fun e w' => Ext w w' ∧ ∃ g, w.heap.size ≤ g ∧ e = .returned (.slice (some ⟨g, 0, none⟩) 4 4) ∧ Blk w' g 3 (([8, 8, 16, 32] : List Int).map (.int .i64)) := by
 refine icmp_widths_of w _ ?_
 unfold icmp_widths_VC
 exact NewVC.blk fun g1 w1 hg1 _ hE1 hb1 => ⟨hE1, g1, by omega, rfl, hb1⟩
def echoV : MsgV := ⟨4, 8, 0, 65537, none, 0, 0⟩
theorem echo_spec : Calls Tryz.prog 23 #[] w fun e w' => Ext w w' ∧ e = .returned echoV.val := by
 refine weirlaw8_echo_of w _ ?_
 unfold weirlaw8_echo_VC
 refine NewVC.blk fun g1 w1 hg1 hz1 hE1 hb1 => ?_
 refine set5 hb1 fun w2 hz2 hm2 hb2 => ?_
 exact ⟨_, _, _, _, _, _, _, CellsAt.blk hb2, hE1.set hm2 (by omega), rfl⟩
theorem copied_spec {A : Option Addr} {n c : Nat} {bs : List Int} (hb : Cells w A (bs.map (.int .u8))) (hl : bs.length = n) (hn : n ≤ 100000000) :
  Calls Tryz.prog 7 #[.slice A n c] w fun e w' => Ext w w' ∧ ∃ W wc, e = .returned (.slice W n wc) ∧ w'.ownsRow w.heap.size 5 1 (.slice W n wc) n (bs.map (.int .u8)) := by
 refine weirlaw8_copied_of A n c w _ ?_
 unfold weirlaw8_copied_VC
 refine AppVC.at Tryz.underlying25 tyByte rfl (World.ownsRow_nil _ _ _ _) hb (by simpa using hl) (ints_one _ _) (by omega) (by decide) (Nat.le_refl _) fun W wc w' hown hm _ _ => ?_
 rw [Nat.zero_add] at hown ⊢
 exact ⟨hm.mono fun k _ e => by simp [Value.ownBlock] at e, W, wc, rfl, by simpa using hown⟩
theorem same_spec {A B : Option Addr} {n c m d : Nat} {xs ys : List Int} (hx : Cells w A (xs.map (.int .u8))) (hy : Cells w B (ys.map (.int .u8))) (hn : xs.length = n) (hm : ys.length = m) (hb : n ≤ 4611686018427387904) :
  Calls Tryz.prog 19 #[.slice A n c, .slice B m d] w fun e w' => Ext w w' ∧ e = .returned (.bool (decide (xs = ys))) := by
 refine weirlaw8_same_of A n c B m d w _ ?_
 unfold weirlaw8_same_VC
 refine Br.dec (fun h => ⟨Mod.refl _ _, ?_⟩) (fun h => ?_)
 ·rw [decide_eq_false (fun e => h (by rw [← hn, ← hm, e]))]
 refine LoopVC.of (fun s w' => Ext w w' ∧ ∃ i : Nat, s = (i : Int) ∧ i ≤ n ∧ xs.take i = ys.take i) (fun s _ => (n - s).toNat) ⟨Mod.refl _ _, 0, rfl, by omega, by simp⟩ ?_
 rintro _ w1 ⟨hE1, i, rfl, hi, ht⟩
 unfold weirlaw8_same_L58
 refine Br.dec (fun hlt => ?_) (fun hge => ?_)
 ·refine DrawVC.of (fun w' => Ext w w') fun w2 hE2 _ => ⟨hE1.ext hE2, ?_⟩
  have hE := hE1.ext hE2
  refine IdxVC.draw (S := fun w' => Ext w w') hE (fun w' hE' => hx.ext hE') (by omega) hlt hn fun a ha => ⟨_, ha, ?_⟩
  refine IdxVC.draw (S := fun w' => Ext w w') hE (fun w' hE' => hy.ext hE') (by omega) (by omega) hm fun a1 ha1 => ⟨_, ha1, ?_⟩
  rw [Int.toNat_natCast]
  refine Br.dec (fun hne => ⟨hE, ?_⟩) (fun heq => ?_)
  ·rw [decide_eq_false (fun e => hne (by rw [e]))]
  ·rw [w64 (n := (i : Int) + 1) (by omega) (by omega)]
   refine ⟨⟨hE, i + 1, by omega, by omega, ?_⟩, by omega⟩
   rw [take_snocD xs i (by omega), take_snocD ys i (by omega), ht, Decidable.not_not.1 heq]
 ·have hin : i = n := by omega
  subst hin
  refine ⟨hE1, ?_⟩
  rw [List.take_of_length_le (by omega), List.take_of_length_le (by omega)] at ht
  rw [decide_eq_true ht]
end
end Go.Proofs.YtjngdcilnipjcaaGreatDoor
/- The eight bytes of a message's head as fields of 8, 8, 16 and 32 bits. -/
namespace Go.Eng
open Go Go.RowKit
theorem fieldV_add (f : Nat → Int) (p a : Nat) : ∀ b, fieldV f p (a + b) = fieldV f p a * 2 ^ b + fieldV f (p + a) b
 | 0 => by simp [fieldV]
 | b + 1 => by
  rw [← Nat.add_assoc]
  simp only [fieldV]
  have e : fieldV f p a * 2 ^ (b + 1) = 2 * (fieldV f p a * 2 ^ b) := by
   rw [Int.pow_succ, ← Int.mul_assoc, Int.mul_comm _ 2]
  rw [fieldV_add f p a b, e, Nat.add_assoc p a b]
  omega
theorem fieldV_byte {bs : List Int} (hB : Bts bs) {q : Nat} (hq : q < bs.length) : fieldV (bitAt bs) (8 * q) 8 = bs[q] := by
 have hx := hB.at hq
 have hg : bs.getD q 0 = bs[q] := by simp [hq]
 simp only [fieldV, bitAt]
 have e0 : (8 * q + 0) / 8 = q := by omega
 have e1 : (8 * q + 1) / 8 = q := by omega
 have e2 : (8 * q + 2) / 8 = q := by omega
 have e3 : (8 * q + 3) / 8 = q := by omega
 have e4 : (8 * q + 4) / 8 = q := by omega
 have e5 : (8 * q + 5) / 8 = q := by omega
 have e6 : (8 * q + 6) / 8 = q := by omega
 have e7 : (8 * q + 7) / 8 = q := by omega
 have m0 : 7 - (8 * q + 0) % 8 = 7 := by omega
 have m1 : 7 - (8 * q + 1) % 8 = 6 := by omega
 have m2 : 7 - (8 * q + 2) % 8 = 5 := by omega
 have m3 : 7 - (8 * q + 3) % 8 = 4 := by omega
 have m4 : 7 - (8 * q + 4) % 8 = 3 := by omega
 have m5 : 7 - (8 * q + 5) % 8 = 2 := by omega
 have m6 : 7 - (8 * q + 6) % 8 = 1 := by omega
 have m7 : 7 - (8 * q + 7) % 8 = 0 := by omega
 rw [e0, e1, e2, e3, e4, e5, e6, e7, m0, m1, m2, m3, m4, m5, m6, m7, hg]
 generalize bs[q] = x at hx
 simp only [Int.reducePow]
 omega
theorem fieldV_beNum {bs : List Int} (hB : Bts bs) (p : Nat) : ∀ k, p + k ≤ bs.length → fieldV (bitAt bs) (8 * p) (8 * k) = beNum ((bs.drop p).take k)
 | 0, _ => by simp [fieldV, beNum]
 | k + 1, h => by
  have hlt : k < (bs.drop p).length := by rw [List.length_drop]; omega
  have hb := fieldV_byte hB (q := p + k) (by omega)
  rw [Nat.mul_add 8 k 1, fieldV_add, fieldV_beNum hB p k (by omega), List.take_succ_eq_append_getElem hlt, beNum_snoc, Nat.mul_one, ← Nat.mul_add, hb]
  simp
def hws : List Int := [8, 8, 16, 32]
theorem hws_ok : widthsOk hws := ⟨by decide, by intro x hx; simp [hws] at hx; omega, by decide⟩
theorem hws_psum : psum hws = 64 := by decide
theorem hws_fields {bs : List Int} (hB : Bts bs) (hl : bs.length = 8) : fieldsV (bitAt bs) 0 hws = [bs.getD 0 0, bs.getD 1 0, bs.getD 2 0 * 256 + bs.getD 3 0, ((bs.getD 4 0 * 256 + bs.getD 5 0) * 256 + bs.getD 6 0) * 256 + bs.getD 7 0] := by
 match bs, hl with
 | [b0, b1, b2, b3, b4, b5, b6, b7], _ =>
  have f0 := fieldV_beNum hB 0 1 (by simp)
  have f1 := fieldV_beNum hB 1 1 (by simp)
  have f2 := fieldV_beNum hB 2 2 (by simp)
  have f3 := fieldV_beNum hB 4 4 (by simp)
  simp only [hws, fieldsV]
  simp only [Nat.mul_zero, Nat.mul_one, List.drop_zero, List.drop_succ_cons, List.take_succ_cons, List.take_zero, beNum, List.foldl_cons, List.foldl_nil] at f0 f1 f2 f3
  show [fieldV (bitAt [b0, b1, b2, b3, b4, b5, b6, b7]) 0 8, fieldV (bitAt [b0, b1, b2, b3, b4, b5, b6, b7]) 8 8, fieldV (bitAt [b0, b1, b2, b3, b4, b5, b6, b7]) 16 16, fieldV (bitAt [b0, b1, b2, b3, b4, b5, b6, b7]) 32 32] = _
  rw [f0, f1, f2, f3]
  simp
def headS (t c s r : Int) : List Int := [t, c, s / 256, s % 256, r / 16777216, r / 65536 % 256, r / 256 % 256, r % 256]
theorem headS_bts {t c s r : Int} (ht : 0 ≤ t ∧ t ≤ 255) (hc : 0 ≤ c ∧ c ≤ 255) (hs : 0 ≤ s ∧ s ≤ 65535) (hr : 0 ≤ r ∧ r ≤ 4294967295) : Bts (headS t c s r) := by
 intro x hx
 simp only [headS, List.mem_cons, List.not_mem_nil, or_false] at hx
 omega
theorem packed_head {t c s r : Int} {ds : List Int} (h : Packed hws [t, c, s, r] ds) : ds = headS t c s r := by
 have hl : ds.length = 8 := by have := h.len; rw [hws_psum] at this; omega
 have hv := h.vals
 rw [hws_fields h.bts hl] at hv
 have hB := h.bts
 match ds, hl with
 | [b0, b1, b2, b3, b4, b5, b6, b7], _ =>
  have q0 := hB b0 (by simp)
  have q1 := hB b1 (by simp)
  have q2 := hB b2 (by simp)
  have q3 := hB b3 (by simp)
  have q4 := hB b4 (by simp)
  have q5 := hB b5 (by simp)
  have q6 := hB b6 (by simp)
  have q7 := hB b7 (by simp)
  simp only [List.getD_cons_zero, List.getD_cons_succ, List.cons.injEq, and_true] at hv
  simp only [headS, List.cons.injEq, and_true]
  omega
theorem head_valuesOk {t c r : Int} (ht : 0 ≤ t ∧ t ≤ 255) (hc : 0 ≤ c ∧ c ≤ 255) (hr : 0 ≤ r ∧ r ≤ 4294967295) : valuesOk hws [t, c, 0, r] := by
 refine ⟨rfl, fun i hi => ?_⟩
 match i, hi with
 | 0, _ => simp [hws]; omega
 | 1, _ => simp [hws]; omega
 | 2, _ => simp [hws]
 | 3, _ => simp [hws]; omega
end Go.Eng
/- Layer 8's looks at addresses: the pseudo-headers, both the same; what a message's sum goes over. -/
namespace Go.Eng
open Go Go.RowKit
def tailS (n : Int) : List Int := [0, 0, n / 256, n % 256, 0, 0, 0, 58]
def pseudoL (src dst : IPV) (n : Int) : List Int := src.bytes ++ dst.bytes ++ tailS n
theorem pseudoL_len (src dst : IPV) (n : Int) : (pseudoL src dst n).length = 40 := rfl
theorem pseudoL_bts {src dst : IPV} {n : Int} (hs : Bts src.bytes) (hd : Bts dst.bytes) (h0 : 0 ≤ n) (h1 : n ≤ 65535) : Bts (pseudoL src dst n) := by
 refine (hs.append hd).append fun x hx => ?_
 simp only [tailS, List.mem_cons, List.not_mem_nil, or_false] at hx
 omega
def overS (v : Int) (src dst : IPV) (bs : List Int) : List Int := if v = 4 then bs else pseudoL src dst bs.length ++ bs
theorem bytes_at {w : World} {g : Nat} {t : TypeId} {p : IPV} (h : Blk w g t p.cells) : Cells w (some ⟨g, 1, none⟩) (p.bytes.map (.int .u8)) := Cells.of_blk h 1
end Go.Eng
namespace Go.Proofs.YtjngdcilnipjcaaGreatDoor
open Go.Eng Go.RowKit
section
variable {w : World}
theorem version6_spec {p : IPV} (h : p.v = 6) : Calls Tryz.prog 101 #[p.val] w fun e w' => Ext w w' ∧ e = .returned (.int .i64 6) := by
 refine sum_version_of p.v p.a0 p.a1 p.a2 p.a3 p.a4 p.a5 p.a6 p.a7 p.a8 p.a9 p.a10 p.a11 p.a12 p.a13 p.a14 p.a15 w _ ?_
 unfold sum_version_VC
 refine NewVC.blk fun g1 w1 hg1 hz1 hE1 hb1 => ?_
 exact ⟨_, hb1.cell 0, Br.yes h ⟨hE1, rfl⟩⟩
theorem refVersion6_spec {p : IPV} (h : p.v = 6) : Calls Tryz.prog 89 #[p.val] w fun e w' => Ext w w' ∧ e = .returned (.int .i64 6) := by
 refine weirref2_version_of p.v p.a0 p.a1 p.a2 p.a3 p.a4 p.a5 p.a6 p.a7 p.a8 p.a9 p.a10 p.a11 p.a12 p.a13 p.a14 p.a15 w _ ?_
 unfold weirref2_version_VC
 refine NewVC.blk fun g1 w1 hg1 hz1 hE1 hb1 => ?_
 exact ⟨_, hb1.cell 0, Br.yes h ⟨hE1, rfl⟩⟩
theorem fdiv_byte {n : Int} (h0 : 0 ≤ n) (h1 : n ≤ 65535) : IntKind.u8.wrap (Int.fdiv n 256) = n / 256 := by
 rw [Int.fdiv_eq_ediv_of_nonneg _ (by decide), wu8 (by omega) (by omega)]
theorem pseudo6_spec {src dst : IPV} {n : Int} (hs : src.v = 6) (hd : dst.v = 6) (h0 : 0 ≤ n) (h1 : n ≤ 65535) :
  Calls Tryz.prog 72 #[src.val, dst.val, .int .i64 58, .int .i64 n] w fun e w' => Ext w w' ∧ ∃ W wc, e = .returned (.tuple #[.slice W 40 wc, .int .i64 0]) ∧
   w'.ownsRow w.heap.size 5 1 (.slice W 40 wc) 40 ((pseudoL src dst n).map (.int .u8)) := by
 refine sum_Pseudo_of src.v src.a0 src.a1 src.a2 src.a3 src.a4 src.a5 src.a6 src.a7 src.a8 src.a9 src.a10 src.a11 src.a12 src.a13 src.a14 src.a15
  dst.v dst.a0 dst.a1 dst.a2 dst.a3 dst.a4 dst.a5 dst.a6 dst.a7 dst.a8 dst.a9 dst.a10 dst.a11 dst.a12 dst.a13 dst.a14 dst.a15 58 n w _ ?_
 unfold sum_Pseudo_VC
 refine NewVC.blk fun g1 w1 hg1 hz1 hE1 hb1 => NewVC.blk fun g2 w2 hg2 hz2 hE2 hb2 => ?_
 have hb1 := hb1.ext hE2
 refine ⟨_, _, _, _, _, _, _, _, _, _, _, _, _, _, _, _, _, CellsAt.blk hb1, ?_⟩
 refine (version6_spec (p := src) hs).mono ?_
 rintro _ w3 ⟨hE3, rfl⟩
 refine ⟨_, rfl, ?_⟩
 refine JoinVC.of (fun s w' => s = false ∧ Ext w3 w') ?_ ?_
 ·refine Br.no (by decide) ⟨_, _, _, _, _, _, _, _, _, _, _, _, _, _, _, _, _, CellsAt.blk (hb2.ext hE3), ?_⟩
  refine (version6_spec (p := dst) hd).mono ?_
  rintro _ w4 ⟨hE4, rfl⟩
  exact ⟨_, rfl, rfl, hE4⟩
 rintro s w5 ⟨rfl, hE5⟩
 unfold sum_Pseudo_J28
 have hE25 := hE3.ext hE5
 have hE05 := (hE1.ext hE2).ext hE25
 have c1 := bytes_at (p := src) (hb1.ext hE25)
 have c2 := bytes_at (p := dst) (hb2.ext hE25)
 refine Br.f rfl (Br.no (by decide) (Br.no (by decide) (Br.no (by omega) (Br.no (by omega) (Br.no (by decide) ?_)))))
 refine AppVC.at Tryz.underlying25 tyByte rfl (World.ownsRow_nil _ _ _ _) c1 (by rfl) (ints_one _ _) (by omega) (by decide) (Nat.le_refl _) fun W wc w6 hown6 hm6 _ _ => ?_
 have hE6 : Ext w5 w6 := hm6.mono fun k _ e => by simp [Value.ownBlock] at e
 rw [List.nil_append] at hown6
 refine AppVC.at Tryz.underlying25 tyByte rfl hown6 (c2.ext hE6) (by rfl) (ints_one _ _) (by omega) (by decide) hE6.size fun W2 wc2 w7 hown7 hm7 _ _ => ?_
 have hE7 := Ext.own hE6 hown6 hm7
 refine NewVC.blk fun g3 w8 hg3 hz8 hE8 hb8 => ?_
 have hc8 : Cells w8 (some ⟨g3, 0, none⟩) ((tailS n).map (.int .u8)) := by
  have := Cells.of_blk hb8 0
  rw [fdiv_byte h0 h1, u8_eq] at this
  exact this
 refine AppVC.at Tryz.underlying25 tyByte rfl (own_ext hown7 hE8) hc8 (by rfl) (ints_one _ _) (by omega) (by decide) (hE7.ext hE8).size fun W3 wc3 w9 hown9 hm9 _ _ => ?_
 have hE9 := Ext.own (hE7.ext hE8) (own_ext hown7 hE8) hm9
 refine ⟨hE05.ext hE9, W3, wc3, rfl, ?_⟩
 rw [← List.map_append, ← List.map_append] at hown9
 exact own_base hown9 hE05.size
theorem refPseudo6_spec {src dst : IPV} {n : Int} (hs : src.v = 6) (hd : dst.v = 6) (h0 : 0 ≤ n) (h1 : n ≤ 65535) :
  Calls Tryz.prog 61 #[src.val, dst.val, .int .i64 58, .int .i64 n] w fun e w' => Ext w w' ∧ ∃ W wc, e = .returned (.tuple #[.slice W 40 wc, .int .i64 0]) ∧
   w'.ownsRow w.heap.size 5 1 (.slice W 40 wc) 40 ((pseudoL src dst n).map (.int .u8)) := by
 refine weirref2_Pseudo_of src.v src.a0 src.a1 src.a2 src.a3 src.a4 src.a5 src.a6 src.a7 src.a8 src.a9 src.a10 src.a11 src.a12 src.a13 src.a14 src.a15
  dst.v dst.a0 dst.a1 dst.a2 dst.a3 dst.a4 dst.a5 dst.a6 dst.a7 dst.a8 dst.a9 dst.a10 dst.a11 dst.a12 dst.a13 dst.a14 dst.a15 58 n w _ ?_
 unfold weirref2_Pseudo_VC
 refine NewVC.blk fun g1 w1 hg1 hz1 hE1 hb1 => NewVC.blk fun g2 w2 hg2 hz2 hE2 hb2 => ?_
 have hb1 := hb1.ext hE2
 refine ⟨_, _, _, _, _, _, _, _, _, _, _, _, _, _, _, _, _, CellsAt.blk hb1, ?_⟩
 refine (refVersion6_spec (p := src) hs).mono ?_
 rintro _ w3 ⟨hE3, rfl⟩
 refine ⟨_, rfl, Br.no (by decide) ⟨_, _, _, _, _, _, _, _, _, _, _, _, _, _, _, _, _, CellsAt.blk (hb2.ext hE3), ?_⟩⟩
 refine (refVersion6_spec (p := dst) hd).mono ?_
 rintro _ w4 ⟨hE4, rfl⟩
 refine ⟨_, rfl, Br.no (by decide) (Br.no (by decide) (Br.no (by decide) (Br.no (by omega) (Br.no (by omega) (Br.no (by decide) ?_)))))⟩
 have hE24 := hE3.ext hE4
 have hE04 := (hE1.ext hE2).ext hE24
 have c1 := bytes_at (p := src) (hb1.ext hE24)
 have c2 := bytes_at (p := dst) (hb2.ext hE24)
 refine LoopVC.of (fun s w' => ∃ (i : Nat) (W : Option Addr) (wc : Nat), s = ((W, i, wc), (i : Int)) ∧ i ≤ 16 ∧ Ext w4 w' ∧ w'.ownsRow w4.heap.size 5 1 (.slice W i wc) i ((src.bytes.take i).map (.int .u8))) (fun s _ => (16 - s.2).toNat)
  ⟨0, none, 0, rfl, by omega, Mod.refl _ _, World.ownsRow_nil _ _ _ _⟩ ?_
 rintro _ w5 ⟨i, W, wc, rfl, hi, hE5, hown5⟩
 show weirref2_Pseudo_L1018 _ 58 n g1 g2 W i wc (i : Int) w5 _
 unfold weirref2_Pseudo_L1018
 refine Br.dec (fun hlt => ?_) (fun hge => ?_)
 ·refine IdxVC.int (c1.ext hE5) (by omega) (by omega) rfl fun a ha => ⟨_, ha, ?_⟩
  rw [Int.toNat_natCast]
  refine AppVC.one Tryz.underlying25 tyByte rfl hown5 rfl (by omega) (by decide) hE5.size fun W2 wc2 w6 hown6 hm6 _ => ?_
  rw [w64 (n := (i : Int) + 1) (by omega) (by omega)]
  refine ⟨⟨i + 1, W2, wc2, by simp, by omega, Ext.own hE5 hown5 hm6, ?_⟩, by simp only; omega⟩
  rw [take_snocD _ _ (show i < src.bytes.length by show i < 16; omega), List.map_append]; exact hown6
 have hi16 : i = 16 := by omega
 subst hi16
 refine LoopVC.of (fun s w' => ∃ (j : Nat) (W : Option Addr) (wc : Nat), s = ((W, 16 + j, wc), (j : Int)) ∧ j ≤ 16 ∧ Ext w4 w' ∧ w'.ownsRow w4.heap.size 5 1 (.slice W (16 + j) wc) (16 + j) ((src.bytes ++ dst.bytes.take j).map (.int .u8))) (fun s _ => (16 - s.2).toNat)
  ⟨0, W, wc, rfl, by omega, hE5, by rw [List.take_of_length_le (show src.bytes.length ≤ 16 from Nat.le_refl _)] at hown5; simpa using hown5⟩ ?_
 rintro _ w6 ⟨j, W2, wc2, rfl, hj, hE6, hown6⟩
 show weirref2_Pseudo_L2042 _ 58 n g2 W2 (16 + j) wc2 (j : Int) w6 _
 unfold weirref2_Pseudo_L2042
 refine Br.dec (fun hlt => ?_) (fun hge => ?_)
 ·refine IdxVC.int (c2.ext hE6) (by omega) (by omega) rfl fun a ha => ⟨_, ha, ?_⟩
  rw [Int.toNat_natCast]
  refine AppVC.one Tryz.underlying25 tyByte rfl hown6 rfl (by omega) (by decide) hE6.size fun W3 wc3 w7 hown7 hm7 _ => ?_
  rw [w64 (n := (j : Int) + 1) (by omega) (by omega)]
  refine ⟨⟨j + 1, W3, wc3, by simp; omega, by omega, Ext.own hE6 hown6 hm7, ?_⟩, by simp only; omega⟩
  rw [take_snocD _ _ (show j < dst.bytes.length by show j < 16; omega), ← List.append_assoc, List.map_append]; exact hown7
 have hj16 : j = 16 := by omega
 subst hj16
 refine NewVC.blk fun g3 w8 hg3 hz8 hE8 hb8 => ?_
 have hc8 : Cells w8 (some ⟨g3, 0, none⟩) ((tailS n).map (.int .u8)) := by
  have := Cells.of_blk hb8 0
  rw [Int.tdiv_eq_ediv_of_nonneg h0, Int.tmod_eq_emod_of_nonneg h0, w64 (n := n / 256) (by omega) (by omega), wu8 (n := n / 256) (by omega) (by omega), wu8 (n := n % 256) (by omega) (by omega)] at this
  exact this
 refine AppVC.at Tryz.underlying25 tyByte rfl (own_ext hown6 hE8) hc8 (by rfl) (ints_one _ _) (by omega) (by decide) (hE6.ext hE8).size fun W3 wc3 w9 hown9 hm9 _ _ => ?_
 have hE9 := Ext.own (hE6.ext hE8) (own_ext hown6 hE8) hm9
 refine ⟨hE04.ext hE9, W3, wc3, rfl, ?_⟩
 rw [← List.map_append] at hown9
 exact own_base hown9 hE04.size
theorem pseudo_spec {v : Int} {src dst : IPV} {n : Int} (h0 : 0 ≤ n) (h1 : n ≤ 65535) :
    Calls Tryz.prog 40 #[.int .i64 v, src.val, dst.val, .int .i64 n] w fun e w' => Ext w w' ∧
      ((v = 4 ∧ e = .returned (.tuple #[.slice none 0 0, .int .i64 0])) ∨ (v ≠ 4 ∧ ¬ (src.v = 6 ∧ dst.v = 6) ∧ e = .returned (.tuple #[.slice none 0 0, .int .i64 20])) ∨
       (v ≠ 4 ∧ (src.v = 6 ∧ dst.v = 6) ∧ ∃ W wc, e = .returned (.tuple #[.slice W 40 wc, .int .i64 0]) ∧ w'.ownsRow w.heap.size 5 1 (.slice W 40 wc) 40 ((pseudoL src dst n).map (.int .u8)))) := by
  refine icmp_pseudo_of v src.v src.a0 src.a1 src.a2 src.a3 src.a4 src.a5 src.a6 src.a7 src.a8 src.a9 src.a10 src.a11 src.a12 src.a13 src.a14 src.a15
    dst.v dst.a0 dst.a1 dst.a2 dst.a3 dst.a4 dst.a5 dst.a6 dst.a7 dst.a8 dst.a9 dst.a10 dst.a11 dst.a12 dst.a13 dst.a14 dst.a15 n w _ ?_
  unfold icmp_pseudo_VC
  refine NewVC.blk fun g1 w1 hg1 hz1 hE1 hb1 => NewVC.blk fun g2 w2 hg2 hz2 hE2 hb2 => ?_
  have hb1 := hb1.ext hE2
  have hE := hE1.ext hE2
  refine Br.dec (fun h4 => ⟨hE, .inl ⟨h4, rfl⟩⟩) (fun h4 => ?_)
  refine ⟨_, hb1.cell 0, Br.dec (fun hs => ⟨hE, .inr (.inl ⟨h4, fun e => hs e.1, rfl⟩)⟩) (fun hs => ?_)⟩
  refine ⟨_, hb2.cell 0, Br.dec (fun hd => ⟨hE, .inr (.inl ⟨h4, fun e => hd e.2, rfl⟩)⟩) (fun hd => ?_)⟩
  refine ⟨_, _, _, _, _, _, _, _, _, _, _, _, _, _, _, _, _, CellsAt.blk hb1, _, _, _, _, _, _, _, _, _, _, _, _, _, _, _, _, _, CellsAt.blk hb2, ?_⟩
  refine (pseudo6_spec (src := src) (dst := dst) (Decidable.not_not.1 hs) (Decidable.not_not.1 hd) h0 h1).mono ?_
  rintro _ w3 ⟨hE3, W, wc, rfl, hown⟩
  exact ⟨_, _, _, _, rfl, hE.ext hE3, .inr (.inr ⟨h4, ⟨Decidable.not_not.1 hs, Decidable.not_not.1 hd⟩, W, wc, rfl, own_base hown hE.size⟩)⟩
theorem six_spec {src dst : IPV} : Calls Tryz.prog 28 #[src.val, dst.val] w fun e w' => Ext w w' ∧ e = .returned (.bool (decide (src.v = 6 ∧ dst.v = 6))) := by
 refine weirref8_six_of src.v src.a0 src.a1 src.a2 src.a3 src.a4 src.a5 src.a6 src.a7 src.a8 src.a9 src.a10 src.a11 src.a12 src.a13 src.a14 src.a15
  dst.v dst.a0 dst.a1 dst.a2 dst.a3 dst.a4 dst.a5 dst.a6 dst.a7 dst.a8 dst.a9 dst.a10 dst.a11 dst.a12 dst.a13 dst.a14 dst.a15 w _ ?_
 unfold weirref8_six_VC
 refine NewVC.blk fun g1 w1 hg1 hz1 hE1 hb1 => NewVC.blk fun g2 w2 hg2 hz2 hE2 hb2 => ?_
 refine ⟨_, (hb1.ext hE2).cell 0, Br.dec (fun h => ⟨_, hb2.cell 0, hE1.ext hE2, ?_⟩) (fun h => ⟨hE1.ext hE2, ?_⟩)⟩
 ·simp [h]
 ·simp [h]
theorem parts_spec {v : Int} {src dst : IPV} {A : Option Addr} {n c : Nat} {bs : List Int} (hb : Cells w A (bs.map (.int .u8))) (hl : bs.length = n) (hB : Bts bs) (hn : n ≤ 65535) (h6 : v ≠ 4 → src.v = 6 ∧ dst.v = 6) (hs : Bts src.bytes) (hd : Bts dst.bytes) :
  Calls Tryz.prog 30 #[.int .i64 v, src.val, dst.val, .slice A n c] w fun e w' => Ext w w' ∧ ∃ g m ps, e = .returned (.slice (some ⟨g, 0, none⟩) m m) ∧ PartsAt w' (some ⟨g, 0, none⟩) ps ∧ ps.length = m ∧ m ≤ 2 ∧ groundS ps = overS v src dst bs := by
 refine weirref8_parts_of v src.v src.a0 src.a1 src.a2 src.a3 src.a4 src.a5 src.a6 src.a7 src.a8 src.a9 src.a10 src.a11 src.a12 src.a13 src.a14 src.a15
  dst.v dst.a0 dst.a1 dst.a2 dst.a3 dst.a4 dst.a5 dst.a6 dst.a7 dst.a8 dst.a9 dst.a10 dst.a11 dst.a12 dst.a13 dst.a14 dst.a15 A n c w _ ?_
 unfold weirref8_parts_VC
 refine NewVC.blk fun g1 w1 hg1 hz1 hE1 hb1 => NewVC.blk fun g2 w2 hg2 hz2 hE2 hb2 => ?_
 have hb1 := hb1.ext hE2
 have hE := hE1.ext hE2
 refine Br.dec (fun h4 => ?_) (fun h4 => ?_)
 ·refine NewVC.blk fun g3 w3 hg3 hz3 hE3 hb3 => ?_
  refine ⟨hE.ext hE3, g3, 1, [⟨A, n, c, bs⟩], rfl, ⟨by simpa [PartV.val] using Cells.of_blk hb3 0, fun p hp => ?_⟩, rfl, by decide, by simp [groundS, overS, h4]⟩
  simp only [List.mem_cons, List.not_mem_nil, or_false] at hp
  subst hp
  exact ⟨hb.ext (hE.ext hE3), hl, hB, by show n ≤ 70000; omega⟩
 ·refine ⟨_, _, _, _, _, _, _, _, _, _, _, _, _, _, _, _, _, CellsAt.blk hb1, _, _, _, _, _, _, _, _, _, _, _, _, _, _, _, _, _, CellsAt.blk hb2, ?_⟩
  obtain ⟨h6s, h6d⟩ := h6 h4
  refine (refPseudo6_spec (src := src) (dst := dst) (n := (n : Int)) h6s h6d (by omega) (by omega)).mono ?_
  rintro _ w3 ⟨hE3, W, wc, rfl, hown⟩
  refine ⟨_, _, _, _, rfl, ?_⟩
  refine NewVC.blk fun g4 w5 hg4 hz5 hE5 hb5 => ?_
  have hE5' := (hE.ext hE3).ext hE5
  refine ⟨hE5', g4, 2, [⟨W, 40, wc, pseudoL src dst n⟩, ⟨A, n, c, bs⟩], rfl, ⟨by simpa [PartV.val] using Cells.of_blk hb5 0, fun p hp => ?_⟩, rfl, by decide, ?_⟩
  ·simp only [List.mem_cons, List.not_mem_nil, or_false] at hp
   rcases hp with rfl | rfl
   ·exact ⟨own_cells (own_ext hown hE5), pseudoL_len _ _ _, pseudoL_bts hs hd (by omega) (by omega), by show 40 ≤ 70000; decide⟩
   ·exact ⟨hb.ext hE5', hl, hB, by show n ≤ 70000; omega⟩
  ·simp only [groundS, overS, if_neg h4, List.map_cons, List.map_nil, List.flatten_cons, List.flatten_nil, List.append_nil, hl]
end
end Go.Proofs.YtjngdcilnipjcaaGreatDoor
/- What a message is written as: both programs' Serialise. -/
namespace Go.Eng
open Go Go.RowKit
def serS (m : MsgV) (src dst : IPV) (data : List Int) : List Int × Int :=
 if checkS m ≠ 0 then ([], checkS m) else if m.v ≠ 4 ∧ ¬ (src.v = 6 ∧ dst.v = 6) then ([], 20)
 else (headS m.t m.c (65535 - sumS (overS m.v src dst (headS m.t m.c 0 m.r ++ data))) m.r ++ data, 0)
theorem checkS_ok {m : MsgV} (h : checkS m = 0) : (m.v = 4 ∨ m.v = 6) ∧ (0 ≤ m.t ∧ m.t ≤ 255) ∧ (0 ≤ m.c ∧ m.c ≤ 255) ∧ (0 ≤ m.r ∧ m.r ≤ 4294967295) ∧ m.n ≤ 65507 := by
 unfold checkS at h
 split at h
 ·omega
 ·split at h
  ·omega
  ·split at h <;> omega
theorem sumS_bound {l : List Int} (h : Bts l) : 0 ≤ sumS l ∧ sumS l ≤ 65535 := foldS_bound (rawS_bound h true).1
theorem headS_len (t c s r : Int) : (headS t c s r).length = 8 := rfl
end Go.Eng
namespace Go.Proofs.YtjngdcilnipjcaaGreatDoor
open Go.Eng Go.RowKit
section
variable {w0 w : World} {m : MsgV} {src dst : IPV} {data : List Int} {R : Ending → World → Prop}
theorem overS_bts {v : Int} {bs : List Int} (hs : Bts src.bytes) (hd : Bts dst.bytes) (hb : Bts bs) (hl : bs.length ≤ 65535) : Bts (overS v src dst bs) := by
 unfold overS
 split
 ·exact hb
 ·exact (pseudoL_bts hs hd (by omega) (by omega)).append hb
set_option maxHeartbeats 1000000 in
theorem ser_tail {g3 x0n x0c : Nat} {PA BA : Option Addr} {L0 : List Int} (hE : Ext w0 w) (hb : Blk w g3 27 m.cells) (hok : checkS m = 0) (_ : w0.heap.size ≤ g3)
  (hp : Cells w PA (L0.map (.int .u8))) (hpl : L0.length = x0n) (hpB : Bts L0) (hpn : x0n ≤ 70000) (hown : w.ownsRow w0.heap.size 5 1 (.slice BA 8 8) 8 ((headS m.t m.c 0 m.r).map (.int .u8)))
  (hne : ∀ k, (Value.slice BA 8 8).ownBlock = some k → k ≠ g3) (hd : Cells w0 m.A (data.map (.int .u8))) (hl : data.length = m.n) (hB : Bts data) (hov : L0 ++ (headS m.t m.c 0 m.r ++ data) = overS m.v src dst (headS m.t m.c 0 m.r ++ data))
  (hR : ∀ w' W wc, Ext w0 w' → w'.ownsRow w0.heap.size 5 1 (.slice W (8 + m.n) wc) (8 + m.n) ((headS m.t m.c (65535 - sumS (overS m.v src dst (headS m.t m.c 0 m.r ++ data))) m.r ++ data).map (.int .u8)) → R (.returned (.tuple #[.slice W (8 + m.n) wc, .int .i64 0])) w') :
  icmp_Serialise_D62 R 0 w g3 PA x0n x0c BA 8 8 := by
 obtain ⟨hv, ht, hc, hr, hn⟩ := checkS_ok hok
 have hhB : Bts (headS m.t m.c 0 m.r) := headS_bts ht hc ⟨by decide, by decide⟩ hr
 unfold icmp_Serialise_D62
 refine Br.no (by decide) ⟨_, _, _, hb.cell 4, ?_⟩
 refine NewVC.blk fun g5 w10 hg5 hz10 hE10 hb10 => ?_
 let ps : List PartV := [⟨PA, x0n, x0c, L0⟩, ⟨BA, 8, 8, headS m.t m.c 0 m.r⟩, ⟨m.A, m.n, m.k, data⟩]
 have hps : PartsAt w10 (some ⟨g5, 0, none⟩) ps := by
  refine ⟨by simpa [ps, PartV.val] using Cells.of_blk hb10 0, fun p hp' => ?_⟩
  simp only [ps, List.mem_cons, List.not_mem_nil, or_false] at hp'
  rcases hp' with rfl | rfl | rfl
  ·exact ⟨hp.ext hE10, hpl, hpB, hpn⟩
  ·exact ⟨own_cells (own_ext hown hE10), rfl, hhB, by show 8 ≤ 70000; decide⟩
  ·exact ⟨(hd.ext hE).ext hE10, hl, hB, by show m.n ≤ 70000; omega⟩
 have hgr : groundS ps = overS m.v src dst (headS m.t m.c 0 m.r ++ data) := by rw [← hov]; simp [groundS, ps]
 have hsb := sumS_bound (groundS_bts fun p hp' => (hps.each p hp').2.2.1)
 refine (sumCheck_spec (m := 3) hps rfl (by decide)).mono ?_
 rintro _ w11 ⟨rfl, rfl⟩
 rw [hgr] at hsb ⊢
 generalize sumS (overS m.v src dst (headS m.t m.c 0 m.r ++ data)) = s at hsb hR ⊢
 have hx := (own_ext hown hE10)
 refine ⟨_, rfl, IdxVC.own hx (by decide) (by decide) (by decide) fun a _ hset => hset _ _ rfl fun w12 hz12 hm12 hown12 => ?_⟩
 refine IdxVC.own hown12 (by decide) (by decide) (by decide) fun a _ hset => hset _ _ rfl fun w13 hz13 hm13 hown13 => ?_
 have hnk : ∀ k, some k = (Value.slice BA 8 8).ownBlock → ¬ k = g3 := fun k hk => hne k hk.symm
 have hb13 := ((hb.ext hE10).mod hm12 fun e => hnk _ e rfl).mod hm13 fun e => hnk _ e rfl
 have hE12 := Ext.own (hE.ext hE10) hx hm12
 have hE13 := Ext.own hE12 hown12 hm13
 refine ⟨_, _, _, hb13.cell 4, ?_⟩
 have e1 : IntKind.u8.wrap (Int.fdiv (65535 - s) 256) = (65535 - s) / 256 := by rw [Int.fdiv_eq_ediv_of_nonneg _ (by decide), wu8 (by omega) (by omega)]
 have e2 : IntKind.u8.wrap (65535 - s) = (65535 - s) % 256 := u8_eq _
 rw [e1, e2] at hown13
 have hown13 : w13.ownsRow w0.heap.size 5 1 (.slice BA 8 8) 8 ((headS m.t m.c (65535 - s) m.r).map (.int .u8)) := hown13
 refine AppVC.at Tryz.underlying25 tyByte rfl hown13 (hd.ext hE13) (by simpa using hl) (ints_one _ _) (by omega) (by decide) hE13.size fun W wc w14 hown14 hm14 _ _ => ?_
 rw [← List.map_append] at hown14
 exact hR w14 W wc (Ext.own hE13 hown13 hm14) hown14
set_option maxHeartbeats 1000000 in
theorem serialise_spec (hd : Cells w m.A (data.map (.int .u8))) (hl : data.length = m.n) (hB : Bts data) (hn : m.n ≤ 140737488355328) (hs : Bts src.bytes) (ht : Bts dst.bytes) :
  Calls Tryz.prog 13 #[src.val, dst.val, m.val] w fun e w' => Ext w w' ∧ ∃ W wc, e = .returned (.tuple #[.slice W (serS m src dst data).1.length wc, .int .i64 (serS m src dst data).2]) ∧
   w'.ownsRow w.heap.size 5 1 (.slice W (serS m src dst data).1.length wc) (serS m src dst data).1.length ((serS m src dst data).1.map (.int .u8)) := by
 refine icmp_Serialise_of src.v src.a0 src.a1 src.a2 src.a3 src.a4 src.a5 src.a6 src.a7 src.a8 src.a9 src.a10 src.a11 src.a12 src.a13 src.a14 src.a15
  dst.v dst.a0 dst.a1 dst.a2 dst.a3 dst.a4 dst.a5 dst.a6 dst.a7 dst.a8 dst.a9 dst.a10 dst.a11 dst.a12 dst.a13 dst.a14 dst.a15 m.v m.t m.c m.r m.A m.n m.k w _ ?_
 unfold icmp_Serialise_VC
 refine NewVC.blk fun g1 w1 hg1 hz1 hE1 hb1 => NewVC.blk fun g2 w2 hg2 hz2 hE2 hb2 => NewVC.blk fun g3 w3 hg3 hz3 hE3 hb3 => ?_
 have hE03 := (hE1.ext hE2).ext hE3
 have hb1 := (hb1.ext hE2).ext hE3
 have hb2 := hb2.ext hE3
 refine ⟨_, _, _, _, _, _, _, CellsAt.blk hb3, ?_⟩
 refine (check_spec m hn).mono ?_
 rintro _ w4 ⟨hE4, rfl⟩
 refine ⟨_, rfl, Br.dec (fun hne => ?_) (fun he => ?_)⟩
 ·have e : serS m src dst data = ([], checkS m) := by unfold serS; rw [if_pos hne]
  rw [e]
  exact ⟨hE03.ext hE4, none, 0, rfl, World.ownsRow_nil _ _ _ _⟩
 have hok : checkS m = 0 := Decidable.not_not.1 he
 obtain ⟨hv, hmt, hmc, hmr, hmn⟩ := checkS_ok hok
 have hE04 := hE03.ext hE4
 refine ⟨_, (hb3.ext hE4).cell 0, _, _, _, _, _, _, _, _, _, _, _, _, _, _, _, _, _, CellsAt.blk (hb1.ext hE4), _, _, _, _, _, _, _, _, _, _, _, _, _, _, _, _, _, CellsAt.blk (hb2.ext hE4), _, _, _, (hb3.ext hE4).cell 4, ?_⟩
 rw [w64 (n := 8 + (m.n : Int)) (by omega) (by omega)]
 have key : ∀ {w5 : World} {PA : Option Addr} {x0n x0c : Nat} {L0 : List Int}, Ext w4 w5 → Cells w5 PA (L0.map (.int .u8)) → L0.length = x0n → Bts L0 → x0n ≤ 70000 → L0 ++ (headS m.t m.c 0 m.r ++ data) = overS m.v src dst (headS m.t m.c 0 m.r ++ data) → ¬ (m.v ≠ 4 ∧ ¬ (src.v = 6 ∧ dst.v = 6)) →
   ∀ {w9 : World} {BA : Option Addr} {ds : List Int}, Ext w5 w9 → Packed hws [m.t, m.c, 0, m.r] ds → w9.ownsRow w5.heap.size 5 1 (.slice BA ds.length ds.length) ds.length (ds.map (.int .u8)) →
   icmp_Serialise_D62 (fun e w' => Ext w w' ∧ ∃ W wc, e = .returned (.tuple #[.slice W (serS m src dst data).1.length wc, .int .i64 (serS m src dst data).2]) ∧
    w'.ownsRow w.heap.size 5 1 (.slice W (serS m src dst data).1.length wc) (serS m src dst data).1.length ((serS m src dst data).1.map (.int .u8))) 0 w9 g3 PA x0n x0c BA ds.length ds.length := by
  intro w5 PA x0n x0c L0 hE5 hp hpl hpB hpn hov hfam w9 BA ds hE9 hpk hown
  obtain rfl := packed_head hpk
  have hE59 := hE5.ext hE9
  have e : serS m src dst data = (headS m.t m.c (65535 - sumS (overS m.v src dst (headS m.t m.c 0 m.r ++ data))) m.r ++ data, 0) := by unfold serS; rw [if_neg he, if_neg hfam]
  have s4 := hE04.size
  have s5 := hE5.size
  refine ser_tail (hE04.ext hE59) ((hb3.ext hE4).ext hE59) hok (by omega) (hp.ext hE9) hpl hpB hpn (own_base hown (by omega)) (fun k hk => by have := own_new hown k hk; have := hb3.lt; have := hE4.size; omega) hd hl hB hov fun w' W wc hE' hown' => ?_
  rw [e]
  have el : (headS m.t m.c (65535 - sumS (overS m.v src dst (headS m.t m.c 0 m.r ++ data))) m.r ++ data).length = 8 + m.n := by rw [List.length_append, headS_len, hl]
  simp only [el]
  exact ⟨hE', W, wc, rfl, hown'⟩
 have pack : ∀ {w5 : World} {PA : Option Addr} {x0n x0c : Nat} {L0 : List Int}, Ext w4 w5 → Cells w5 PA (L0.map (.int .u8)) → L0.length = x0n → Bts L0 → x0n ≤ 70000 → L0 ++ (headS m.t m.c 0 m.r ++ data) = overS m.v src dst (headS m.t m.c 0 m.r ++ data) → ¬ (m.v ≠ 4 ∧ ¬ (src.v = 6 ∧ dst.v = 6)) →
   ∀ {w8 : World} {g4 gw : Nat}, Ext w5 w8 → Blk w8 g4 3 (([m.t, m.c, 0, m.r] : List Int).map (.int .i64)) → Blk w8 gw 3 (hws.map (.int .i64)) →
   Calls Tryz.prog 41 #[.slice (some ⟨gw, 0, none⟩) 4 4, .slice (some ⟨g4, 0, none⟩) 4 4] w8 (onRet (fun r_3 w9 => ∃ (x0A1 : Option Addr) (x0n1 x0c1 : Nat), ∃ x110 : Int, r_3 = .tuple #[.slice x0A1 x0n1 x0c1, .int .i64 x110] ∧
    Ext w4 w9 ∧ icmp_Serialise_D62 (fun e w' => Ext w w' ∧ ∃ W wc, e = .returned (.tuple #[.slice W (serS m src dst data).1.length wc, .int .i64 (serS m src dst data).2]) ∧
    w'.ownsRow w.heap.size 5 1 (.slice W (serS m src dst data).1.length wc) (serS m src dst data).1.length ((serS m src dst data).1.map (.int .u8))) x110 w9 g3 PA x0n x0c x0A1 x0n1 x0c1) (fun _ _ => False)) := by
  intro w5 PA x0n x0c L0 hE5 hp hpl hpB hpn hov hfam w8 g4 gw hE8 hbv hbw
  refine (pack_ok (ws := hws) (vs := [m.t, m.c, 0, m.r]) (by simpa using Cells.of_blk hbw 0) rfl (by simpa using Cells.of_blk hbv 0) rfl hws_ok rfl).mono ?_
  rintro _ w9 ⟨hE9, ⟨-, BA, ds, hpk, rfl, hown⟩ | ⟨hno, rfl⟩⟩
  ·have hE59 := hE8.ext hE9
   exact ⟨_, _, _, _, rfl, hE5.ext hE59, key hE5 hp hpl hpB hpn hov hfam hE59 hpk (own_base hown hE8.size)⟩
  ·exact absurd (head_valuesOk hmt hmc hmr) hno
 refine (pseudo_spec (v := m.v) (src := src) (dst := dst) (n := 8 + (m.n : Int)) (by omega) (by omega)).mono ?_
 rintro _ w5 ⟨hE5, ⟨h4, rfl⟩ | ⟨h4, h6, rfl⟩ | ⟨h4, h6, W, wc, rfl, hown⟩⟩
 ·refine ⟨_, _, _, _, rfl, Br.no (by decide) ?_⟩
  have hb35 := (hb3.ext hE4).ext hE5
  have hov : ([] : List Int) ++ (headS m.t m.c 0 m.r ++ data) = overS m.v src dst (headS m.t m.c 0 m.r ++ data) := by unfold overS; rw [if_pos h4]; rfl
  refine DrawVC.of (fun w' => Ext w4 w') fun w6 hE6 _ => ⟨hE5.ext hE6, ?_⟩
  refine ⟨_, fun w' hE' => ((hb3.ext hE4).ext hE').cell 1, _, fun w' hE' => ((hb3.ext hE4).ext hE').cell 2, _, fun w' hE' => ((hb3.ext hE4).ext hE').cell 3, ?_, ?_⟩
  ·refine widths_spec.mono ?_
   rintro _ w7 ⟨hE7, gw, hgw, rfl, hbw⟩
   refine ⟨_, _, _, rfl, (hE5.ext hE6).ext hE7, ?_⟩
   refine NewVC.blk fun g4 w8 hg4 hz8 hE8 hb8 => ⟨((hE5.ext hE6).ext hE7).ext hE8, ?_⟩
   exact pack (hE5.ext hE6) (Cells.nil _ _) rfl (fun _ h => by cases h) (by decide) hov (fun e => e.1 h4) (hE7.ext hE8) hb8 (hbw.ext hE8)
  ·refine NewVC.blk fun g4 w7 hg4 hz7 hE7 hb7 => ⟨(hE5.ext hE6).ext hE7, ?_⟩
   refine widths_spec.mono ?_
   rintro _ w8 ⟨hE8, gw, hgw, rfl, hbw⟩
   refine ⟨_, _, _, rfl, ((hE5.ext hE6).ext hE7).ext hE8, ?_⟩
   exact pack (hE5.ext hE6) (Cells.nil _ _) rfl (fun _ h => by cases h) (by decide) hov (fun e => e.1 h4) (hE7.ext hE8) (hb7.ext hE8) hbw
 ·refine ⟨_, _, _, _, rfl, Br.yes (by decide) ?_⟩
  have e : serS m src dst data = ([], 20) := by unfold serS; rw [if_neg he, if_pos ⟨h4, h6⟩]
  rw [e]
  exact ⟨hE04.ext hE5, none, 0, rfl, World.ownsRow_nil _ _ _ _⟩
 ·refine ⟨_, _, _, _, rfl, Br.no (by decide) ?_⟩
  have hov : pseudoL src dst (8 + (m.n : Int)) ++ (headS m.t m.c 0 m.r ++ data) = overS m.v src dst (headS m.t m.c 0 m.r ++ data) := by
   unfold overS; rw [if_neg h4, List.length_append, headS_len, hl]; simp
  have hpB := pseudoL_bts (n := 8 + (m.n : Int)) hs ht (by omega) (by omega)
  refine DrawVC.of (fun w' => Ext w4 w') fun w6 hE6 _ => ⟨hE5.ext hE6, ?_⟩
  refine ⟨_, fun w' hE' => ((hb3.ext hE4).ext hE').cell 1, _, fun w' hE' => ((hb3.ext hE4).ext hE').cell 2, _, fun w' hE' => ((hb3.ext hE4).ext hE').cell 3, ?_, ?_⟩
  ·refine widths_spec.mono ?_
   rintro _ w7 ⟨hE7, gw, hgw, rfl, hbw⟩
   refine ⟨_, _, _, rfl, (hE5.ext hE6).ext hE7, ?_⟩
   refine NewVC.blk fun g4 w8 hg4 hz8 hE8 hb8 => ⟨((hE5.ext hE6).ext hE7).ext hE8, ?_⟩
   exact pack (hE5.ext hE6) (own_cells (own_ext hown hE6)) (pseudoL_len _ _ _) hpB (by decide) hov (fun e => e.2 h6) (hE7.ext hE8) hb8 (hbw.ext hE8)
  ·refine NewVC.blk fun g4 w7 hg4 hz7 hE7 hb7 => ⟨(hE5.ext hE6).ext hE7, ?_⟩
   refine widths_spec.mono ?_
   rintro _ w8 ⟨hE8, gw, hgw, rfl, hbw⟩
   refine ⟨_, _, _, rfl, ((hE5.ext hE6).ext hE7).ext hE8, ?_⟩
   exact pack (hE5.ext hE6) (own_cells (own_ext hown hE6)) (pseudoL_len _ _ _) hpB (by decide) hov (fun e => e.2 h6) (hE7.ext hE8) (hb7.ext hE8) hbw
set_option maxHeartbeats 1000000 in
theorem refSerialise_spec (hd : Cells w m.A (data.map (.int .u8))) (hl : data.length = m.n) (hB : Bts data) (hs : Bts src.bytes) (ht : Bts dst.bytes) :
  Calls Tryz.prog 9 #[src.val, dst.val, m.val] w fun e w' => Ext w w' ∧ ∃ W wc, e = .returned (.tuple #[.slice W (serS m src dst data).1.length wc, .int .i64 (serS m src dst data).2]) ∧
   w'.ownsRow w.heap.size 5 1 (.slice W (serS m src dst data).1.length wc) (serS m src dst data).1.length ((serS m src dst data).1.map (.int .u8)) := by
 refine weirref8_Serialise_of src.v src.a0 src.a1 src.a2 src.a3 src.a4 src.a5 src.a6 src.a7 src.a8 src.a9 src.a10 src.a11 src.a12 src.a13 src.a14 src.a15
  dst.v dst.a0 dst.a1 dst.a2 dst.a3 dst.a4 dst.a5 dst.a6 dst.a7 dst.a8 dst.a9 dst.a10 dst.a11 dst.a12 dst.a13 dst.a14 dst.a15 m.v m.t m.c m.r m.A m.n m.k w _ ?_
 unfold weirref8_Serialise_VC
 refine NewVC.blk fun g1 w1 hg1 hz1 hE1 hb1 => NewVC.blk fun g2 w2 hg2 hz2 hE2 hb2 => NewVC.blk fun g3 w3 hg3 hz3 hE3 hb3 => ?_
 have hE03 := (hE1.ext hE2).ext hE3
 have hb1 := (hb1.ext hE2).ext hE3
 have hb2 := hb2.ext hE3
 refine ⟨_, _, _, _, _, _, _, CellsAt.blk hb3, ?_⟩
 refine (refCheck8_spec m).mono ?_
 rintro _ w4 ⟨hE4, rfl⟩
 refine ⟨_, rfl, Br.dec (fun hne => ?_) (fun he => ?_)⟩
 ·have e : serS m src dst data = ([], checkS m) := by unfold serS; rw [if_pos hne]
  rw [e]
  exact ⟨hE03.ext hE4, none, 0, rfl, World.ownsRow_nil _ _ _ _⟩
 have hok : checkS m = 0 := Decidable.not_not.1 he
 obtain ⟨hv, hmt, hmc, hmr, hmn⟩ := checkS_ok hok
 have hE04 := hE03.ext hE4
 refine JoinVC.of (fun _ w' => Ext w4 w' ∧ (m.v ≠ 4 → src.v = 6 ∧ dst.v = 6)) ?_ ?_
 ·refine ⟨_, (hb3.ext hE4).cell 0, Br.dec (fun h6 => ?_) (fun h6 => ⟨Mod.refl _ _, fun h4 => by omega⟩)⟩
  refine ⟨_, _, _, _, _, _, _, _, _, _, _, _, _, _, _, _, _, CellsAt.blk (hb1.ext hE4), _, _, _, _, _, _, _, _, _, _, _, _, _, _, _, _, _, CellsAt.blk (hb2.ext hE4), ?_⟩
  refine (six_spec (src := src) (dst := dst)).mono ?_
  rintro _ w5 ⟨hE5, rfl⟩
  refine ⟨_, rfl, ?_⟩
  by_cases hsix : src.v = 6 ∧ dst.v = 6
  ·exact Br.f (by simp [hsix]) ⟨hE5, fun _ => hsix⟩
  ·refine Br.t (by simp [hsix]) ?_
   have e : serS m src dst data = ([], 20) := by unfold serS; rw [if_neg he, if_pos ⟨by omega, hsix⟩]
   rw [e]
   exact ⟨hE04.ext hE5, none, 0, rfl, World.ownsRow_nil _ _ _ _⟩
 rintro _ w6 ⟨hE6, hfam⟩
 unfold weirref8_Serialise_J15
 have hb36 := (hb3.ext hE4).ext hE6
 have hb16 := (hb1.ext hE4).ext hE6
 have hb26 := (hb2.ext hE4).ext hE6
 have hE06 := hE04.ext hE6
 refine ⟨_, hb36.cell 1, _, hb36.cell 2, _, hb36.cell 3, _, hb36.cell 3, _, hb36.cell 3, _, hb36.cell 3, ?_⟩
 refine NewVC.blk fun g4 w7 hg4 hz7 hE7 hb7 => ?_
 have hhB : Bts (headS m.t m.c 0 m.r) := headS_bts hmt hmc ⟨by decide, by decide⟩ hmr
 have hb7 : Blk w7 g4 5 ((headS m.t m.c 0 m.r).map (.int .u8)) := by
  have e0 : IntKind.u8.wrap m.t = m.t := wu8 (by omega) (by omega)
  have e1 : IntKind.u8.wrap m.c = m.c := wu8 (by omega) (by omega)
  have e2 : IntKind.u8.wrap (Int.fdiv m.r 16777216) = m.r / 16777216 := by rw [Int.fdiv_eq_ediv_of_nonneg _ (by decide), wu8 (by omega) (by omega)]
  have e3 : IntKind.u8.wrap (Int.fdiv m.r 65536) = m.r / 65536 % 256 := by rw [Int.fdiv_eq_ediv_of_nonneg _ (by decide), u8_eq]
  have e4 : IntKind.u8.wrap (Int.fdiv m.r 256) = m.r / 256 % 256 := by rw [Int.fdiv_eq_ediv_of_nonneg _ (by decide), u8_eq]
  have e5 : IntKind.u8.wrap m.r = m.r % 256 := u8_eq _
  have h7 := hb7
  rw [e0, e1, e2, e3, e4, e5] at h7
  exact h7
 have s6 := hE06.size
 have hown7 : w7.ownsRow w.heap.size 5 1 (.slice (some ⟨g4, 0, none⟩) 8 8) 8 ((headS m.t m.c 0 m.r).map (.int .u8)) := own_of_blk (n := 8) (c := 8) hb7 (by omega) rfl (Nat.le_refl _) (by decide)
 refine ⟨_, _, _, (hb36.ext hE7).cell 4, ?_⟩
 have hE07 := hE06.ext hE7
 refine AppVC.at Tryz.underlying25 tyByte rfl hown7 (hd.ext hE07) (by simpa using hl) (ints_one _ _) (by omega) (by decide) hE07.size fun W wc w8 hown8 hm8 _ hat8 => ?_
 rw [← List.map_append] at hown8
 have hE08 := Ext.own hE07 hown7 hm8
 have hnk : ∀ k, some k = (Value.slice (some ⟨g4, 0, none⟩) 8 8).ownBlock → k = g4 := fun k hk => by simp [Value.ownBlock] at hk; exact hk
 have hb38 := (hb36.ext hE7).mod hm8 fun e => by have := hnk _ e; have := hb36.lt; omega
 have hb18 := (hb16.ext hE7).mod hm8 fun e => by have := hnk _ e; have := hb16.lt; omega
 have hb28 := (hb26.ext hE7).mod hm8 fun e => by have := hnk _ e; have := hb26.lt; omega
 refine ⟨_, hb38.cell 0, _, _, _, _, _, _, _, _, _, _, _, _, _, _, _, _, _, CellsAt.blk hb18, _, _, _, _, _, _, _, _, _, _, _, _, _, _, _, _, _, CellsAt.blk hb28, ?_⟩
 have hlen : (headS m.t m.c 0 m.r ++ data).length = 8 + m.n := by rw [List.length_append, headS_len, hl]
 have hoB := overS_bts (v := m.v) hs ht (hhB.append hB) (by omega)
 refine (parts_spec (v := m.v) (src := src) (dst := dst) (own_cells hown8) hlen (hhB.append hB) (by omega) hfam hs ht).mono ?_
 rintro _ w9 ⟨hE9, gp, pm, ps, rfl, hps, hpl, hpm, hgr⟩
 refine ⟨_, _, _, rfl, ?_⟩
 refine (refCheck_spec hps hpl (by omega)).mono ?_
 rintro _ w10 ⟨rfl, rfl⟩
 have hsb := sumS_bound hoB
 rw [hgr]
 have e : serS m src dst data = (headS m.t m.c (65535 - sumS (overS m.v src dst (headS m.t m.c 0 m.r ++ data))) m.r ++ data, 0) := by unfold serS; rw [if_neg he, if_neg (fun e => e.2 (hfam e.1))]
 rw [e]
 generalize sumS (overS m.v src dst (headS m.t m.c 0 m.r ++ data)) = s at hsb ⊢
 have e1 : IntKind.u8.wrap (IntKind.i64.wrap (Int.tdiv (65535 - s) 256)) = (65535 - s) / 256 := by rw [Int.tdiv_eq_ediv_of_nonneg (by omega), w64 (by omega) (by omega), wu8 (by omega) (by omega)]
 have e2 : IntKind.u8.wrap (Int.tmod (65535 - s) 256) = (65535 - s) % 256 := by rw [Int.tmod_eq_emod_of_nonneg (by omega), wu8 (by omega) (by omega)]
 have hown9 := own_ext hown8 hE9
 refine ⟨_, rfl, ?_⟩
 rw [e1, e2]
 refine IdxVC.own hown9 (by decide) (by omega) (by omega) fun a _ hset => hset _ _ rfl fun w12 hz12 hm12 hown12 => ?_
 refine IdxVC.own hown12 (by decide) (by omega) (by omega) fun a _ hset => hset _ _ rfl fun w13 hz13 hm13 hown13 => ?_
 have hE12 := Ext.own (hE08.ext hE9) hown9 hm12
 have hE13 := Ext.own hE12 hown12 hm13
 have el : (headS m.t m.c (65535 - s) m.r ++ data).length = 8 + m.n := by rw [List.length_append, headS_len, hl]
 simp only [el]
 exact ⟨hE13, W, wc, rfl, hown13⟩
end
end Go.Proofs.YtjngdcilnipjcaaGreatDoor
/- What is read of a message: both programs' Parse; Part, Same; lists that are marked, and whether they stand. -/
namespace Go.Eng
open Go Go.RowKit
structure ParsedV where
 v : Int
 t : Int
 c : Int
 r : Int
 data : List Int
 err : Int
def noneP (err : Int) : ParsedV := ⟨0, 0, 0, 0, [], err⟩
def ParsedV.msg (q : ParsedV) (A : Option Addr) (k : Nat) : MsgV := ⟨q.v, q.t, q.c, q.r, A, q.data.length, k⟩
def restS (bs : List Int) : Int := ((bs.getD 4 0 * 256 + bs.getD 5 0) * 256 + bs.getD 6 0) * 256 + bs.getD 7 0
def parseS (v : Int) (src dst : IPV) (bs : List Int) : ParsedV :=
 if 65515 < bs.length then noneP 2 else if v ≠ 4 ∧ v ≠ 6 then noneP 1 else if v ≠ 4 ∧ ¬ (src.v = 6 ∧ dst.v = 6) then noneP 20
 else if bs.length < 8 then noneP 80 else if sumS (overS v src dst bs) ≠ 65535 then noneP 81 else ⟨v, bs.getD 0 0, bs.getD 1 0, restS bs, bs.drop 8, 0⟩
theorem parseS_ok {v : Int} {src dst : IPV} {bs : List Int} (h1 : ¬ 65515 < bs.length) (h2 : ¬ (v ≠ 4 ∧ v ≠ 6)) (h3 : ¬ (v ≠ 4 ∧ ¬ (src.v = 6 ∧ dst.v = 6))) (h4 : ¬ bs.length < 8) (h5 : sumS (overS v src dst bs) = 65535) :
  parseS v src dst bs = ⟨v, bs.getD 0 0, bs.getD 1 0, restS bs, bs.drop 8, 0⟩ := by unfold parseS; rw [if_neg h1, if_neg h2, if_neg h3, if_neg h4, if_neg (by simpa using h5)]
end Go.Eng
namespace Go.Proofs.YtjngdcilnipjcaaGreatDoor
open Go.Eng Go.RowKit
section
variable {w : World} {src dst : IPV} {R : Ending → World → Prop}
theorem part_spec {A : Option Addr} {n c : Nat} {bs : List Int} {lo : Nat} (hb : Cells w A (bs.map (.int .u8))) (hl : bs.length = n) (hlo : lo ≤ n) (hn : n ≤ 100000000) :
  Calls Tryz.prog 82 #[.slice A n c, .int .i64 (lo : Int), .int .i64 (n : Int)] w fun e w' => Ext w w' ∧ ∃ W wc, e = .returned (.slice W (n - lo) wc) ∧ w'.ownsRow w.heap.size 5 1 (.slice W (n - lo) wc) (n - lo) ((bs.drop lo).map (.int .u8)) := by
 refine weirref1_Part_of A n c lo n w _ ?_
 unfold weirref1_Part_VC
 refine LoopVC.of (fun s w' => ∃ (j : Nat) (W : Option Addr) (wc : Nat), s = ((W, j, wc), ((lo + j : Nat) : Int)) ∧ lo + j ≤ n ∧ Ext w w' ∧ w'.ownsRow w.heap.size 5 1 (.slice W j wc) j (((bs.drop lo).take j).map (.int .u8))) (fun s _ => ((n : Int) - s.2).toNat)
  ⟨0, none, 0, rfl, by omega, Mod.refl _ _, World.ownsRow_nil _ _ _ _⟩ ?_
 rintro _ w1 ⟨j, W, wc, rfl, hj, hE1, hown1⟩
 show weirref1_Part_L58 _ A n (n : Int) W j wc ((lo + j : Nat) : Int) w1 _
 unfold weirref1_Part_L58
 refine Br.dec (fun hlt => ?_) (fun hge => ?_)
 ·refine IdxVC.int (hb.ext hE1) (by omega) hlt hl fun a ha => ⟨_, ha, ?_⟩
  rw [Int.toNat_natCast]
  refine AppVC.one Tryz.underlying25 tyByte rfl hown1 rfl (by omega) (by decide) hE1.size fun W2 wc2 w2 hown2 hm2 _ => ?_
  rw [w64 (n := ((lo + j : Nat) : Int) + 1) (by omega) (by omega)]
  refine ⟨⟨j + 1, W2, wc2, by simp only [Prod.mk.injEq, true_and]; omega, by omega, Ext.own hE1 hown1 hm2, ?_⟩, by simp only; omega⟩
  have hd : j < (bs.drop lo).length := by rw [List.length_drop]; omega
  have hg : (bs.drop lo).getD j 0 = bs.getD (lo + j) 0 := by simp [List.getD_eq_getElem?_getD, List.getElem?_drop]
  rw [take_snocD _ _ hd, hg, List.map_append]; exact hown2
 ·have hjn : j = n - lo := by omega
  subst hjn
  rw [List.take_of_length_le (by rw [List.length_drop]; omega)] at hown1
  exact ⟨hE1, W, wc, rfl, hown1⟩
theorem same8_spec {a b : MsgV} {da db : List Int} (ha : Cells w a.A (da.map (.int .u8))) (hb : Cells w b.A (db.map (.int .u8))) (hla : da.length = a.n) (hlb : db.length = b.n) (hn : a.n ≤ 100000000) :
  Calls Tryz.prog 20 #[a.val, b.val] w fun e w' => Ext w w' ∧ e = .returned (.bool (decide (a.v = b.v ∧ a.t = b.t ∧ a.c = b.c ∧ a.r = b.r ∧ da = db))) := by
 refine weirref8_Same_of a.v a.t a.c a.r a.A a.n a.k b.v b.t b.c b.r b.A b.n b.k w _ ?_
 unfold weirref8_Same_VC
 refine NewVC.blk fun g1 w1 hg1 hz1 hE1 hb1 => NewVC.blk fun g2 w2 hg2 hz2 hE2 hb2 => ?_
 have hb1 := hb1.ext hE2
 have hE := hE1.ext hE2
 have no : ∀ {w' : World}, Ext w w' → ¬ (a.v = b.v ∧ a.t = b.t ∧ a.c = b.c ∧ a.r = b.r ∧ da = db) → Ext w w' ∧ Ending.returned (.bool false) = .returned (.bool (decide (a.v = b.v ∧ a.t = b.t ∧ a.c = b.c ∧ a.r = b.r ∧ da = db))) := fun hE' h => ⟨hE', by rw [decide_eq_false h]⟩
 refine ⟨_, hb1.cell 0, _, hb2.cell 0, Br.dec (fun h => no hE fun e => h e.1) (fun h0 => ?_)⟩
 refine ⟨_, hb1.cell 1, _, hb2.cell 1, Br.dec (fun h => no hE fun e => h e.2.1) (fun h1 => ?_)⟩
 refine ⟨_, hb1.cell 2, _, hb2.cell 2, Br.dec (fun h => no hE fun e => h e.2.2.1) (fun h2 => ?_)⟩
 refine ⟨_, hb1.cell 3, _, hb2.cell 3, Br.dec (fun h => no hE fun e => h e.2.2.2.1) (fun h3 => ?_)⟩
 refine ⟨_, _, _, hb1.cell 4, _, _, _, hb2.cell 4, Br.dec (fun h => no hE fun e => h (by rw [← hla, ← hlb, e.2.2.2.2])) (fun h4 => ?_)⟩
 refine LoopVC.of (fun s w' => Ext w2 w' ∧ ∃ i : Nat, s = (i : Int) ∧ i ≤ a.n ∧ da.take i = db.take i) (fun s _ => (a.n - s).toNat) ⟨Mod.refl _ _, 0, rfl, by omega, by simp⟩ ?_
 rintro _ w3 ⟨hE3, i, rfl, hi, ht⟩
 unfold weirref8_Same_L58
 refine ⟨_, _, _, (hb1.ext hE3).cell 4, Br.dec (fun hlt => ?_) (fun hge => ?_)⟩
 ·refine DrawVC.of (fun w' => Ext w2 w') fun w4 hE4 _ => ⟨hE3.ext hE4, ?_⟩
  have hE24 := hE3.ext hE4
  refine ⟨_, _, _, fun w' hE' => (hb1.ext hE').cell 4, ?_⟩
  refine IdxVC.draw (S := fun w' => Ext w2 w') hE24 (fun w' hE' => ha.ext (hE.ext hE')) (by omega) hlt hla fun a' ha' => ⟨_, ha', ?_⟩
  refine ⟨_, _, _, fun w' hE' => (hb2.ext hE').cell 4, ?_⟩
  refine IdxVC.draw (S := fun w' => Ext w2 w') hE24 (fun w' hE' => hb.ext (hE.ext hE')) (by omega) (by omega) hlb fun a1 ha1 => ⟨_, ha1, ?_⟩
  rw [Int.toNat_natCast]
  refine Br.dec (fun hne => no (hE.ext hE24) fun e => hne (by rw [e.2.2.2.2])) (fun heq => ?_)
  rw [w64 (n := (i : Int) + 1) (by omega) (by omega)]
  refine ⟨⟨hE24, i + 1, by omega, by omega, ?_⟩, by omega⟩
  rw [take_snocD da i (by omega), take_snocD db i (by omega), ht, Decidable.not_not.1 heq]
 ·have hin : i = a.n := by omega
  subst hin
  rw [List.take_of_length_le (by omega), List.take_of_length_le (by omega)] at ht
  exact ⟨hE.ext hE3, by rw [decide_eq_true ⟨Decidable.not_not.1 h0, Decidable.not_not.1 h1, Decidable.not_not.1 h2, Decidable.not_not.1 h3, ht⟩]⟩
set_option maxHeartbeats 1000000 in
theorem parse_spec {v : Int} {A : Option Addr} {n c : Nat} {bs : List Int} (hb : Cells w A (bs.map (.int .u8))) (hl : bs.length = n) (hB : Bts bs) (hc : n ≤ c) (hs : Bts src.bytes) (ht : Bts dst.bytes) :
  Calls Tryz.prog 24 #[.int .i64 v, src.val, dst.val, .slice A n c] w fun e w' => Ext w w' ∧ ∃ A', e = .returned (.tuple #[((parseS v src dst bs).msg A' (parseS v src dst bs).data.length).val, .int .i64 (parseS v src dst bs).err]) ∧
   Cells w' A' ((parseS v src dst bs).data.map (.int .u8)) ∧ (0 < (parseS v src dst bs).data.length → A' = A.map (·.add 8)) := by
 refine icmp_Parse_of v src.v src.a0 src.a1 src.a2 src.a3 src.a4 src.a5 src.a6 src.a7 src.a8 src.a9 src.a10 src.a11 src.a12 src.a13 src.a14 src.a15
  dst.v dst.a0 dst.a1 dst.a2 dst.a3 dst.a4 dst.a5 dst.a6 dst.a7 dst.a8 dst.a9 dst.a10 dst.a11 dst.a12 dst.a13 dst.a14 dst.a15 A n c w _ ?_
 unfold icmp_Parse_VC
 refine NewVC.blk fun g1 w1 hg1 hz1 hE1 hb1 => NewVC.blk fun g2 w2 hg2 hz2 hE2 hb2 => NewVC.blk fun g3 w3 hg3 hz3 hE3 hb3 => ?_
 have hE03 := (hE1.ext hE2).ext hE3
 have hb1 := (hb1.ext hE2).ext hE3
 have hb2 := hb2.ext hE3
 have s2 := hE2.size
 have hg3' : w.heap.size ≤ g3 := by omega
 have err : ∀ {w' w'' : World} {k : Int}, Ext w w' → w''.heap.size = w'.heap.size → Mod (fun i => i = g3) w' w'' → parseS v src dst bs = noneP k → Ext w w'' ∧ ∃ A', Ending.returned (.tuple #[.agg #[.int .i64 0, .int .i64 0, .int .i64 0, .int .i64 0, .slice none 0 0], .int .i64 k]) =
   .returned (.tuple #[((parseS v src dst bs).msg A' (parseS v src dst bs).data.length).val, .int .i64 (parseS v src dst bs).err]) ∧ Cells w'' A' ((parseS v src dst bs).data.map (.int .u8)) ∧ (0 < (parseS v src dst bs).data.length → A' = A.map (·.add 8)) :=
  fun hE' _ hm hp => ⟨hE'.set hm hg3', none, by rw [hp]; rfl, by rw [hp]; exact Cells.nil _ _, by rw [hp]; intro h; simp [noneP] at h⟩
 refine JoinVC.of (fun _ w' => w' = w3 ∧ ¬ 65515 < bs.length ∧ ¬ (v ≠ 4 ∧ v ≠ 6)) ?_ ?_
 ·refine Br.dec (fun h => ?_) (fun h => ?_)
  ·exact set5 hb3 fun w' hz hm hb' => ⟨_, _, _, _, _, _, _, CellsAt.blk hb', err hE03 hz hm (by unfold parseS; rw [if_pos (by omega)])⟩
  ·refine Br.dec (fun h4 => Br.dec (fun h6 => ?_) (fun h6 => ⟨rfl, by omega, fun e => h6 e.2⟩)) (fun h4 => ⟨rfl, by omega, fun e => h4 e.1⟩)
   exact set5 hb3 fun w' hz hm hb' => ⟨_, _, _, _, _, _, _, CellsAt.blk hb', err hE03 hz hm (by unfold parseS; rw [if_neg (by omega), if_pos ⟨h4, h6⟩])⟩
 rintro _ w14 ⟨rfl, hlen, hv⟩
 unfold icmp_Parse_J3
 refine ⟨_, _, _, _, _, _, _, _, _, _, _, _, _, _, _, _, _, CellsAt.blk hb1, _, _, _, _, _, _, _, _, _, _, _, _, _, _, _, _, _, CellsAt.blk hb2, ?_⟩
 refine (pseudo_spec (v := v) (src := src) (dst := dst) (n := (n : Int)) (by omega) (by omega)).mono ?_
 have rest : ∀ {w15 : World} {PA : Option Addr} {x0n x0c : Nat} {L0 : List Int}, Ext w14 w15 → Cells w15 PA (L0.map (.int .u8)) → L0.length = x0n → Bts L0 → x0n ≤ 70000 → L0 ++ bs = overS v src dst bs → ¬ (v ≠ 4 ∧ ¬ (src.v = 6 ∧ dst.v = 6)) → ¬ bs.length < 8 →
   ∀ {g4 : Nat} {w26 : World}, Ext w15 w26 → Blk w26 g4 25 [.slice PA x0n x0c, .slice A n c] → Calls Tryz.prog 53 #[.slice (some ⟨g4, 0, none⟩) 2 2] w26 fun e w' => w26 = w' ∧ e = .returned (.bool (decide (sumS (overS v src dst bs) = 65535))) := by
  intro w15 PA x0n x0c L0 hE15 hp hpl hpB hpn hov hfam h8 g4 w26 hE26 hb4
  let ps : List PartV := [⟨PA, x0n, x0c, L0⟩, ⟨A, n, c, bs⟩]
  have hps : PartsAt w26 (some ⟨g4, 0, none⟩) ps := by
   refine ⟨by simpa [ps, PartV.val] using Cells.of_blk hb4 0, fun p hp' => ?_⟩
   simp only [ps, List.mem_cons, List.not_mem_nil, or_false] at hp'
   rcases hp' with rfl | rfl
   ·exact ⟨hp.ext hE26, hpl, hpB, hpn⟩
   ·exact ⟨hb.ext ((hE03.ext hE15).ext hE26), hl, hB, by show n ≤ 70000; omega⟩
  have hgr : groundS ps = overS v src dst bs := by rw [← hov]; simp [groundS, ps]
  have := sumGood_spec (m := 2) (mc := 2) hps rfl (by decide)
  rwa [hgr] at this
 rintro _ w15 ⟨hE15, hcase⟩
 have hE015 := hE03.ext hE15
 have hb315 := hb3.ext hE15
 rcases hcase with ⟨h4, rfl⟩ | ⟨h4, h6, rfl⟩ | ⟨h4, h6, W, wc, rfl, hown⟩
 case inr.inl =>
  refine ⟨_, _, _, _, rfl, Br.yes (by decide) ?_⟩
  exact set5 hb315 fun w' hz hm hb' => ⟨_, _, _, _, _, _, _, CellsAt.blk hb', err hE015 hz hm (by unfold parseS; rw [if_neg hlen, if_neg hv, if_pos ⟨h4, h6⟩])⟩
 all_goals
  refine ⟨_, _, _, _, rfl, Br.no (by decide) ?_⟩
  have hfam : ¬ (v ≠ 4 ∧ ¬ (src.v = 6 ∧ dst.v = 6)) := fun e => by first | exact e.1 h4 | exact e.2 h6
  refine Br.dec (fun h8 => ?_) (fun h8 => ?_)
  ·exact set5 hb315 fun w' hz hm hb' => ⟨_, _, _, _, _, _, _, CellsAt.blk hb', err hE015 hz hm (by unfold parseS; rw [if_neg hlen, if_neg hv, if_neg hfam, if_pos (by omega)])⟩
  have h8' : ¬ bs.length < 8 := by omega
  refine NewVC.blk fun g4 w26 hg4 hz26 hE26 hb26 => ?_
  have hb326 := hb315.ext hE26
  have hE026 := hE015.ext hE26
  have hgood : Calls Tryz.prog 53 #[.slice (some ⟨g4, 0, none⟩) 2 2] w26 fun e w' => w26 = w' ∧ e = .returned (.bool (decide (sumS (overS v src dst bs) = 65535))) := by
   first
    | exact rest hE15 (Cells.nil w15 none) (L0 := []) rfl (fun _ h => by cases h) (by decide) (by unfold overS; rw [if_pos h4]; rfl) hfam h8' hE26 hb26
    | exact rest hE15 (own_cells hown) (pseudoL_len _ _ _) (pseudoL_bts hs ht (by omega) (by omega)) (by decide) (by unfold overS; rw [if_neg h4, hl]) hfam h8' hE26 hb26
  refine hgood.mono ?_
  rintro _ w27 ⟨rfl, rfl⟩
  refine ⟨_, rfl, ?_⟩
  by_cases hsum : sumS (overS v src dst bs) = 65535
  case neg =>
   refine Br.t (by simp [hsum]) ?_
   exact set5 hb326 fun w' hz hm hb' => ⟨_, _, _, _, _, _, _, CellsAt.blk hb', err hE026 hz hm (by unfold parseS; rw [if_neg hlen, if_neg hv, if_neg hfam, if_neg h8', if_pos hsum])⟩
  refine Br.f (by simp [hsum]) ?_
  refine widths_spec.mono ?_
  rintro _ w33 ⟨hE33, gw, hgw, rfl, hbw⟩
  refine ⟨_, _, _, rfl, ?_⟩
  have hE033 := hE026.ext hE33
  refine (fields_yes (p := 0) (ws := hws) (hb.ext hE033) hl hB hc (by omega) (Cells.of_blk hbw 0) rfl hws_ok (by decide) (by rw [hws_psum]; omega)).mono ?_
  rintro _ w34 ⟨hE34, FA, fc, rfl, hownF⟩
  have h8n : ((bs.drop 0).take 8).length = 8 := by simp; omega
  have hff := hws_fields ((hB.drop 0).take 8) h8n
  have hpsum : (psum hws / 8).toNat = 8 := by rw [hws_psum]; decide
  simp only [Int.toNat_zero, hpsum, hff] at hownF
  have hgd : ∀ i, i < 8 → ((bs.drop 0).take 8).getD i 0 = bs.getD i 0 := fun i hi => by simp [List.getD_eq_getElem?_getD, hi]
  rw [hgd 0 (by decide), hgd 1 (by decide), hgd 2 (by decide), hgd 3 (by decide), hgd 4 (by decide), hgd 5 (by decide), hgd 6 (by decide), hgd 7 (by decide)] at hownF
  have e8 : (0 : Int) + psum hws / 8 = 8 := by rw [hws_psum]; decide
  rw [e8]
  refine ⟨_, _, _, _, _, rfl, Br.no (by decide) ?_⟩
  refine DrawVC.of (fun w' => Ext w34 w' ∨ ∃ w'', Ext w34 w'' ∧ Mod (fun i => i = g3) w'' w') fun w40 hE40 _ => ⟨.inl hE40, ?_⟩
  have hF : ∀ w', (Ext w34 w' ∨ ∃ w'', Ext w34 w'' ∧ Mod (fun i => i = g3) w'' w') → Cells w' FA (([bs.getD 0 0, bs.getD 1 0, bs.getD 2 0 * 256 + bs.getD 3 0, restS bs] : List Int).map (.int .i64)) := by
   rintro w' (h | ⟨w'', h, hm⟩)
   ·exact own_cells (own_ext hownF h)
   ·exact own_cells (own_mod (own_ext hownF h) hm fun k hk e => by have := own_new hownF k hk; have := hb326.lt; have := hE33.size; omega)
  refine IdxVC.draw (S := fun w' => Ext w34 w' ∨ ∃ w'', Ext w34 w'' ∧ Mod (fun i => i = g3) w'' w') (.inl hE40) hF (by decide) (by decide) rfl fun a ha => ⟨_, ha, ?_⟩
  refine IdxVC.draw (S := fun w' => Ext w34 w' ∨ ∃ w'', Ext w34 w'' ∧ Mod (fun i => i = g3) w'' w') (.inl hE40) hF (by decide) (by decide) rfl fun a ha => ⟨_, ha, ?_⟩
  refine IdxVC.draw (S := fun w' => Ext w34 w' ∨ ∃ w'', Ext w34 w'' ∧ Mod (fun i => i = g3) w'' w') (.inl hE40) hF (by decide) (by decide) rfl fun a ha => ⟨_, ha, ?_⟩
  refine ⟨by decide, by omega, by omega, by omega, ?_⟩
  have hE034 := hE033.ext hE34
  have hE040 := hE034.ext hE40
  refine set5 (((hb326.ext hE33).ext hE34).ext hE40) fun w45 hz45 hm45 hb45 => ⟨.inr ⟨w40, hE40, hm45⟩, _, _, _, _, _, _, _, CellsAt.blk hb45, ?_⟩
  have hE045 := hE040.set hm45 hg3'
  have hp := parseS_ok hlen hv hfam h8' hsum
  refine ⟨hE045, (if n = 8 then A else A.map (·.add 8)), ?_, ?_, ?_⟩
  ·rw [hp]
   have e1 : (bs.drop 8).length = n - 8 := by rw [List.length_drop, hl]
   simp only [ParsedV.msg, MsgV.val, e1, Int.toNat_natCast]
   rfl
  ·rw [hp]
   have hbw := hb.ext hE045
   by_cases hn8 : n = 8
   ·rw [if_pos hn8, List.drop_of_length_le (by omega)]; exact Cells.nil _ _
   ·rw [if_neg hn8]
    have := hbw.drop 8 (c := 8 + 1 + bs.length) (by simp only [List.length_map]; omega) 1 (.inl rfl)
    rw [if_neg (by omega), Nat.mul_one] at this
    simp only [List.map_drop]
    exact this
  ·rw [hp]
   intro h
   simp only [List.length_drop] at h
   rw [if_neg (by omega)]
end
end Go.Proofs.YtjngdcilnipjcaaGreatDoor
/- The document's Parse; lists that are marked, and whether they stand. -/
namespace Go.Proofs.YtjngdcilnipjcaaGreatDoor
open Go.Eng Go.RowKit
section
variable {w : World} {src dst : IPV} {R : Ending → World → Prop}
set_option maxHeartbeats 1000000 in
theorem refParse_spec {v : Int} {A : Option Addr} {n c : Nat} {bs : List Int} (hb : Cells w A (bs.map (.int .u8))) (hl : bs.length = n) (hB : Bts bs) (hs : Bts src.bytes) (ht : Bts dst.bytes) :
    Calls Tryz.prog 52 #[.int .i64 v, src.val, dst.val, .slice A n c] w fun e w' => Ext w w' ∧ ∃ A' k, e = .returned (.tuple #[((parseS v src dst bs).msg A' k).val, .int .i64 (parseS v src dst bs).err]) ∧
      w'.ownsRow w.heap.size 5 1 (.slice A' (parseS v src dst bs).data.length k) (parseS v src dst bs).data.length ((parseS v src dst bs).data.map (.int .u8)) := by
  refine weirref8_Parse_of v src.v src.a0 src.a1 src.a2 src.a3 src.a4 src.a5 src.a6 src.a7 src.a8 src.a9 src.a10 src.a11 src.a12 src.a13 src.a14 src.a15
    dst.v dst.a0 dst.a1 dst.a2 dst.a3 dst.a4 dst.a5 dst.a6 dst.a7 dst.a8 dst.a9 dst.a10 dst.a11 dst.a12 dst.a13 dst.a14 dst.a15 A n c w _ ?_
  unfold weirref8_Parse_VC
  refine NewVC.blk fun g1 w1 hg1 hz1 hE1 hb1 => NewVC.blk fun g2 w2 hg2 hz2 hE2 hb2 => NewVC.blk fun g3 w3 hg3 hz3 hE3 hb3 => NewVC.blk fun g4 w4 hg4 hz4 hE4 hb4 => ?_
  have hE04 := ((hE1.ext hE2).ext hE3).ext hE4
  have hb1 := ((hb1.ext hE2).ext hE3).ext hE4
  have hb2 := (hb2.ext hE3).ext hE4
  have hb3 := hb3.ext hE4
  have s2 := hE2.size
  have hg3' : w.heap.size ≤ g3 := by omega
  have err : ∀ {w' w'' : World} {k : Int}, Ext w w' → w''.heap.size = w'.heap.size → Mod (fun i => i = g3) w' w'' → parseS v src dst bs = noneP k → Ext w w'' ∧ ∃ A' kk, Ending.returned (.tuple #[.agg #[.int .i64 0, .int .i64 0, .int .i64 0, .int .i64 0, .slice none 0 0], .int .i64 k]) =
      .returned (.tuple #[((parseS v src dst bs).msg A' kk).val, .int .i64 (parseS v src dst bs).err]) ∧ w''.ownsRow w.heap.size 5 1 (.slice A' (parseS v src dst bs).data.length kk) (parseS v src dst bs).data.length ((parseS v src dst bs).data.map (.int .u8)) :=
    fun hE' _ hm hp => ⟨hE'.set hm hg3', none, 0, by rw [hp]; rfl, by rw [hp]; exact World.ownsRow_nil _ _ _ _⟩
  have bad : ∀ {w' : World} {k : Int}, Ext w4 w' → parseS v src dst bs = noneP k →
      ∃ x0 : Int, ∃ x1 : Int, ∃ x2 : Int, ∃ x3 : Int, ∃ (x4A : Option Addr) (x4n x4c : Nat), CellsAt w' ⟨g4, 0, none⟩ 0 [.int .i64 x0, .int .i64 x1, .int .i64 x2, .int .i64 x3, .slice x4A x4n x4c] ∧
      SetVC w' ⟨g3, 0, none⟩ (.int .i64 x0) fun w5 => SetVC w5 ⟨g3, 1, none⟩ (.int .i64 x1) fun w6 => SetVC w6 ⟨g3, 2, none⟩ (.int .i64 x2) fun w7 => SetVC w7 ⟨g3, 3, none⟩ (.int .i64 x3) fun w8 => SetVC w8 ⟨g3, 4, none⟩ (.slice x4A x4n x4c) fun w9 =>
      ∃ res0 : Int, ∃ res1 : Int, ∃ res2 : Int, ∃ res3 : Int, ∃ (res4A : Option Addr) (res4n res4c : Nat), CellsAt w9 ⟨g3, 0, none⟩ 0 [.int .i64 res0, .int .i64 res1, .int .i64 res2, .int .i64 res3, .slice res4A res4n res4c] ∧
        (Ext w w9 ∧ ∃ A' kk, Ending.returned (.tuple #[.agg #[.int .i64 res0, .int .i64 res1, .int .i64 res2, .int .i64 res3, .slice res4A res4n res4c], .int .i64 k]) =
      .returned (.tuple #[((parseS v src dst bs).msg A' kk).val, .int .i64 (parseS v src dst bs).err]) ∧ w9.ownsRow w.heap.size 5 1 (.slice A' (parseS v src dst bs).data.length kk) (parseS v src dst bs).data.length ((parseS v src dst bs).data.map (.int .u8))) := fun hE' hp =>
    ⟨_, _, _, _, _, _, _, CellsAt.blk (hb4.ext hE'), set5 (hb3.ext hE') fun w' hz hm hb' => ⟨_, _, _, _, _, _, _, CellsAt.blk hb', err (hE04.ext hE') hz hm hp⟩⟩
  refine Br.dec (fun h => bad (Mod.refl _ _) (by unfold parseS; rw [if_pos (by omega)])) (fun hlen => ?_)
  have hlen : ¬ 65515 < bs.length := by omega
  refine JoinVC.of (fun s w' => w' = w4 ∧ s = decide (v ≠ 4 ∧ v ≠ 6)) ?_ ?_
  · refine Br.dec (fun h => ⟨rfl, by simp [h]⟩) (fun h => ⟨rfl, by simp at h; simp [h]⟩)
  rintro _ w10 ⟨rfl, rfl⟩
  unfold weirref8_Parse_J115
  refine Br.dec (fun hv => bad (Mod.refl _ _) (by unfold parseS; rw [if_neg hlen, if_pos hv])) (fun hv => ?_)
  refine JoinVC.of (fun s w' => Ext w10 w' ∧ s = decide (v ≠ 4 ∧ ¬ (src.v = 6 ∧ dst.v = 6))) ?_ ?_
  · refine Br.dec (fun h6 => ?_) (fun h6 => ⟨Mod.refl _ _, by have : v = 4 := by omega
                                                              simp [this]⟩)
    refine ⟨_, _, _, _, _, _, _, _, _, _, _, _, _, _, _, _, _, CellsAt.blk hb1, _, _, _, _, _, _, _, _, _, _, _, _, _, _, _, _, _, CellsAt.blk hb2, ?_⟩
    refine (six_spec (src := src) (dst := dst)).mono ?_
    rintro _ w16 ⟨hE16, rfl⟩
    exact ⟨_, rfl, hE16, by subst h6; simp⟩
  rintro _ w17 ⟨hE17, rfl⟩
  unfold weirref8_Parse_J463
  refine Br.dec (fun hf => bad hE17 (by unfold parseS; rw [if_neg hlen, if_neg hv, if_pos hf])) (fun hf => ?_)
  refine Br.dec (fun h8 => bad hE17 (by unfold parseS; rw [if_neg hlen, if_neg hv, if_neg hf, if_pos (by omega)])) (fun h8 => ?_)
  have h8' : ¬ bs.length < 8 := by omega
  refine ⟨_, _, _, _, _, _, _, _, _, _, _, _, _, _, _, _, _, CellsAt.blk (hb1.ext hE17), _, _, _, _, _, _, _, _, _, _, _, _, _, _, _, _, _, CellsAt.blk (hb2.ext hE17), ?_⟩
  have hE017 := hE04.ext hE17
  refine (parts_spec (v := v) (src := src) (dst := dst) (hb.ext hE017) hl hB (by omega) (fun h4 => Decidable.not_not.1 fun e => hf ⟨h4, e⟩) hs ht).mono ?_
  rintro _ w28 ⟨hE28, gp, pm, ps, rfl, hps, hpl, hpm, hgr⟩
  refine ⟨_, _, _, rfl, ?_⟩
  refine (refGood_spec hps hpl (by omega)).mono ?_
  rintro _ w29 ⟨rfl, rfl⟩
  rw [hgr]
  refine ⟨_, rfl, ?_⟩
  by_cases hsum : sumS (overS v src dst bs) = 65535
  case neg => exact Br.t (by simp [hsum]) (bad (hE17.ext hE28) (by unfold parseS; rw [if_neg hlen, if_neg hv, if_neg hf, if_neg h8', if_pos hsum]))
  refine Br.f (by simp [hsum]) ?_
  have hE028 := hE017.ext hE28
  have hb328 := (hb3.ext hE17).ext hE28
  have hbt : ∀ i, i < 8 → 0 ≤ bs.getD i 0 ∧ bs.getD i 0 < 256 := fun i hi => by
    have := hB.at (i := i) (by omega)
    simpa [List.getD_eq_getElem?_getD, show i < bs.length by omega] using this
  have b0 := hbt 0 (by decide)
  have b1 := hbt 1 (by decide)
  have b4 := hbt 4 (by decide)
  have b5 := hbt 5 (by decide)
  have b6 := hbt 6 (by decide)
  have b7 := hbt 7 (by decide)
  refine DrawVC.of (fun w' => Ext w w') fun w35 hE35 _ => ⟨hE028.ext hE35, ?_⟩
  have hE035 := hE028.ext hE35
  have rd : ∀ {w' : World} {i : Int} {F : Addr → Prop}, Ext w w' → 0 ≤ i → i < n → (∀ a, (∀ w', Ext w w' → w'.cell? a = some (.int .u8 (bs.getD i.toNat 0))) → F a) → IdxVC A n 1 i F := fun {w' i F} hE' h0 h1 hF =>
    IdxVC.draw (S := fun w' => Ext w w') hE' (fun w' hE' => hb.ext hE') h0 h1 hl hF
  refine rd hE035 (by decide) (by omega) fun a ha => ⟨_, ha, rd hE035 (by decide) (by omega) fun a ha => ⟨_, ha, rd hE035 (by decide) (by omega) fun a ha => ⟨_, ha, rd hE035 (by decide) (by omega) fun a ha => ⟨_, ha, ?_⟩⟩⟩⟩
  refine DrawVC.of (fun w' => Ext w w') fun w36 hE36 _ => ⟨hE035.ext hE36, ?_⟩
  have hE036 := hE035.ext hE36
  refine rd hE036 (by decide) (by omega) fun a ha => ⟨_, ha, rd hE036 (by decide) (by omega) fun a ha => ⟨_, ha, ?_⟩⟩
  refine (part_spec (lo := 8) (hb.ext hE036) hl (by omega) (by omega)).mono ?_
  rintro _ w37 ⟨hE37, W, wc, rfl, hown⟩
  have hE037 := hE036.ext hE37
  refine ⟨_, _, _, rfl, hE037, ?_⟩
  refine set5 (((hb328.ext hE35).ext hE36).ext hE37) fun w42 hz42 hm42 hb42 => ⟨hE037.set hm42 hg3', _, _, _, _, _, _, _, CellsAt.blk hb42, ?_⟩
  have hp := parseS_ok hlen hv hf h8' hsum
  have hE042 := hE037.set hm42 hg3'
  have s36 := hE036.size
  have s37 := hE37.size
  have e1 : (bs.drop 8).length = n - 8 := by rw [List.length_drop, hl]
  refine ⟨hE042, W, wc, ?_, ?_⟩
  · rw [hp]
    simp only [show ((4 : Int).toNat) = 4 from rfl, show ((5 : Int).toNat) = 5 from rfl, show ((6 : Int).toNat) = 6 from rfl, show ((7 : Int).toNat) = 7 from rfl, show ((0 : Int).toNat) = 0 from rfl, show ((1 : Int).toNat) = 1 from rfl]
    rw [w64 (n := bs.getD 0 0) (by omega) (by omega), w64 (n := bs.getD 1 0) (by omega) (by omega), w64 (n := bs.getD 4 0) (by omega) (by omega), w64 (n := bs.getD 5 0) (by omega) (by omega), w64 (n := bs.getD 6 0) (by omega) (by omega), w64 (n := bs.getD 7 0) (by omega) (by omega),
      w64 (n := bs.getD 4 0 * 16777216) (by omega) (by omega), w64 (n := bs.getD 5 0 * 65536) (by omega) (by omega), w64 (n := bs.getD 6 0 * 256) (by omega) (by omega), w64 (n := bs.getD 4 0 * 16777216 + bs.getD 5 0 * 65536) (by omega) (by omega),
      w64 (n := bs.getD 4 0 * 16777216 + bs.getD 5 0 * 65536 + bs.getD 6 0 * 256) (by omega) (by omega), w64 (n := bs.getD 4 0 * 16777216 + bs.getD 5 0 * 65536 + bs.getD 6 0 * 256 + bs.getD 7 0) (by omega) (by omega)]
    have er : bs.getD 4 0 * 16777216 + bs.getD 5 0 * 65536 + bs.getD 6 0 * 256 + bs.getD 7 0 = restS bs := by unfold restS; omega
    rw [er]
    simp only [ParsedV.msg, MsgV.val, e1]
  · rw [hp]
    simp only [e1]
    refine own_mod (own_base hown (by omega)) hm42 fun k hk e => ?_
    have := own_new hown k hk
    have := hb3.lt
    have := (hE17.ext hE28).size
    have := hE35.size
    have := hE36.size
    omega
end
end Go.Proofs.YtjngdcilnipjcaaGreatDoor
/- What the statements ask first of all (firsts, awake). -/
namespace Go.Eng
open Go Go.RowKit
theorem CellsAt.part {w : World} {g : Nat} {t : TypeId} {cs ds es : List Value} (h : Blk w g t cs) (k : Nat) (hd : cs.drop k = ds ++ es) : CellsAt w ⟨g, k, none⟩ 0 ds := by
 refine CellsAt.of ds 0 fun j v hj => ?_
 rw [addr_add, Nat.zero_add, h.cell]
 have e : cs[k + j]? = (cs.drop k)[j]? := by rw [List.getElem?_drop]
 rw [e, hd, List.getElem?_append_left (List.getElem?_eq_some_iff.1 hj).1]; exact hj
def zeroM : MsgV := ⟨0, 0, 0, 0, none, 0, 0⟩
def zeroIP : IPV := ⟨0, 0, 0, 0, 0, 0, 0, 0, 0, 0, 0, 0, 0, 0, 0, 0, 0⟩
theorem zeroIP_bts : Bts zeroIP.bytes := by intro x hx; simp [zeroIP, IPV.bytes] at hx; omega
def ndD : Value := .agg #[.int .i64 1, .int .i64 4, .int .u8 0, .int .u8 0, .int .u8 0, .int .u8 0, .int .u8 0, .int .u8 0, .int .u8 0, .int .u8 0, .int .u8 0, .int .u8 0, .int .u8 0, .int .u8 0, .int .u8 0, .int .u8 0, .int .u8 0, .int .u8 0,
 .bool false, .bool false, .bool false, .bool false, .int .u8 1, .int .u8 0, .int .u8 0, .int .u8 0, .int .u8 0, .int .u8 0]
def ndDC : List Value := [.int .i64 1, .int .i64 4, .int .u8 0, .int .u8 0, .int .u8 0, .int .u8 0, .int .u8 0, .int .u8 0, .int .u8 0, .int .u8 0, .int .u8 0, .int .u8 0, .int .u8 0, .int .u8 0, .int .u8 0, .int .u8 0, .int .u8 0, .int .u8 0,
 .bool false, .bool false, .bool false, .bool false, .int .u8 1, .int .u8 0, .int .u8 0, .int .u8 0, .int .u8 0, .int .u8 0]
end Go.Eng
namespace Go.Proofs.YtjngdcilnipjcaaGreatDoor
open Go.Eng Go.RowKit
section
variable {w : World}
theorem putNDd_spec : Calls Tryz.prog 16 #[ndD] w fun e w' => Ext w w' ∧ e = .returned (.tuple #[zeroM.val, .int .i64 1]) := by
 refine icmp_PutND_of 1 4 0 0 0 0 0 0 0 0 0 0 0 0 0 0 0 0 false false false false 1 0 0 0 0 0 w _ ?_
 unfold icmp_PutND_VC
 refine NewVC.blk fun g1 w1 hg1 hz1 hE1 hb1 => NewVC.blk fun g2 w2 hg2 hz2 hE2 hb2 => ?_
 have hb1 : Blk w2 g1 _ ndDC := hb1.ext hE2
 have hE := hE1.ext hE2
 refine JoinVC.of (fun s w' => s = false ∧ w' = w2) ⟨_, hb1.cell 0, Br.no (by decide) ⟨rfl, rfl⟩⟩ ?_
 rintro _ w3 ⟨rfl, rfl⟩
 unfold icmp_PutND_J12
 refine Br.f rfl ?_
 refine JoinVC.of (fun s w' => s = false ∧ w' = w3) ⟨_, hb1.cell 0, Br.yes rfl ⟨_, hb1.cell 18, Br.f rfl ⟨_, hb1.cell 19, Br.f rfl ⟨_, hb1.cell 20, rfl, rfl⟩⟩⟩⟩ ?_
 rintro _ w9 ⟨rfl, rfl⟩
 unfold icmp_PutND_J51
 refine Br.f rfl ?_
 refine JoinVC.of (fun s w' => s = true ∧ w' = w9) ⟨_, hb1.cell 21, Br.t rfl ⟨_, _, _, _, _, _, CellsAt.part hb1 22 (es := []) rfl, rfl, rfl⟩⟩ ?_
 rintro _ w15 ⟨rfl, rfl⟩
 unfold icmp_PutND_J207
 refine Br.t rfl ?_
 refine set5 hb2 fun w' hz hm hb' => ⟨_, _, _, _, _, _, _, CellsAt.blk hb', hE.set hm (by omega), rfl⟩
theorem refPutNDd_spec : Calls Tryz.prog 12 #[ndD] w fun e w' => Ext w w' ∧ e = .returned (.tuple #[zeroM.val, .int .i64 1]) := by
 refine weirref8_PutND_of 1 4 0 0 0 0 0 0 0 0 0 0 0 0 0 0 0 0 false false false false 1 0 0 0 0 0 w _ ?_
 unfold weirref8_PutND_VC
 refine NewVC.blk fun g1 w1 hg1 hz1 hE1 hb1 => NewVC.blk fun g2 w2 hg2 hz2 hE2 hb2 => NewVC.blk fun g3 w3 hg3 hz3 hE3 hb3 => ?_
 have hb1 : Blk w3 g1 _ ndDC := (hb1.ext hE2).ext hE3
 have hb2 := hb2.ext hE3
 have hE := (hE1.ext hE2).ext hE3
 refine JoinVC.of (fun _ _ => False) ?_ (fun _ _ h => h.elim)
 refine ⟨_, hb1.cell 0, Br.no (by decide) ⟨_, hb1.cell 0, Br.yes rfl ⟨_, hb1.cell 18, Br.f rfl ⟨_, hb1.cell 19, Br.f rfl ⟨_, hb1.cell 20, Br.f rfl ⟨_, hb1.cell 21, Br.t rfl ⟨_, _, _, _, _, _, CellsAt.part hb1 22 (es := []) rfl, Br.t rfl ?_⟩⟩⟩⟩⟩⟩⟩
 refine ⟨_, _, _, _, _, _, _, CellsAt.blk hb3, set5 hb2 fun w' hz hm hb' => ⟨_, _, _, _, _, _, _, CellsAt.blk hb', hE.set hm (by omega), rfl⟩⟩
def badM : MsgV := ⟨5, -1, 0, 0, none, 0, 0⟩
def bigL : List Int := List.replicate 65536 0
theorem bigL_bts : Bts bigL := by intro x hx; have := List.eq_of_mem_replicate hx; omega
theorem bigL_len : bigL.length = 65536 := List.length_replicate
theorem parse_big {v : Int} {src dst : IPV} : parseS v src dst bigL = noneP 2 := by unfold parseS; rw [if_pos (by rw [bigL_len]; decide)]
section
variable {R : Ending → World → Prop} {g1 g2 g4 g5 : Nat} {tn : TypeId} {bigM : MsgV}
set_option maxHeartbeats 1000000 in
theorem firsts_D254 (hb5 : Blk w g5 tn ndDC) (hb2 : Blk w g2 27 badM.cells) (hb4 : Blk w g4 27 bigM.cells) (hn : bigM.n ≤ 100000) (hR : ∀ w', Ext w w' → R (.returned (.bool true)) w') : weirlaw8_firsts_D254 R w g5 g2 g4 2 2 := by
 unfold weirlaw8_firsts_D254
 refine ⟨_, _, _, _, _, _, _, _, _, _, _, _, _, _, _, _, _, _, _, _, _, _, _, _, _, _, _, _, CellsAt.blk hb5, ?_⟩
 refine putNDd_spec.mono ?_
 rintro _ w79 ⟨hE79, rfl⟩
 refine ⟨_, _, _, _, _, _, _, _, rfl, ?_⟩
 refine NewVC.blk fun g10 w80 hg10 hz80 hE80 hb10 => ?_
 refine set5 hb10 fun w85 hz85 hm85 hb10 => ?_
 have s79 := hE79.size
 have hE85 := (hE79.ext hE80).set hm85 (by omega)
 refine ⟨_, _, _, _, _, _, _, _, _, _, _, _, _, _, _, _, _, _, _, _, _, _, _, _, _, _, _, _, CellsAt.blk (hb5.ext hE85), ?_⟩
 refine refPutNDd_spec.mono ?_
 rintro _ w86 ⟨hE86, rfl⟩
 refine ⟨_, _, _, _, _, _, _, _, rfl, ?_⟩
 refine NewVC.blk fun g11 w87 hg11 hz87 hE87 hb11 => ?_
 refine set5 hb11 fun w92 hz92 hm92 hb11 => ?_
 have s85 := (hE85.ext hE86).size
 have hE92 := ((hE85.ext hE86).ext hE87).set hm92 (by omega)
 refine DrawVC.of (fun w' => Ext w w') fun w93 hE93 _ => ⟨hE92.ext hE93, ?_⟩
 have hE := hE92.ext hE93
 refine ⟨_, _, _, _, _, _, _, fun w' h => CellsAt.blk (hb2.ext h), _, _, _, _, _, _, _, fun w' h => CellsAt.blk (hb2.ext h), ?_⟩
 refine (check_spec badM (by decide)).mono ?_
 rintro _ w94 ⟨hE94, rfl⟩
 refine ⟨_, rfl, hE.ext hE94, ?_⟩
 refine (refCheck8_spec badM).mono ?_
 rintro _ w95 ⟨hE95, rfl⟩
 have hE095 := (hE.ext hE94).ext hE95
 refine ⟨_, rfl, hE095, Br.yes rfl ?_⟩
 refine ⟨_, _, _, _, _, _, _, fun w' h => CellsAt.blk (hb4.ext h), _, _, _, _, _, _, _, fun w' h => CellsAt.blk (hb4.ext h), ?_⟩
 refine (check_spec bigM (by omega)).mono ?_
 rintro _ w96 ⟨hE96, rfl⟩
 refine ⟨_, rfl, hE095.ext hE96, ?_⟩
 refine (refCheck8_spec bigM).mono ?_
 rintro _ w97 ⟨hE97, rfl⟩
 exact ⟨_, rfl, (hE095.ext hE96).ext hE97, Br.yes rfl (Br.yes rfl (hR _ ((hE095.ext hE96).ext hE97)))⟩
set_option maxHeartbeats 1000000 in
theorem firsts_D126 (hb1 : Blk w g1 24 zeroIP.cells) (hb5 : Blk w g5 tn ndDC) (hb2 : Blk w g2 27 badM.cells) (hb4 : Blk w g4 27 bigM.cells) (hn : bigM.n ≤ 100000) (hR : ∀ w', Ext w w' → R (.returned (.bool true)) w') : weirlaw8_firsts_D126 R w g1 g5 g2 g4 2 := by
 unfold weirlaw8_firsts_D126
 refine DrawVC.of (fun w' => Ext w w') fun w70 hE70 _ => ⟨hE70, ?_⟩
 refine ⟨_, _, _, _, _, _, _, _, _, _, _, _, _, _, _, _, _, fun w' h => CellsAt.blk (hb1.ext h), _, _, _, _, _, _, _, _, _, _, _, _, _, _, _, _, _, fun w' h => CellsAt.blk (hb1.ext h), ?_⟩
 have last : ∀ {w' : World}, Ext w w' → weirlaw8_firsts_D254 R w' g5 g2 g4 2 2 := fun h => firsts_D254 (hb5.ext h) (hb2.ext h) (hb4.ext h) hn fun w'' h' => hR w'' (h.ext h')
 have big : ∀ {w' : World} {g n : Nat}, n = 65536 → Blk w' g 5 (List.replicate n (.int .u8 0)) → Cells w' (some ⟨g, 0, none⟩) (bigL.map (.int .u8)) := fun hn h => by
  have := Cells.of_blk h 0
  rw [List.drop_zero, hn] at this
  rwa [bigL, List.map_replicate]
 have ask : ∀ {w' : World} {g n : Nat}, n = 65536 → Blk w' g 5 (List.replicate n (.int .u8 0)) → Calls Tryz.prog 52 #[.int .i64 5, zeroIP.val, zeroIP.val, .slice (some ⟨g, 0, none⟩) 65536 65536] w' fun e w'' => Ext w' w'' ∧ ∃ A k, e = .returned (.tuple #[(MsgV.mk 0 0 0 0 A 0 k).val, .int .i64 2]) := fun {w' g n} hn h => by
  refine (refParse_spec (v := 5) (src := zeroIP) (dst := zeroIP) (big hn h) bigL_len bigL_bts zeroIP_bts zeroIP_bts).mono ?_
  rintro _ w'' ⟨hE, A, k, rfl, -⟩
  exact ⟨hE, A, k, by rw [parse_big]; rfl⟩
 refine ⟨MakeVC.blk (by decide) (by decide) (by decide) fun g8 w71 hg8 hz71 hE71 hb8 => ⟨hE70.ext hE71, ?_, ?_⟩, ?_⟩
 ·refine (ask (n := (65536 : Int).toNat) (by decide) hb8).mono ?_
  rintro _ w72 ⟨hE72, A, k, rfl⟩
  have hE072 := (hE70.ext hE71).ext hE72
  have s72 := hE072.size
  refine ⟨_, _, _, _, _, _, _, _, rfl, hE072, ?_⟩
  refine NewVC.blk fun g9 w73 hg9 hz73 hE73 hb9 => ⟨hE072.ext hE73, ?_⟩
  exact set5 hb9 fun w78 hz78 hm78 hb9 => ⟨(hE072.ext hE73).set hm78 (by omega), last ((hE072.ext hE73).set hm78 (by omega))⟩
 ·refine NewVC.blk fun g9 w73 hg9 hz73 hE73 hb9 => ⟨(hE70.ext hE71).ext hE73, ?_⟩
  refine (ask (n := (65536 : Int).toNat) (by decide) (hb8.ext hE73)).mono ?_
  rintro _ w72 ⟨hE72, A, k, rfl⟩
  have hE071 := hE70.ext hE71
  have s71 := hE071.size
  have hE072 := (hE071.ext hE73).ext hE72
  refine ⟨_, _, _, _, _, _, _, _, rfl, hE072, ?_⟩
  exact set5 (hb9.ext hE72) fun w78 hz78 hm78 hb9 => ⟨hE072.set hm78 (by omega), last (hE072.set hm78 (by omega))⟩
 ·refine NewVC.blk fun g9 w73 hg9 hz73 hE73 hb9 => ⟨hE70.ext hE73, ?_⟩
  refine MakeVC.blk (by decide) (by decide) (by decide) fun g8 w71 hg8 hz71 hE71 hb8 => ⟨(hE70.ext hE73).ext hE71, ?_⟩
  refine (ask (n := (65536 : Int).toNat) (by decide) hb8).mono ?_
  rintro _ w72 ⟨hE72, A, k, rfl⟩
  have s70 := hE70.size
  have hE072 := ((hE70.ext hE73).ext hE71).ext hE72
  refine ⟨_, _, _, _, _, _, _, _, rfl, hE072, ?_⟩
  exact set5 ((hb9.ext hE71).ext hE72) fun w78 hz78 hm78 hb9 => ⟨hE072.set hm78 (by omega), last (hE072.set hm78 (by omega))⟩
end
set_option maxHeartbeats 4000000 in
theorem firsts_spec : Calls Tryz.prog 22 #[] w fun e w' => Ext w w' ∧ e = .returned (.bool true) := by
 refine weirlaw8_firsts_of w _ ?_
 unfold weirlaw8_firsts_VC
 refine NewVC.blk fun g1 w1 hg1 hz1 hE1 hb1 => ?_
 have hgw1 : w.heap.size ≤ g1 := by omega
 repeat (refine SetVC.blk hb1 (by decide) fun _ _ hm hb1 => ?_; replace hE1 := Ext.set hE1 hm hgw1; clear hm)
 rename_i w18 _
 have hb1 : Blk w18 g1 24 zeroIP.cells := hb1
 refine NewVC.blk fun g2 w19 hg2 hz19 hE19 hb2 => ?_
 refine set5 hb2 fun w24 hz24 hm24 hb2 => ?_
 have hb2 : Blk w24 g2 27 badM.cells := hb2
 have hE24 := hE19.set hm24 (by omega)
 refine MakeVC.blk (by decide) (by decide) (by decide) fun g3 w25 hg3 hz25 hE25 hb3 => ?_
 refine NewVC.blk fun g4 w26 hg4 hz26 hE26 hb4 => ?_
 refine set5 hb4 fun w31 hz31 hm31 hb4 => ?_
 let bigM : MsgV := ⟨4, 256, 0, 0, some ⟨g3, 0, none⟩, 65536, 65536⟩
 have hb4 : Blk w31 g4 27 bigM.cells := hb4
 have hE31 := hE26.set hm31 (by omega)
 refine NewVC.blk fun g5 w32 hg5 hz32 hE32 hb5 => ?_
 have hgw5 : w31.heap.size ≤ g5 := by omega
 repeat (refine SetVC.blk hb5 (by decide) fun _ _ hm hb5 => ?_; replace hE32 := Ext.set hE32 hm hgw5; clear hm)
 rename_i w60 _
 have hb5 : Blk w60 g5 _ ndDC := hb5
 have hE60 : Ext w18 w60 := ((hE24.ext hE25).ext hE31).ext hE32
 have hE060 := hE1.ext hE60
 have hb1 := hb1.ext hE60
 have hb2 := hb2.ext ((hE25.ext hE31).ext hE32)
 have hb4 := hb4.ext hE32
 have last : ∀ {w' : World}, Ext w60 w' → weirlaw8_firsts_D126 (fun e w' => Ext w w' ∧ e = .returned (.bool true)) w' g1 g5 g2 g4 2 := fun h => firsts_D126 (hb1.ext h) (hb5.ext h) (hb2.ext h) (hb4.ext h) (by show 65536 ≤ 100000; decide) fun w'' h' => ⟨(hE060.ext h).ext h', rfl⟩
 have big : ∀ {w' : World} {g n : Nat}, n = 65536 → Blk w' g 5 (List.replicate n (.int .u8 0)) → Cells w' (some ⟨g, 0, none⟩) (bigL.map (.int .u8)) := fun hn h => by
  have := Cells.of_blk h 0
  rw [List.drop_zero, hn] at this
  rwa [bigL, List.map_replicate]
 have ask : ∀ {w' : World} {g n : Nat}, n = 65536 → Blk w' g 5 (List.replicate n (.int .u8 0)) → Calls Tryz.prog 24 #[.int .i64 5, zeroIP.val, zeroIP.val, .slice (some ⟨g, 0, none⟩) 65536 65536] w' fun e w'' => Ext w' w'' ∧ ∃ A k, e = .returned (.tuple #[(MsgV.mk 0 0 0 0 A 0 k).val, .int .i64 2]) := fun {w' g n} hn h => by
  refine (parse_spec (v := 5) (src := zeroIP) (dst := zeroIP) (big hn h) bigL_len bigL_bts (Nat.le_refl _) zeroIP_bts zeroIP_bts).mono ?_
  rintro _ w'' ⟨hE, A, rfl, -⟩
  exact ⟨hE, A, 0, by rw [parse_big]; rfl⟩
 refine DrawVC.of (fun w' => Ext w60 w') fun w61 hE61 _ => ⟨hE61, ?_⟩
 refine ⟨_, _, _, _, _, _, _, _, _, _, _, _, _, _, _, _, _, fun w' h => CellsAt.blk (hb1.ext h), _, _, _, _, _, _, _, _, _, _, _, _, _, _, _, _, _, fun w' h => CellsAt.blk (hb1.ext h), ?_⟩
 refine ⟨MakeVC.blk (by decide) (by decide) (by decide) fun g8 w71 hg8 hz71 hE71 hb8 => ⟨hE61.ext hE71, ?_, ?_⟩, ?_⟩
 ·refine (ask (n := (65536 : Int).toNat) (by decide) hb8).mono ?_
  rintro _ w72 ⟨hE72, A, k, rfl⟩
  have hE072 := (hE61.ext hE71).ext hE72
  have s72 := hE072.size
  refine ⟨_, _, _, _, _, _, _, _, rfl, hE072, ?_⟩
  refine NewVC.blk fun g9 w73 hg9 hz73 hE73 hb9 => ⟨hE072.ext hE73, ?_⟩
  exact set5 hb9 fun w78 hz78 hm78 hb9 => ⟨(hE072.ext hE73).set hm78 (by omega), last ((hE072.ext hE73).set hm78 (by omega))⟩
 ·refine NewVC.blk fun g9 w73 hg9 hz73 hE73 hb9 => ⟨(hE61.ext hE71).ext hE73, ?_⟩
  refine (ask (n := (65536 : Int).toNat) (by decide) (hb8.ext hE73)).mono ?_
  rintro _ w72 ⟨hE72, A, k, rfl⟩
  have hE071 := hE61.ext hE71
  have s71 := hE071.size
  have hE072 := (hE071.ext hE73).ext hE72
  refine ⟨_, _, _, _, _, _, _, _, rfl, hE072, ?_⟩
  exact set5 (hb9.ext hE72) fun w78 hz78 hm78 hb9 => ⟨hE072.set hm78 (by omega), last (hE072.set hm78 (by omega))⟩
 ·refine NewVC.blk fun g9 w73 hg9 hz73 hE73 hb9 => ⟨hE61.ext hE73, ?_⟩
  refine MakeVC.blk (by decide) (by decide) (by decide) fun g8 w71 hg8 hz71 hE71 hb8 => ⟨(hE61.ext hE73).ext hE71, ?_⟩
  refine (ask (n := (65536 : Int).toNat) (by decide) hb8).mono ?_
  rintro _ w72 ⟨hE72, A, k, rfl⟩
  have s61 := hE61.size
  have hE072 := ((hE61.ext hE73).ext hE71).ext hE72
  refine ⟨_, _, _, _, _, _, _, _, rfl, hE072, ?_⟩
  exact set5 ((hb9.ext hE71).ext hE72) fun w78 hz78 hm78 hb9 => ⟨hE072.set hm78 (by omega), last (hE072.set hm78 (by omega))⟩
end
end Go.Proofs.YtjngdcilnipjcaaGreatDoor
/- IcmpWrites, without the row: Check and Serialise of any values. -/
namespace Go.Eng
open Go Go.RowKit
theorem ser_echo {A : Option Addr} {k : Nat} : serS ⟨4, 8, 0, 65537, A, 0, k⟩ zeroIP zeroIP [] = ([8, 0, 247, 253, 0, 1, 0, 1], 0) := by rfl
theorem parse_echo : parseS 4 zeroIP zeroIP [8, 0, 247, 253, 0, 1, 0, 1] = ⟨4, 8, 0, 65537, [], 0⟩ := by rfl
theorem parse_wrong : parseS 4 zeroIP zeroIP [8, 0, 247, 254, 0, 1, 0, 1] = noneP 81 := by rfl
theorem serS_len {m : MsgV} {src dst : IPV} {data : List Int} : (serS m src dst data).1.length ≤ 8 + data.length := by
 unfold serS
 split
 ·simp
 ·split
  ·simp
  ·simp [headS_len]
end Go.Eng
namespace Go.Proofs.YtjngdcilnipjcaaGreatDoor
open Go.Eng Go.RowKit
section
variable {w : World}
set_option maxHeartbeats 1000000 in
theorem awake_spec : Calls Tryz.prog 4 #[] w fun e w' => Ext w w' ∧ e = .returned (.bool true) := by
 refine weirlaw8_awake_of w _ ?_
 unfold weirlaw8_awake_VC
 refine firsts_spec.mono ?_
 rintro _ w1 ⟨hE1, rfl⟩
 refine ⟨_, rfl, Br.f rfl ?_⟩
 refine echo_spec.mono ?_
 rintro _ w2 ⟨hE2, rfl⟩
 refine ⟨_, _, _, _, _, _, _, rfl, ?_⟩
 refine (serialise_spec (m := echoV) (src := zeroIP) (dst := zeroIP) (data := []) (Cells.nil _ _) rfl (fun _ h => by cases h) (by decide) zeroIP_bts zeroIP_bts).mono ?_
 rintro _ w3 ⟨hE3, SA, sc, rfl, howns⟩
 have hE03 := (hE1.ext hE2).ext hE3
 have eS : serS echoV zeroIP zeroIP [] = ([8, 0, 247, 253, 0, 1, 0, 1], 0) := ser_echo
 rw [eS] at howns ⊢
 refine ⟨_, _, _, _, rfl, ?_⟩
 refine NewVC.blk fun g1 w4 hg1 hz4 hE4 hb1 => ?_
 refine (parse_spec (v := 4) (src := zeroIP) (dst := zeroIP) (bs := [8, 0, 247, 253, 0, 1, 0, 1]) (Cells.of_blk hb1 0) rfl (by intro x hx; simp at hx; omega) (Nat.le_refl _) zeroIP_bts zeroIP_bts).mono ?_
 rintro _ w5 ⟨hE5, A5, rfl, -, -⟩
 rw [parse_echo]
 refine ⟨_, _, _, _, _, _, _, _, rfl, ?_⟩
 refine NewVC.blk fun g2 w6 hg2 hz6 hE6 hb2 => ?_
 refine set5 hb2 fun w11 hz11 hm11 hb2 => ?_
 have hE05 := (hE03.ext hE4).ext hE5
 have s5 := hE05.size
 have hE011 := (hE05.ext hE6).set hm11 (by omega)
 have hE311 : Ext w3 w11 := ((hE4.ext hE5).ext hE6).set hm11 (by have := (hE4.ext hE5).size; omega)
 refine NewVC.blk fun g3 w12 hg3 hz12 hE12 hb3 => ?_
 refine (parse_spec (v := 4) (src := zeroIP) (dst := zeroIP) (bs := [8, 0, 247, 254, 0, 1, 0, 1]) (Cells.of_blk hb3 0) rfl (by intro x hx; simp at hx; omega) (Nat.le_refl _) zeroIP_bts zeroIP_bts).mono ?_
 rintro _ w13 ⟨hE13, A13, rfl, -, -⟩
 rw [parse_wrong]
 refine ⟨_, _, _, _, _, _, _, _, rfl, ?_⟩
 refine NewVC.blk fun g4 w14 hg4 hz14 hE14 hb4 => ?_
 refine set5 hb4 fun w19 hz19 hm19 hb4 => ?_
 have hE1119 : Ext w11 w19 := ((hE12.ext hE13).ext hE14).set hm19 (by have := (hE12.ext hE13).size; omega)
 have hE019 := hE011.ext hE1119
 let q : MsgV := ⟨4, 8, 0, 65537, A5, 0, 0⟩
 have hb2 : Blk w11 g2 27 q.cells := hb2
 refine DrawVC.of (fun w' => Ext w19 w') fun w20 hE20 _ => ⟨hE20, ?_⟩
 refine Br.yes rfl (Br.yes rfl (Br.yes rfl ?_))
 refine ⟨_, _, _, _, _, _, _, fun w' h => CellsAt.blk (hb2.ext (hE1119.ext h)), ?_⟩
 refine echo_spec.mono ?_
 rintro _ w21 ⟨hE21, rfl⟩
 refine ⟨_, _, _, _, _, _, _, rfl, hE20.ext hE21, ?_⟩
 refine (same8_spec (a := q) (b := echoV) (da := []) (db := []) (Cells.nil _ _) (Cells.nil _ _) rfl rfl (by show 0 ≤ 100000000; decide)).mono ?_
 rintro _ w22 ⟨hE22, rfl⟩
 have hE1922 := (hE20.ext hE21).ext hE22
 refine ⟨_, rfl, hE1922, Br.t (by simp [q, echoV]) ?_⟩
 refine NewVC.blk fun g5 w23 hg5 hz23 hE23 hb5 => ⟨hE1922.ext hE23, ?_⟩
 have hE323 := (hE311.ext hE1119).ext (hE1922.ext hE23)
 refine (same_spec (xs := [8, 0, 247, 253, 0, 1, 0, 1]) (ys := [8, 0, 247, 253, 0, 1, 0, 1]) (own_cells (own_ext howns hE323)) (Cells.of_blk hb5 0) rfl rfl (by decide)).mono ?_
 rintro _ w24 ⟨hE24, rfl⟩
 exact ⟨_, rfl, (hE1922.ext hE23).ext hE24, (hE019.ext (hE1922.ext hE23)).ext hE24, by simp⟩
end
end Go.Proofs.YtjngdcilnipjcaaGreatDoor
