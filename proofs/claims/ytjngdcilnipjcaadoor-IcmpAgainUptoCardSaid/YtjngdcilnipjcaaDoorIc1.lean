/- Addresses and messages by value; the small functions of layer 8: laid, copied, same, marked, stand, echo, widths, the two Checks. -/
import Derived.Test.YtjngdcilnipjcaaDoorSum
namespace Go.Eng
open Go Go.RowKit
section
variable {P : Program} {w : World} {base e n c : Nat} {xs : List Value}
theorem AppVC.both {P : Program} {ts : Array TypeId} {ty : TypeId} {v v' : Value} {w : World} {F G : Option Addr → Nat → Nat → World → Prop} (h : AppVC P ts ty v v' w F) (h' : AppVC P ts ty v v' w G) :
    AppVC P ts ty v v' w fun A n c w' => F A n c w' ∧ G A n c w' := by
  obtain ⟨A, n, c, w1, hr, hf⟩ := h
  obtain ⟨B, m, d, w2, hr', hg⟩ := h'
  rw [hr] at hr'
  injection hr' with e1 e2
  injection e1 with a b c
  subst a; subst b; subst c; subst e2
  exact ⟨_, _, _, _, hr, hf, hg⟩
/-- append onto a row of the call's own: in its place, or in new memory. -/
theorem AppVC.place {t ty : TypeId} {z : Value} {bytes : Nat} (ht : P.underlying t = some (.slice e)) (hi : TypeIs P e z 1 bytes) (hzs : z.cells.size = 1)
    {A A' : Option Addr} {m c' : Nat} {news : List Value}
    (hown : w.ownsRow base e 1 (.slice A n c) n xs) (hsrc : Cells w A' news) (hl : news.length = m) (h0 : 0 < m) (h1 : ∀ u ∈ news, u.oneCell' = true)
    (hbytes : (n + m) * bytes ≤ 140737488355328) (hb0 : 0 < bytes) :
    AppVC P #[t, t] ty (.slice A n c) (.slice A' m c') w fun A2 n2 c2 w' => A2 = A ∨ (Ext w w' ∧ ∀ k, (Value.slice A2 n2 c2).ownBlock = some k → w.heap.size ≤ k) := by
  obtain ⟨i, hi, hz, hs, hy⟩ := hi
  obtain ⟨a', ha', _⟩ := hsrc.at (i := 0) (by omega)
  subst ha'
  have hsrc' : ∀ j u, news[j]? = some u → w.cell? (a'.add j) = some u := fun j u hu => by
    obtain ⟨b', ha, hc⟩ := hsrc j u hu; cases ha; exact hc
  have h63 : n + m ≤ maxLen := by
    have : (n + m) * 1 ≤ (n + m) * bytes := Nat.mul_le_mul_left _ hb0
    simp only [maxLen]; omega
  rcases hown.2 with ⟨hv, hn0⟩ | ⟨g, cap, cur, hv, hb, hg, hnc, hm, hsz, htk⟩
  · injection hv with hA _ hc
    subst hA; subst hc; subst hn0
    refine AppVC.own ht hi hz hs hy hzs (by decide) (base := w.heap.size) (World.ownsRow_nil _ _ _ _) hsrc (by omega) h1 hbytes hb0 (Nat.le_refl _) fun A2 c2 w2 ho2 hm2 _ => ?_
    exact .inr ⟨hm2.mono (fun k _ hk => by simp [Value.ownBlock] at hk), own_new ho2⟩
  · injection hv with hA _ hcap
    subst hA; subst hcap
    by_cases hroom : n + m ≤ c
    · have hcell : ∀ j, j < news.length → (w.cell? ⟨g, 0 + n * i.size + j, none⟩).isSome = true := fun j hj => by
        rw [cell_of_row w g _ cur e (0, 0) hg, hs]
        have : n + j < cur.size := by omega
        simp [this]
      have hr := run_append_room_cells (P := P) w t ty e i ht hi g 0 n c a' m c' news (by rw [hs]; omega) hsrc' h1 hroom hcell (fun j hj => frozen_of_row w g _ cur e hg)
      exact ⟨_, _, _, _, hr, .inl rfl⟩
    · obtain ⟨v', w', hr, ho, hgr⟩ := run_append_arg_grows (P := P) (w := w) t ty e i z 1 bytes ht hi hz hs hy hzs (by decide) ⟨g, 0, none⟩ n c xs (by have := hown.1; omega)
        (fun j u hu => by obtain ⟨a, ha, hc⟩ := own_cells hown j u hu; cases ha; exact hc) a' m c' news (by omega) hsrc' (by omega) h63 hbytes
      obtain ⟨A2, c2, rfl, _, _⟩ := own_form ho
      exact ⟨A2, n + m, c2, w', hr, .inr ⟨(Mod.grown hgr).mono (fun k hk e => by cases e), own_new ho⟩⟩
/-- All of it: the new row, the old one, and where the new one lies. -/
theorem AppVC.whole {t ty : TypeId} {z : Value} {bytes : Nat} (ht : P.underlying t = some (.slice e)) (hi : TypeIs P e z 1 bytes) (hzs : z.cells.size = 1)
    {A A' : Option Addr} {m c' : Nat} {news : List Value} {F : Option Addr → Nat → Nat → World → Prop}
    (hown : w.ownsRow base e 1 (.slice A n c) n xs) (hsrc : Cells w A' news) (hl : news.length = m) (h0 : 0 < m) (h1 : ∀ u ∈ news, u.oneCell' = true)
    (hbytes : (n + m) * bytes ≤ 140737488355328) (hb0 : 0 < bytes) (hbase : base ≤ w.heap.size)
    (h : ∀ A2 c2 w', w'.ownsRow base e 1 (.slice A2 (n + m) c2) (n + m) (xs ++ news) → w'.ownsRow base e 1 (.slice A n c) n xs → Mod (fun k => some k = (Value.slice A n c).ownBlock) w w' →
      (∀ k, some k = (Value.slice A2 (n + m) c2).ownBlock → some k = (Value.slice A n c).ownBlock ∨ w.heap.size ≤ k) → (A2 = A ∨ (Ext w w' ∧ ∀ k, (Value.slice A2 (n + m) c2).ownBlock = some k → w.heap.size ≤ k)) → F A2 (n + m) c2 w') :
    AppVC P #[t, t] ty (.slice A n c) (.slice A' m c') w F := by
  have hA := AppVC.at (F := fun A2 n2 c2 w' => n2 = n + m ∧ w'.ownsRow base e 1 (.slice A2 (n + m) c2) (n + m) (xs ++ news) ∧ Mod (fun k => some k = (Value.slice A n c).ownBlock) w w' ∧
      ∀ k, some k = (Value.slice A2 (n + m) c2).ownBlock → some k = (Value.slice A n c).ownBlock ∨ w.heap.size ≤ k) (t := t) (ty := ty) ht hi hzs hown hsrc hl h1 hbytes hb0 hbase (c' := c') fun A2 c2 w' a b _ d => ⟨rfl, a, b, d⟩
  have hB := AppVC.keep (F := fun _ _ _ w' => w'.ownsRow base e 1 (.slice A n c) n xs) (t := t) (ty := ty) ht hi hzs hown hsrc hl h0 h1 hbytes hb0 (c' := c') fun _ _ w' a _ => a
  have hC := AppVC.place (t := t) (ty := ty) ht hi hzs hown hsrc hl h0 h1 hbytes hb0 (c' := c')
  obtain ⟨A2, n2, c2, w', hr, ⟨rfl, a, b, d⟩, k, p⟩ := AppVC.both hA (AppVC.both hB hC)
  exact ⟨A2, _, c2, w', hr, h A2 c2 w' a k b d p⟩
end
/-- A block of five cells is written from end to end. -/
theorem set5 {w : World} {g : Nat} {t : TypeId} {x0 x1 x2 x3 x4 a b c d e : Value} {K : World → Prop} (hb : Blk w g t [x0, x1, x2, x3, x4])
    (h : ∀ w', w'.heap.size = w.heap.size → Mod (fun k => k = g) w w' → Blk w' g t [a, b, c, d, e] → K w') :
    SetVC w ⟨g, 0, none⟩ a fun w1 => SetVC w1 ⟨g, 1, none⟩ b fun w2 => SetVC w2 ⟨g, 2, none⟩ c fun w3 => SetVC w3 ⟨g, 3, none⟩ d fun w4 => SetVC w4 ⟨g, 4, none⟩ e K := by
  refine SetVC.blk hb (by simp) fun w1 z1 m1 h1 => ?_
  refine SetVC.blk h1 (by simp) fun w2 z2 m2 h2 => ?_
  refine SetVC.blk h2 (by simp) fun w3 z3 m3 h3 => ?_
  refine SetVC.blk h3 (by simp) fun w4 z4 m4 h4 => ?_
  refine SetVC.blk h4 (by simp) fun w5 z5 m5 h5 => ?_
  exact h w5 (by omega) ((((m1.trans m2).trans m3).trans m4).trans m5) h5
/-- An address, by value. -/
structure IPV where
  v : Int
  a0 : Int
  a1 : Int
  a2 : Int
  a3 : Int
  a4 : Int
  a5 : Int
  a6 : Int
  a7 : Int
  a8 : Int
  a9 : Int
  a10 : Int
  a11 : Int
  a12 : Int
  a13 : Int
  a14 : Int
  a15 : Int
def IPV.cells (p : IPV) : List Value := [.int .i64 p.v, .int .u8 p.a0, .int .u8 p.a1, .int .u8 p.a2, .int .u8 p.a3, .int .u8 p.a4, .int .u8 p.a5, .int .u8 p.a6, .int .u8 p.a7, .int .u8 p.a8, .int .u8 p.a9, .int .u8 p.a10, .int .u8 p.a11, .int .u8 p.a12, .int .u8 p.a13, .int .u8 p.a14, .int .u8 p.a15]
def IPV.val (p : IPV) : Value := .agg #[.int .i64 p.v, .int .u8 p.a0, .int .u8 p.a1, .int .u8 p.a2, .int .u8 p.a3, .int .u8 p.a4, .int .u8 p.a5, .int .u8 p.a6, .int .u8 p.a7, .int .u8 p.a8, .int .u8 p.a9, .int .u8 p.a10, .int .u8 p.a11, .int .u8 p.a12, .int .u8 p.a13, .int .u8 p.a14, .int .u8 p.a15]
def IPV.bytes (p : IPV) : List Int := [p.a0, p.a1, p.a2, p.a3, p.a4, p.a5, p.a6, p.a7, p.a8, p.a9, p.a10, p.a11, p.a12, p.a13, p.a14, p.a15]
/-- A message, by value. -/
structure MsgV where
  v : Int
  t : Int
  c : Int
  r : Int
  A : Option Addr
  n : Nat
  k : Nat
def MsgV.cells (m : MsgV) : List Value := [.int .i64 m.v, .int .i64 m.t, .int .i64 m.c, .int .i64 m.r, .slice m.A m.n m.k]
def MsgV.val (m : MsgV) : Value := .agg #[.int .i64 m.v, .int .i64 m.t, .int .i64 m.c, .int .i64 m.r, .slice m.A m.n m.k]
def checkS (m : MsgV) : Int :=
  if m.v ≠ 4 ∧ m.v ≠ 6 then 1 else if m.t < 0 ∨ 255 < m.t ∨ m.c < 0 ∨ 255 < m.c ∨ m.r < 0 ∨ 4294967295 < m.r then 82 else if 65507 < m.n then 2 else 0
end Go.Eng
namespace Go.Proofs.YtjngdcilnipjcaaDoor
open Go.Eng Go.RowKit

section
variable {w : World}
theorem leaf82 {m : MsgV} (h : ¬ (m.v ≠ 4 ∧ m.v ≠ 6)) (h2 : m.t < 0 ∨ 255 < m.t ∨ m.c < 0 ∨ 255 < m.c ∨ m.r < 0 ∨ 4294967295 < m.r) : Ending.returned (.int .i64 82) = .returned (.int .i64 (checkS m)) := by
  unfold checkS; rw [if_neg h, if_pos h2]
theorem check_spec (m : MsgV) (hn : m.n ≤ 140737488355328) : Calls Tryd.prog 24 #[m.val] w fun e w' => Ext w w' ∧ e = .returned (.int .i64 (checkS m)) := by
  refine icmp_Check_of m.v m.t m.c m.r m.A m.n m.k w _ ?_
  unfold icmp_Check_VC
  refine NewVC.blk fun g1 w1 hg1 hz1 hE1 hb1 => ?_
  refine JoinVC.of (fun s w' => w' = w1 ∧ s = decide (m.v ≠ 4 ∧ m.v ≠ 6)) ?_ ?_
  · refine ⟨_, hb1.cell 0, Br.dec (fun h => ⟨_, hb1.cell 0, rfl, ?_⟩) (fun h => ⟨rfl, ?_⟩)⟩
    · simp [h]
    · simp at h; simp [h]
  rintro s w2 ⟨rfl, rfl⟩
  unfold icmp_Check_J12
  refine Br.dec (fun h => ⟨hE1, ?_⟩) (fun h => ?_)
  · unfold checkS; rw [if_pos h]
  refine ⟨_, hb1.cell 1, Br.dec (fun h1 => ⟨hE1, leaf82 h (by omega)⟩) fun h1 => ?_⟩
  refine ⟨_, hb1.cell 1, Br.dec (fun h2 => ⟨hE1, leaf82 h (by omega)⟩) fun h2 => ?_⟩
  refine ⟨_, hb1.cell 2, Br.dec (fun h3 => ⟨hE1, leaf82 h (by omega)⟩) fun h3 => ?_⟩
  refine ⟨_, hb1.cell 2, Br.dec (fun h4 => ⟨hE1, leaf82 h (by omega)⟩) fun h4 => ?_⟩
  refine ⟨_, hb1.cell 3, Br.dec (fun h5 => ⟨hE1, leaf82 h (by omega)⟩) fun h5 => ?_⟩
  refine ⟨_, hb1.cell 3, Br.dec (fun h6 => ⟨hE1, leaf82 h (by omega)⟩) fun h6 => ?_⟩
  refine ⟨_, _, _, hb1.cell 4, ?_⟩
  rw [w64 (by omega) (by omega)]
  refine Br.dec (fun h7 => ⟨hE1, ?_⟩) (fun h7 => ⟨hE1, ?_⟩)
  · unfold checkS; rw [if_neg h, if_neg (by omega), if_pos (by omega)]
  · unfold checkS; rw [if_neg h, if_neg (by omega), if_neg (by omega)]
theorem refCheck8_spec (m : MsgV) : Calls Tryd.prog 28 #[m.val] w fun e w' => Ext w w' ∧ e = .returned (.int .i64 (checkS m)) := by
  refine weirref8_Check_of m.v m.t m.c m.r m.A m.n m.k w _ ?_
  unfold weirref8_Check_VC
  refine NewVC.blk fun g1 w1 hg1 hz1 hE1 hb1 => ?_
  refine JoinVC.of (fun _ w' => w' = w1 ∧ ¬ (m.v ≠ 4 ∧ m.v ≠ 6)) ?_ ?_
  · refine ⟨_, hb1.cell 0, Br.dec (fun h => ⟨_, hb1.cell 0, Br.dec (fun h' => ⟨hE1, ?_⟩) (fun h' => ⟨rfl, ?_⟩)⟩) (fun h => ⟨rfl, ?_⟩)⟩
    · unfold checkS; rw [if_pos ⟨h, h'⟩]
    · exact fun e => h' e.2
    · exact fun e => h e.1
  rintro s w2 ⟨rfl, h⟩
  unfold weirref8_Check_J3
  refine ⟨_, hb1.cell 1, Br.dec (fun h1 => ⟨hE1, leaf82 h (by omega)⟩) fun h1 => ?_⟩
  refine ⟨_, hb1.cell 1, Br.dec (fun h2 => ⟨hE1, leaf82 h (by omega)⟩) fun h2 => ?_⟩
  refine ⟨_, hb1.cell 2, Br.dec (fun h3 => ⟨hE1, leaf82 h (by omega)⟩) fun h3 => ?_⟩
  refine ⟨_, hb1.cell 2, Br.dec (fun h4 => ⟨hE1, leaf82 h (by omega)⟩) fun h4 => ?_⟩
  refine ⟨_, hb1.cell 3, Br.dec (fun h5 => ⟨hE1, leaf82 h (by omega)⟩) fun h5 => ?_⟩
  refine ⟨_, hb1.cell 3, Br.dec (fun h6 => ⟨hE1, leaf82 h (by omega)⟩) fun h6 => ?_⟩
  refine ⟨_, _, _, hb1.cell 4, ?_⟩
  refine Br.dec (fun h7 => ⟨hE1, ?_⟩) (fun h7 => ⟨hE1, ?_⟩)
  · unfold checkS; rw [if_neg h, if_neg (by omega), if_pos (by omega)]
  · unfold checkS; rw [if_neg h, if_neg (by omega), if_neg (by omega)]
theorem widths_spec : Calls Tryd.prog 59 #[] w fun e w' => Ext w w' ∧ ∃ g, w.heap.size ≤ g ∧ e = .returned (.slice (some ⟨g, 0, none⟩) 4 4) ∧ Blk w' g 3 (([8, 8, 16, 32] : List Int).map (.int .i64)) := by
  refine icmp_widths_of w _ ?_
  unfold icmp_widths_VC
  exact NewVC.blk fun g1 w1 hg1 _ hE1 hb1 => ⟨hE1, g1, by omega, rfl, hb1⟩
def echoV : MsgV := ⟨4, 8, 0, 65537, none, 0, 0⟩
theorem echo_spec : Calls Tryd.prog 56 #[] w fun e w' => Ext w w' ∧ e = .returned echoV.val := by
  refine weirlaw8_echo_of w _ ?_
  unfold weirlaw8_echo_VC
  refine NewVC.blk fun g1 w1 hg1 hz1 hE1 hb1 => ?_
  refine set5 hb1 fun w2 hz2 hm2 hb2 => ?_
  exact ⟨_, _, _, _, _, _, _, CellsAt.blk hb2, hE1.set hm2 (by omega), rfl⟩
theorem copied_spec {A : Option Addr} {n c : Nat} {bs : List Int} (hb : Cells w A (bs.map (.int .u8))) (hl : bs.length = n) (hn : n ≤ 100000000) :
    Calls Tryd.prog 15 #[.slice A n c] w fun e w' => Ext w w' ∧ ∃ W wc, e = .returned (.slice W n wc) ∧ w'.ownsRow w.heap.size 5 1 (.slice W n wc) n (bs.map (.int .u8)) := by
  refine weirlaw8_copied_of A n c w _ ?_
  unfold weirlaw8_copied_VC
  refine AppVC.at Tryd.underlying22 tyByte rfl (World.ownsRow_nil _ _ _ _) hb (by simpa using hl) (ints_one _ _) (by omega) (by decide) (Nat.le_refl _) fun W wc w' hown hm _ _ => ?_
  rw [Nat.zero_add] at hown ⊢
  exact ⟨hm.mono fun k _ e => by simp [Value.ownBlock] at e, W, wc, rfl, by simpa using hown⟩
def roomS : List Int := [201, 202, 203, 204, 205]
/-- laid: new memory, the bytes (66000 at most) and five behind them. -/
theorem laid_spec {A : Option Addr} {n c : Nat} {bs : List Int} (hb : Cells w A (bs.map (.int .u8))) (hl : bs.length = n) (hc : n ≤ c) (hn : n ≤ 140737488355328) :
    Calls Tryd.prog 14 #[.slice A n c] w fun e w' => Ext w w' ∧ ∃ W wc, e = .returned (.tuple #[.slice W (bs.take 66000).length wc, .slice W ((bs.take 66000).length + 5) wc]) ∧
      w'.ownsRow w.heap.size 5 1 (.slice W ((bs.take 66000).length + 5) wc) ((bs.take 66000).length + 5) ((bs.take 66000 ++ roomS).map (.int .u8)) := by
  refine weirlaw8_laid_of A n c w _ ?_
  unfold weirlaw8_laid_VC
  refine JoinVC.of (fun s w' => w = w' ∧ ∃ d, s = (A, (bs.take 66000).length, d)) ?_ ?_
  · refine Br.dec (fun h => ?_) (fun h => ?_)
    · refine ⟨by omega, by omega, rfl, c, ?_⟩
      rw [List.length_take]
      have : min 66000 bs.length = (66000 : Int).toNat := by omega
      rw [this]
    · exact ⟨rfl, c, by rw [List.length_take]; have : min 66000 bs.length = n := by omega
                        rw [this]⟩
  rintro _ w1 ⟨rfl, d, rfl⟩
  show weirlaw8_laid_J3 _ A (bs.take 66000).length d w
  unfold weirlaw8_laid_J3
  have hlt : (bs.take 66000).length ≤ 66000 := by rw [List.length_take]; omega
  have hbt : Cells w A ((bs.take 66000).map (.int .u8)) := by have := hb.take 66000; rwa [← List.map_take] at this
  generalize bs.take 66000 = L at hlt hbt ⊢
  refine AppVC.at Tryd.underlying22 tyByte rfl (World.ownsRow_nil _ _ _ _) hbt (by simp) (ints_one _ _) (by omega) (by decide) (Nat.le_refl _) fun W wc w2 hown hm _ _ => ?_
  rw [Nat.zero_add, List.nil_append] at hown
  rw [Nat.zero_add]
  have hE2 : Ext w w2 := hm.mono fun k _ e => by simp [Value.ownBlock] at e
  refine NewVC.blk fun g1 w3 hg1 hz3 hE3 hb3 => ?_
  refine AppVC.at Tryd.underlying22 tyByte rfl (own_ext hown hE3) (by simpa using Cells.of_blk hb3 0) (m := 5) rfl (by intro u hu; simp at hu; rcases hu with rfl | rfl | rfl | rfl | rfl <;> rfl) (by omega) (by decide) (hE2.ext hE3).size fun W2 wc2 w4 hown4 hm4 hc4 _ => ?_
  refine ⟨by omega, by omega, Ext.own (hE2.ext hE3) (own_ext hown hE3) hm4, W2, wc2, ?_, ?_⟩
  · simp
  · rw [List.map_append]; exact hown4
theorem same_spec {A B : Option Addr} {n c m d : Nat} {xs ys : List Int} (hx : Cells w A (xs.map (.int .u8))) (hy : Cells w B (ys.map (.int .u8))) (hn : xs.length = n) (hm : ys.length = m) (hb : n ≤ 4611686018427387904) :
    Calls Tryd.prog 18 #[.slice A n c, .slice B m d] w fun e w' => Ext w w' ∧ e = .returned (.bool (decide (xs = ys))) := by
  refine weirlaw8_same_of A n c B m d w _ ?_
  unfold weirlaw8_same_VC
  refine Br.dec (fun h => ⟨Mod.refl _ _, ?_⟩) (fun h => ?_)
  · rw [decide_eq_false (fun e => h (by rw [← hn, ← hm, e]))]
  refine LoopVC.of (fun s w' => Ext w w' ∧ ∃ i : Nat, s = (i : Int) ∧ i ≤ n ∧ xs.take i = ys.take i) (fun s _ => (n - s).toNat) ⟨Mod.refl _ _, 0, rfl, by omega, by simp⟩ ?_
  rintro _ w1 ⟨hE1, i, rfl, hi, ht⟩
  unfold weirlaw8_same_L58
  refine Br.dec (fun hlt => ?_) (fun hge => ?_)
  · refine DrawVC.of (fun w' => Ext w w') fun w2 hE2 _ => ⟨hE1.ext hE2, ?_⟩
    have hE := hE1.ext hE2
    refine IdxVC.draw (S := fun w' => Ext w w') hE (fun w' hE' => hx.ext hE') (by omega) hlt hn fun a ha => ⟨_, ha, ?_⟩
    refine IdxVC.draw (S := fun w' => Ext w w') hE (fun w' hE' => hy.ext hE') (by omega) (by omega) hm fun a1 ha1 => ⟨_, ha1, ?_⟩
    rw [Int.toNat_natCast]
    refine Br.dec (fun hne => ⟨hE, ?_⟩) (fun heq => ?_)
    · rw [decide_eq_false (fun e => hne (by rw [e]))]
    · rw [w64 (n := (i : Int) + 1) (by omega) (by omega)]
      refine ⟨⟨hE, i + 1, by omega, by omega, ?_⟩, by omega⟩
      rw [take_snocD xs i (by omega), take_snocD ys i (by omega), ht, Decidable.not_not.1 heq]
  · have hin : i = n := by omega
    subst hin
    refine ⟨hE1, ?_⟩
    rw [List.take_of_length_le (by omega), List.take_of_length_le (by omega)] at ht
    rw [decide_eq_true ht]
end
end Go.Proofs.YtjngdcilnipjcaaDoor
