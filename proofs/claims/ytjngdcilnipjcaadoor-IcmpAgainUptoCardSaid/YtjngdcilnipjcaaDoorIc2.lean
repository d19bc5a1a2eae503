/- Layer 8's looks at addresses: the pseudo-headers, both the same; what a message's sum goes over. -/
import Derived.Test.YtjngdcilnipjcaaDoorFld
namespace Go.Eng
open Go Go.RowKit
def tailS (n : Int) : List Int := [0, 0, n / 256, n % 256, 0, 0, 0, 58]
def pseudoL (src dst : IPV) (n : Int) : List Int := src.bytes ++ dst.bytes ++ tailS n
theorem pseudoL_len (src dst : IPV) (n : Int) : (pseudoL src dst n).length = 40 := rfl
theorem pseudoL_bts {src dst : IPV} {n : Int} (hs : Bts src.bytes) (hd : Bts dst.bytes) (h0 : 0 ≤ n) (h1 : n ≤ 65535) : Bts (pseudoL src dst n) := by
  refine (hs.append hd).append fun x hx => ?_
  simp only [tailS, List.mem_cons, List.not_mem_nil, or_false] at hx
  omega
/-- The parts that the document's sum goes over. -/
def overS (v : Int) (src dst : IPV) (bs : List Int) : List Int := if v = 4 then bs else pseudoL src dst bs.length ++ bs
theorem bytes_at {w : World} {g : Nat} {t : TypeId} {p : IPV} (h : Blk w g t p.cells) : Cells w (some ⟨g, 1, none⟩) (p.bytes.map (.int .u8)) := Cells.of_blk h 1
end Go.Eng
namespace Go.Proofs.YtjngdcilnipjcaaDoor
open Go.Eng Go.RowKit

section
variable {w : World}
theorem version6_spec {p : IPV} (h : p.v = 6) : Calls Tryd.prog 115 #[p.val] w fun e w' => Ext w w' ∧ e = .returned (.int .i64 6) := by
  refine sum_version_of p.v p.a0 p.a1 p.a2 p.a3 p.a4 p.a5 p.a6 p.a7 p.a8 p.a9 p.a10 p.a11 p.a12 p.a13 p.a14 p.a15 w _ ?_
  unfold sum_version_VC
  refine NewVC.blk fun g1 w1 hg1 hz1 hE1 hb1 => ?_
  exact ⟨_, hb1.cell 0, Br.yes h ⟨hE1, rfl⟩⟩
theorem refVersion6_spec {p : IPV} (h : p.v = 6) : Calls Tryd.prog 118 #[p.val] w fun e w' => Ext w w' ∧ e = .returned (.int .i64 6) := by
  refine weirref2_version_of p.v p.a0 p.a1 p.a2 p.a3 p.a4 p.a5 p.a6 p.a7 p.a8 p.a9 p.a10 p.a11 p.a12 p.a13 p.a14 p.a15 w _ ?_
  unfold weirref2_version_VC
  refine NewVC.blk fun g1 w1 hg1 hz1 hE1 hb1 => ?_
  exact ⟨_, hb1.cell 0, Br.yes h ⟨hE1, rfl⟩⟩
theorem fdiv_byte {n : Int} (h0 : 0 ≤ n) (h1 : n ≤ 65535) : IntKind.u8.wrap (Int.fdiv n 256) = n / 256 := by
  rw [Int.fdiv_eq_ediv_of_nonneg _ (by decide), wu8 (by omega) (by omega)]
theorem pseudo6_spec {src dst : IPV} {n : Int} (hs : src.v = 6) (hd : dst.v = 6) (h0 : 0 ≤ n) (h1 : n ≤ 65535) :
    Calls Tryd.prog 87 #[src.val, dst.val, .int .i64 58, .int .i64 n] w fun e w' => Ext w w' ∧ ∃ W wc, e = .returned (.tuple #[.slice W 40 wc, .int .i64 0]) ∧
      w'.ownsRow w.heap.size 5 1 (.slice W 40 wc) 40 ((pseudoL src dst n).map (.int .u8)) := by
  refine sum_Pseudo_of src.v src.a0 src.a1 src.a2 src.a3 src.a4 src.a5 src.a6 src.a7 src.a8 src.a9 src.a10 src.a11 src.a12 src.a13 src.a14 src.a15
    dst.v dst.a0 dst.a1 dst.a2 dst.a3 dst.a4 dst.a5 dst.a6 dst.a7 dst.a8 dst.a9 dst.a10 dst.a11 dst.a12 dst.a13 dst.a14 dst.a15 58 n w _ ?_
  unfold sum_Pseudo_VC
  refine NewVC.blk fun g1 w1 hg1 hz1 hE1 hb1 => NewVC.blk fun g2 w2 hg2 hz2 hE2 hb2 => ?_
  have hb1 := hb1.ext hE2
  refine ⟨_, _, _, _, _, _, _, _, _, _, _, _, _, _, _, _, _, CellsAt.blk hb1, ?_⟩
  refine (version6_spec (p := src) hs).mono ?_
  rintro _ w3 ⟨hE3, rfl⟩
  refine ⟨_, rfl, ?_⟩
  refine JoinVC.of (fun s w' => s = false ∧ Ext w3 w') ?_ ?_
  · refine Br.no (by decide) ⟨_, _, _, _, _, _, _, _, _, _, _, _, _, _, _, _, _, CellsAt.blk (hb2.ext hE3), ?_⟩
    refine (version6_spec (p := dst) hd).mono ?_
    rintro _ w4 ⟨hE4, rfl⟩
    exact ⟨_, rfl, rfl, hE4⟩
  rintro s w5 ⟨rfl, hE5⟩
  unfold sum_Pseudo_J28
  have hE25 := hE3.ext hE5
  have hE05 := (hE1.ext hE2).ext hE25
  have c1 := bytes_at (p := src) (hb1.ext hE25)
  have c2 := bytes_at (p := dst) (hb2.ext hE25)
  refine Br.f rfl (Br.no (by decide) (Br.no (by decide) (Br.no (by omega) (Br.no (by omega) (Br.no (by decide) ?_)))))
  refine AppVC.at Tryd.underlying22 tyByte rfl (World.ownsRow_nil _ _ _ _) c1 (by rfl) (ints_one _ _) (by omega) (by decide) (Nat.le_refl _) fun W wc w6 hown6 hm6 _ _ => ?_
  have hE6 : Ext w5 w6 := hm6.mono fun k _ e => by simp [Value.ownBlock] at e
  rw [List.nil_append] at hown6
  refine AppVC.at Tryd.underlying22 tyByte rfl hown6 (c2.ext hE6) (by rfl) (ints_one _ _) (by omega) (by decide) hE6.size fun W2 wc2 w7 hown7 hm7 _ _ => ?_
  have hE7 := Ext.own hE6 hown6 hm7
  refine NewVC.blk fun g3 w8 hg3 hz8 hE8 hb8 => ?_
  have hc8 : Cells w8 (some ⟨g3, 0, none⟩) ((tailS n).map (.int .u8)) := by
    have := Cells.of_blk hb8 0
    rw [fdiv_byte h0 h1, u8_eq] at this
    exact this
  refine AppVC.at Tryd.underlying22 tyByte rfl (own_ext hown7 hE8) hc8 (by rfl) (ints_one _ _) (by omega) (by decide) (hE7.ext hE8).size fun W3 wc3 w9 hown9 hm9 _ _ => ?_
  have hE9 := Ext.own (hE7.ext hE8) (own_ext hown7 hE8) hm9
  refine ⟨hE05.ext hE9, W3, wc3, rfl, ?_⟩
  rw [← List.map_append, ← List.map_append] at hown9
  exact own_base hown9 hE05.size
theorem refPseudo6_spec {src dst : IPV} {n : Int} (hs : src.v = 6) (hd : dst.v = 6) (h0 : 0 ≤ n) (h1 : n ≤ 65535) :
    Calls Tryd.prog 91 #[src.val, dst.val, .int .i64 58, .int .i64 n] w fun e w' => Ext w w' ∧ ∃ W wc, e = .returned (.tuple #[.slice W 40 wc, .int .i64 0]) ∧
      w'.ownsRow w.heap.size 5 1 (.slice W 40 wc) 40 ((pseudoL src dst n).map (.int .u8)) := by
  refine weirref2_Pseudo_of src.v src.a0 src.a1 src.a2 src.a3 src.a4 src.a5 src.a6 src.a7 src.a8 src.a9 src.a10 src.a11 src.a12 src.a13 src.a14 src.a15
    dst.v dst.a0 dst.a1 dst.a2 dst.a3 dst.a4 dst.a5 dst.a6 dst.a7 dst.a8 dst.a9 dst.a10 dst.a11 dst.a12 dst.a13 dst.a14 dst.a15 58 n w _ ?_
  unfold weirref2_Pseudo_VC
  refine NewVC.blk fun g1 w1 hg1 hz1 hE1 hb1 => NewVC.blk fun g2 w2 hg2 hz2 hE2 hb2 => ?_
  have hb1 := hb1.ext hE2
  refine ⟨_, _, _, _, _, _, _, _, _, _, _, _, _, _, _, _, _, CellsAt.blk hb1, ?_⟩
  refine (refVersion6_spec (p := src) hs).mono ?_
  rintro _ w3 ⟨hE3, rfl⟩
  refine ⟨_, rfl, Br.no (by decide) ⟨_, _, _, _, _, _, _, _, _, _, _, _, _, _, _, _, _, CellsAt.blk (hb2.ext hE3), ?_⟩⟩
  refine (refVersion6_spec (p := dst) hd).mono ?_
  rintro _ w4 ⟨hE4, rfl⟩
  refine ⟨_, rfl, Br.no (by decide) (Br.no (by decide) (Br.no (by decide) (Br.no (by omega) (Br.no (by omega) (Br.no (by decide) ?_)))))⟩
  have hE24 := hE3.ext hE4
  have hE04 := (hE1.ext hE2).ext hE24
  have c1 := bytes_at (p := src) (hb1.ext hE24)
  have c2 := bytes_at (p := dst) (hb2.ext hE24)
  refine LoopVC.of (fun s w' => ∃ (i : Nat) (W : Option Addr) (wc : Nat), s = ((W, i, wc), (i : Int)) ∧ i ≤ 16 ∧ Ext w4 w' ∧ w'.ownsRow w4.heap.size 5 1 (.slice W i wc) i ((src.bytes.take i).map (.int .u8))) (fun s _ => (16 - s.2).toNat)
    ⟨0, none, 0, rfl, by omega, Mod.refl _ _, World.ownsRow_nil _ _ _ _⟩ ?_
  rintro _ w5 ⟨i, W, wc, rfl, hi, hE5, hown5⟩
  show weirref2_Pseudo_L1018 _ 58 n g1 g2 W i wc (i : Int) w5 _
  unfold weirref2_Pseudo_L1018
  refine Br.dec (fun hlt => ?_) (fun hge => ?_)
  · refine IdxVC.int (c1.ext hE5) (by omega) (by omega) rfl fun a ha => ⟨_, ha, ?_⟩
    rw [Int.toNat_natCast]
    refine AppVC.one Tryd.underlying22 tyByte rfl hown5 rfl (by omega) (by decide) hE5.size fun W2 wc2 w6 hown6 hm6 _ => ?_
    rw [w64 (n := (i : Int) + 1) (by omega) (by omega)]
    refine ⟨⟨i + 1, W2, wc2, by simp, by omega, Ext.own hE5 hown5 hm6, ?_⟩, by simp only; omega⟩
    rw [take_snocD _ _ (show i < src.bytes.length by show i < 16; omega), List.map_append]; exact hown6
  have hi16 : i = 16 := by omega
  subst hi16
  refine LoopVC.of (fun s w' => ∃ (j : Nat) (W : Option Addr) (wc : Nat), s = ((W, 16 + j, wc), (j : Int)) ∧ j ≤ 16 ∧ Ext w4 w' ∧ w'.ownsRow w4.heap.size 5 1 (.slice W (16 + j) wc) (16 + j) ((src.bytes ++ dst.bytes.take j).map (.int .u8))) (fun s _ => (16 - s.2).toNat)
    ⟨0, W, wc, rfl, by omega, hE5, by rw [List.take_of_length_le (show src.bytes.length ≤ 16 from Nat.le_refl _)] at hown5; simpa using hown5⟩ ?_
  rintro _ w6 ⟨j, W2, wc2, rfl, hj, hE6, hown6⟩
  show weirref2_Pseudo_L2042 _ 58 n g2 W2 (16 + j) wc2 (j : Int) w6 _
  unfold weirref2_Pseudo_L2042
  refine Br.dec (fun hlt => ?_) (fun hge => ?_)
  · refine IdxVC.int (c2.ext hE6) (by omega) (by omega) rfl fun a ha => ⟨_, ha, ?_⟩
    rw [Int.toNat_natCast]
    refine AppVC.one Tryd.underlying22 tyByte rfl hown6 rfl (by omega) (by decide) hE6.size fun W3 wc3 w7 hown7 hm7 _ => ?_
    rw [w64 (n := (j : Int) + 1) (by omega) (by omega)]
    refine ⟨⟨j + 1, W3, wc3, by simp; omega, by omega, Ext.own hE6 hown6 hm7, ?_⟩, by simp only; omega⟩
    rw [take_snocD _ _ (show j < dst.bytes.length by show j < 16; omega), ← List.append_assoc, List.map_append]; exact hown7
  have hj16 : j = 16 := by omega
  subst hj16
  refine NewVC.blk fun g3 w8 hg3 hz8 hE8 hb8 => ?_
  have hc8 : Cells w8 (some ⟨g3, 0, none⟩) ((tailS n).map (.int .u8)) := by
    have := Cells.of_blk hb8 0
    rw [Int.tdiv_eq_ediv_of_nonneg h0, Int.tmod_eq_emod_of_nonneg h0, w64 (n := n / 256) (by omega) (by omega), wu8 (n := n / 256) (by omega) (by omega), wu8 (n := n % 256) (by omega) (by omega)] at this
    exact this
  refine AppVC.at Tryd.underlying22 tyByte rfl (own_ext hown6 hE8) hc8 (by rfl) (ints_one _ _) (by omega) (by decide) (hE6.ext hE8).size fun W3 wc3 w9 hown9 hm9 _ _ => ?_
  have hE9 := Ext.own (hE6.ext hE8) (own_ext hown6 hE8) hm9
  refine ⟨hE04.ext hE9, W3, wc3, rfl, ?_⟩
  rw [← List.map_append] at hown9
  exact own_base hown9 hE04.size
/-- What the sum takes in beside the message; 20: not of one family. -/
theorem pseudo_spec {v : Int} {src dst : IPV} {n : Int} (h0 : 0 ≤ n) (h1 : n ≤ 65535) :
    Calls Tryd.prog 57 #[.int .i64 v, src.val, dst.val, .int .i64 n] w fun e w' => Ext w w' ∧
      ((v = 4 ∧ e = .returned (.tuple #[.slice none 0 0, .int .i64 0])) ∨ (v ≠ 4 ∧ ¬ (src.v = 6 ∧ dst.v = 6) ∧ e = .returned (.tuple #[.slice none 0 0, .int .i64 20])) ∨
       (v ≠ 4 ∧ (src.v = 6 ∧ dst.v = 6) ∧ ∃ W wc, e = .returned (.tuple #[.slice W 40 wc, .int .i64 0]) ∧ w'.ownsRow w.heap.size 5 1 (.slice W 40 wc) 40 ((pseudoL src dst n).map (.int .u8)))) := by
  refine icmp_pseudo_of v src.v src.a0 src.a1 src.a2 src.a3 src.a4 src.a5 src.a6 src.a7 src.a8 src.a9 src.a10 src.a11 src.a12 src.a13 src.a14 src.a15
    dst.v dst.a0 dst.a1 dst.a2 dst.a3 dst.a4 dst.a5 dst.a6 dst.a7 dst.a8 dst.a9 dst.a10 dst.a11 dst.a12 dst.a13 dst.a14 dst.a15 n w _ ?_
  unfold icmp_pseudo_VC
  refine NewVC.blk fun g1 w1 hg1 hz1 hE1 hb1 => NewVC.blk fun g2 w2 hg2 hz2 hE2 hb2 => ?_
  have hb1 := hb1.ext hE2
  have hE := hE1.ext hE2
  refine Br.dec (fun h4 => ⟨hE, .inl ⟨h4, rfl⟩⟩) (fun h4 => ?_)
  refine ⟨_, hb1.cell 0, Br.dec (fun hs => ⟨hE, .inr (.inl ⟨h4, fun e => hs e.1, rfl⟩)⟩) (fun hs => ?_)⟩
  refine ⟨_, hb2.cell 0, Br.dec (fun hd => ⟨hE, .inr (.inl ⟨h4, fun e => hd e.2, rfl⟩)⟩) (fun hd => ?_)⟩
  refine ⟨_, _, _, _, _, _, _, _, _, _, _, _, _, _, _, _, _, CellsAt.blk hb1, _, _, _, _, _, _, _, _, _, _, _, _, _, _, _, _, _, CellsAt.blk hb2, ?_⟩
  refine (pseudo6_spec (src := src) (dst := dst) (Decidable.not_not.1 hs) (Decidable.not_not.1 hd) h0 h1).mono ?_
  rintro _ w3 ⟨hE3, W, wc, rfl, hown⟩
  exact ⟨_, _, _, _, rfl, hE.ext hE3, .inr (.inr ⟨h4, ⟨Decidable.not_not.1 hs, Decidable.not_not.1 hd⟩, W, wc, rfl, own_base hown hE.size⟩)⟩
theorem six_spec {src dst : IPV} : Calls Tryd.prog 61 #[src.val, dst.val] w fun e w' => Ext w w' ∧ e = .returned (.bool (decide (src.v = 6 ∧ dst.v = 6))) := by
  refine weirref8_six_of src.v src.a0 src.a1 src.a2 src.a3 src.a4 src.a5 src.a6 src.a7 src.a8 src.a9 src.a10 src.a11 src.a12 src.a13 src.a14 src.a15
    dst.v dst.a0 dst.a1 dst.a2 dst.a3 dst.a4 dst.a5 dst.a6 dst.a7 dst.a8 dst.a9 dst.a10 dst.a11 dst.a12 dst.a13 dst.a14 dst.a15 w _ ?_
  unfold weirref8_six_VC
  refine NewVC.blk fun g1 w1 hg1 hz1 hE1 hb1 => NewVC.blk fun g2 w2 hg2 hz2 hE2 hb2 => ?_
  refine ⟨_, (hb1.ext hE2).cell 0, Br.dec (fun h => ⟨_, hb2.cell 0, hE1.ext hE2, ?_⟩) (fun h => ⟨hE1.ext hE2, ?_⟩)⟩
  · simp [h]
  · simp [h]
theorem parts_spec {v : Int} {src dst : IPV} {A : Option Addr} {n c : Nat} {bs : List Int} (hb : Cells w A (bs.map (.int .u8))) (hl : bs.length = n) (hB : Bts bs) (hn : n ≤ 65535) (h6 : v ≠ 4 → src.v = 6 ∧ dst.v = 6) (hs : Bts src.bytes) (hd : Bts dst.bytes) :
    Calls Tryd.prog 63 #[.int .i64 v, src.val, dst.val, .slice A n c] w fun e w' => Ext w w' ∧ ∃ g m ps, e = .returned (.slice (some ⟨g, 0, none⟩) m m) ∧ PartsAt w' (some ⟨g, 0, none⟩) ps ∧ ps.length = m ∧ m ≤ 2 ∧ groundS ps = overS v src dst bs := by
  refine weirref8_parts_of v src.v src.a0 src.a1 src.a2 src.a3 src.a4 src.a5 src.a6 src.a7 src.a8 src.a9 src.a10 src.a11 src.a12 src.a13 src.a14 src.a15
    dst.v dst.a0 dst.a1 dst.a2 dst.a3 dst.a4 dst.a5 dst.a6 dst.a7 dst.a8 dst.a9 dst.a10 dst.a11 dst.a12 dst.a13 dst.a14 dst.a15 A n c w _ ?_
  unfold weirref8_parts_VC
  refine NewVC.blk fun g1 w1 hg1 hz1 hE1 hb1 => NewVC.blk fun g2 w2 hg2 hz2 hE2 hb2 => ?_
  have hb1 := hb1.ext hE2
  have hE := hE1.ext hE2
  refine Br.dec (fun h4 => ?_) (fun h4 => ?_)
  · refine NewVC.blk fun g3 w3 hg3 hz3 hE3 hb3 => ?_
    refine ⟨hE.ext hE3, g3, 1, [⟨A, n, c, bs⟩], rfl, ⟨by simpa [PartV.val] using Cells.of_blk hb3 0, fun p hp => ?_⟩, rfl, by decide, by simp [groundS, overS, h4]⟩
    simp only [List.mem_cons, List.not_mem_nil, or_false] at hp
    subst hp
    exact ⟨hb.ext (hE.ext hE3), hl, hB, by show n ≤ 70000; omega⟩
  · refine ⟨_, _, _, _, _, _, _, _, _, _, _, _, _, _, _, _, _, CellsAt.blk hb1, _, _, _, _, _, _, _, _, _, _, _, _, _, _, _, _, _, CellsAt.blk hb2, ?_⟩
    obtain ⟨h6s, h6d⟩ := h6 h4
    refine (refPseudo6_spec (src := src) (dst := dst) (n := (n : Int)) h6s h6d (by omega) (by omega)).mono ?_
    rintro _ w3 ⟨hE3, W, wc, rfl, hown⟩
    refine ⟨_, _, _, _, rfl, ?_⟩
    refine NewVC.blk fun g4 w5 hg4 hz5 hE5 hb5 => ?_
    have hE5' := (hE.ext hE3).ext hE5
    refine ⟨hE5', g4, 2, [⟨W, 40, wc, pseudoL src dst n⟩, ⟨A, n, c, bs⟩], rfl, ⟨by simpa [PartV.val] using Cells.of_blk hb5 0, fun p hp => ?_⟩, rfl, by decide, ?_⟩
    · simp only [List.mem_cons, List.not_mem_nil, or_false] at hp
      rcases hp with rfl | rfl
      · exact ⟨own_cells (own_ext hown hE5), pseudoL_len _ _ _, pseudoL_bts hs hd (by omega) (by omega), by show 40 ≤ 70000; decide⟩
      · exact ⟨hb.ext hE5', hl, hB, by show n ≤ 70000; omega⟩
    · simp only [groundS, overS, if_neg h4, List.map_cons, List.map_nil, List.flatten_cons, List.flatten_nil, List.append_nil, hl]
end
end Go.Proofs.YtjngdcilnipjcaaDoor
