/- Layer 4's Class (the program's): Valid, the masks, the table of nets. -/
import Derived.Test.YtjngdcilnipjcaaDoorVc
import Derived.Test.YtjngdcilnipjcaaDoorIc6
namespace Go.Eng
open Go Go.RowKit
def setsVC (g : Nat) : Nat → List Value → World → (World → Prop) → Prop
  | _, [], w, K => K w
  | i, v :: vs, w, K => SetVC w ⟨g, i, none⟩ v fun w1 => setsVC g (i + 1) vs w1 K
/-- A block of sixteen cells is written from end to end. -/
theorem setAll {g : Nat} {t : TypeId} : ∀ (vs : List Value) (i : Nat) (w : World) (cs : List Value) (K : World → Prop), Blk w g t cs → i + vs.length = cs.length →
    (∀ w', w'.heap.size = w.heap.size → Mod (fun k => k = g) w w' → Blk w' g t (cs.take i ++ vs) → K w') → setsVC g i vs w K
  | [], i, w, cs, K, hb, hl, h => h w rfl (Mod.refl _ _) (by simp at hl; rw [List.append_nil, List.take_of_length_le (by omega)]; exact hb)
  | v :: vs, i, w, cs, K, hb, hl, h => by
    unfold setsVC
    have hl' : i + (vs.length + 1) = cs.length := by simpa using hl
    refine SetVC.blk hb (by omega) fun w1 z1 m1 h1 => ?_
    refine setAll vs (i + 1) w1 _ K h1 (by simp; omega) fun w2 z2 m2 h2 => h w2 (by omega) (m1.trans m2) ?_
    have e : (cs.set i v).take (i + 1) ++ vs = cs.take i ++ v :: vs := by
      rw [List.take_succ_eq_append_getElem (by simp; omega)]
      simp [List.take_set_of_le]
    rw [← e]; exact h2
def IPV.arr (p : IPV) : Value := .agg #[.int .u8 p.a0, .int .u8 p.a1, .int .u8 p.a2, .int .u8 p.a3, .int .u8 p.a4, .int .u8 p.a5, .int .u8 p.a6, .int .u8 p.a7, .int .u8 p.a8, .int .u8 p.a9, .int .u8 p.a10, .int .u8 p.a11, .int .u8 p.a12, .int .u8 p.a13, .int .u8 p.a14, .int .u8 p.a15]
def IPV.row (p : IPV) : List Value := [.int .u8 p.a0, .int .u8 p.a1, .int .u8 p.a2, .int .u8 p.a3, .int .u8 p.a4, .int .u8 p.a5, .int .u8 p.a6, .int .u8 p.a7, .int .u8 p.a8, .int .u8 p.a9, .int .u8 p.a10, .int .u8 p.a11, .int .u8 p.a12, .int .u8 p.a13, .int .u8 p.a14, .int .u8 p.a15]
/-- The first n bits of the i-th byte. -/
def maskB (a n i : Int) : Int := bitv .and .u8 a (IntKind.u8.wrap (Int.fdiv 65280 (2 ^ (min ((IntKind.u64.wrap (if (if 0 < IntKind.i64.wrap (n - IntKind.i64.wrap (8 * i)) then IntKind.i64.wrap (n - IntKind.i64.wrap (8 * i)) else 0) < 8 then (if 0 < IntKind.i64.wrap (n - IntKind.i64.wrap (8 * i)) then IntKind.i64.wrap (n - IntKind.i64.wrap (8 * i)) else 0) else 8)).toNat) 64))))
def maskS (p : IPV) (n : Int) : IPV := ⟨p.v, maskB p.a0 n 0, maskB p.a1 n 1, maskB p.a2 n 2, maskB p.a3 n 3, maskB p.a4 n 4, maskB p.a5 n 5, maskB p.a6 n 6, maskB p.a7 n 7, maskB p.a8 n 8, maskB p.a9 n 9, maskB p.a10 n 10, maskB p.a11 n 11, maskB p.a12 n 12, maskB p.a13 n 13, maskB p.a14 n 14, maskB p.a15 n 15⟩
def sameA (p q : IPV) : Bool := ((decide (p.a0 = q.a0)) && ((decide (p.a1 = q.a1)) && ((decide (p.a2 = q.a2)) && ((decide (p.a3 = q.a3)) && ((decide (p.a4 = q.a4)) && ((decide (p.a5 = q.a5)) && ((decide (p.a6 = q.a6)) && ((decide (p.a7 = q.a7)) && ((decide (p.a8 = q.a8)) && ((decide (p.a9 = q.a9)) && ((decide (p.a10 = q.a10)) && ((decide (p.a11 = q.a11)) && ((decide (p.a12 = q.a12)) && ((decide (p.a13 = q.a13)) && ((decide (p.a14 = q.a14)) && ((decide (p.a15 = q.a15)) && true))))))))))))))))
structure NetV where
  p : IPV
  b : Int
  c : Int
def NetV.cells (n : NetV) : List Value := [.int .i64 n.p.v, .int .u8 n.p.a0, .int .u8 n.p.a1, .int .u8 n.p.a2, .int .u8 n.p.a3, .int .u8 n.p.a4, .int .u8 n.p.a5, .int .u8 n.p.a6, .int .u8 n.p.a7, .int .u8 n.p.a8, .int .u8 n.p.a9, .int .u8 n.p.a10, .int .u8 n.p.a11, .int .u8 n.p.a12, .int .u8 n.p.a13, .int .u8 n.p.a14, .int .u8 n.p.a15, .int .i64 n.b, .int .i64 n.c]
def netsV : List NetV := [⟨⟨4, 0, 0, 0, 0, 0, 0, 0, 0, 0, 0, 0, 0, 0, 0, 0, 0⟩, 32, 1⟩,
  ⟨⟨6, 0, 0, 0, 0, 0, 0, 0, 0, 0, 0, 0, 0, 0, 0, 0, 0⟩, 128, 1⟩,
  ⟨⟨4, 127, 0, 0, 0, 0, 0, 0, 0, 0, 0, 0, 0, 0, 0, 0, 0⟩, 8, 2⟩,
  ⟨⟨6, 0, 0, 0, 0, 0, 0, 0, 0, 0, 0, 0, 0, 0, 0, 0, 1⟩, 128, 2⟩,
  ⟨⟨4, 224, 0, 0, 0, 0, 0, 0, 0, 0, 0, 0, 0, 0, 0, 0, 0⟩, 4, 3⟩,
  ⟨⟨6, 255, 0, 0, 0, 0, 0, 0, 0, 0, 0, 0, 0, 0, 0, 0, 0⟩, 8, 3⟩,
  ⟨⟨4, 169, 254, 0, 0, 0, 0, 0, 0, 0, 0, 0, 0, 0, 0, 0, 0⟩, 16, 4⟩,
  ⟨⟨6, 254, 128, 0, 0, 0, 0, 0, 0, 0, 0, 0, 0, 0, 0, 0, 0⟩, 10, 4⟩,
  ⟨⟨4, 255, 255, 255, 255, 0, 0, 0, 0, 0, 0, 0, 0, 0, 0, 0, 0⟩, 32, 5⟩,
  ⟨⟨4, 0, 0, 0, 0, 0, 0, 0, 0, 0, 0, 0, 0, 0, 0, 0, 0⟩, 8, 6⟩,
  ⟨⟨4, 240, 0, 0, 0, 0, 0, 0, 0, 0, 0, 0, 0, 0, 0, 0, 0⟩, 4, 6⟩,
  ⟨⟨6, 0, 0, 0, 0, 0, 0, 0, 0, 0, 0, 0, 0, 0, 0, 0, 0⟩, 8, 6⟩]
/-- What the table's memory reads. -/
def netsL : List Value := [.int .i64 4, .int .u8 0, .int .u8 0, .int .u8 0, .int .u8 0, .int .u8 0, .int .u8 0, .int .u8 0, .int .u8 0, .int .u8 0, .int .u8 0, .int .u8 0, .int .u8 0, .int .u8 0, .int .u8 0, .int .u8 0, .int .u8 0, .int .i64 32, .int .i64 1, .int .i64 6, .int .u8 0, .int .u8 0, .int .u8 0, .int .u8 0, .int .u8 0, .int .u8 0, .int .u8 0, .int .u8 0, .int .u8 0, .int .u8 0, .int .u8 0, .int .u8 0, .int .u8 0, .int .u8 0, .int .u8 0, .int .u8 0, .int .i64 128, .int .i64 1, .int .i64 4, .int .u8 127, .int .u8 0, .int .u8 0, .int .u8 0, .int .u8 0, .int .u8 0, .int .u8 0, .int .u8 0, .int .u8 0, .int .u8 0, .int .u8 0, .int .u8 0, .int .u8 0, .int .u8 0, .int .u8 0, .int .u8 0, .int .i64 8, .int .i64 2, .int .i64 6, .int .u8 0, .int .u8 0, .int .u8 0, .int .u8 0, .int .u8 0, .int .u8 0, .int .u8 0, .int .u8 0, .int .u8 0, .int .u8 0, .int .u8 0, .int .u8 0, .int .u8 0, .int .u8 0, .int .u8 0, .int .u8 1, .int .i64 128, .int .i64 2, .int .i64 4, .int .u8 224, .int .u8 0, .int .u8 0, .int .u8 0, .int .u8 0, .int .u8 0, .int .u8 0, .int .u8 0, .int .u8 0, .int .u8 0, .int .u8 0, .int .u8 0, .int .u8 0, .int .u8 0, .int .u8 0, .int .u8 0, .int .i64 4, .int .i64 3, .int .i64 6, .int .u8 255, .int .u8 0, .int .u8 0, .int .u8 0, .int .u8 0, .int .u8 0, .int .u8 0, .int .u8 0, .int .u8 0, .int .u8 0, .int .u8 0, .int .u8 0, .int .u8 0, .int .u8 0, .int .u8 0, .int .u8 0, .int .i64 8, .int .i64 3, .int .i64 4, .int .u8 169, .int .u8 254, .int .u8 0, .int .u8 0, .int .u8 0, .int .u8 0, .int .u8 0, .int .u8 0, .int .u8 0, .int .u8 0, .int .u8 0, .int .u8 0, .int .u8 0, .int .u8 0, .int .u8 0, .int .u8 0, .int .i64 16, .int .i64 4, .int .i64 6, .int .u8 254, .int .u8 128, .int .u8 0, .int .u8 0, .int .u8 0, .int .u8 0, .int .u8 0, .int .u8 0, .int .u8 0, .int .u8 0, .int .u8 0, .int .u8 0, .int .u8 0, .int .u8 0, .int .u8 0, .int .u8 0, .int .i64 10, .int .i64 4, .int .i64 4, .int .u8 255, .int .u8 255, .int .u8 255, .int .u8 255, .int .u8 0, .int .u8 0, .int .u8 0, .int .u8 0, .int .u8 0, .int .u8 0, .int .u8 0, .int .u8 0, .int .u8 0, .int .u8 0, .int .u8 0, .int .u8 0, .int .i64 32, .int .i64 5, .int .i64 4, .int .u8 0, .int .u8 0, .int .u8 0, .int .u8 0, .int .u8 0, .int .u8 0, .int .u8 0, .int .u8 0, .int .u8 0, .int .u8 0, .int .u8 0, .int .u8 0, .int .u8 0, .int .u8 0, .int .u8 0, .int .u8 0, .int .i64 8, .int .i64 6, .int .i64 4, .int .u8 240, .int .u8 0, .int .u8 0, .int .u8 0, .int .u8 0, .int .u8 0, .int .u8 0, .int .u8 0, .int .u8 0, .int .u8 0, .int .u8 0, .int .u8 0, .int .u8 0, .int .u8 0, .int .u8 0, .int .u8 0, .int .i64 4, .int .i64 6, .int .i64 6, .int .u8 0, .int .u8 0, .int .u8 0, .int .u8 0, .int .u8 0, .int .u8 0, .int .u8 0, .int .u8 0, .int .u8 0, .int .u8 0, .int .u8 0, .int .u8 0, .int .u8 0, .int .u8 0, .int .u8 0, .int .u8 0, .int .i64 8, .int .i64 6]
def matchS (p : IPV) (n : NetV) : Bool := decide (n.p.v = p.v) && sameA (maskS p n.b) n.p
def sizeS (p : IPV) : Int := if p.v = 6 then 128 else if p.v ≠ 4 then 0 else if ((decide (p.a4 = 0)) && ((decide (p.a5 = 0)) && ((decide (p.a6 = 0)) && ((decide (p.a7 = 0)) && ((decide (p.a8 = 0)) && ((decide (p.a9 = 0)) && ((decide (p.a10 = 0)) && ((decide (p.a11 = 0)) && ((decide (p.a12 = 0)) && ((decide (p.a13 = 0)) && ((decide (p.a14 = 0)) && ((decide (p.a15 = 0)) && true)))))))))))) then 32 else 0
def classP (p : IPV) : Int := if 0 < sizeS p then (match netsV.find? (matchS p) with | some n => n.c | none => 7) else 0
theorem nets_len : netsV.length = 12 := rfl
theorem nets_at : ∀ i : Nat, (h : i < 12) → (netsL.drop (i * 19)).take 19 = (netsV[i]'(by rw [nets_len]; exact h)).cells
  | 0, _ => rfl
  | 1, _ => rfl
  | 2, _ => rfl
  | 3, _ => rfl
  | 4, _ => rfl
  | 5, _ => rfl
  | 6, _ => rfl
  | 7, _ => rfl
  | 8, _ => rfl
  | 9, _ => rfl
  | 10, _ => rfl
  | 11, _ => rfl
  | i + 12, h => absurd h (by omega)
theorem find_step {p : IPV} {i : Nat} (hi : i < 12) (hno : ∀ j, j < i → matchS p (netsV.getD j ⟨⟨0, 0, 0, 0, 0, 0, 0, 0, 0, 0, 0, 0, 0, 0, 0, 0, 0⟩, 0, 0⟩) = false) (h : matchS p (netsV[i]'(by rw [nets_len]; exact hi)) = true) :
    netsV.find? (matchS p) = some (netsV[i]'(by rw [nets_len]; exact hi)) := by
  rw [List.find?_eq_some_iff_getElem]
  refine ⟨h, i, by rw [nets_len]; exact hi, rfl, fun j hj => ?_⟩
  have := hno j hj
  rw [List.getD_eq_getElem?_getD, List.getElem?_eq_getElem (by rw [nets_len]; omega)] at this
  simpa using this
theorem find_none {p : IPV} (hno : ∀ j, j < 12 → matchS p (netsV.getD j ⟨⟨0, 0, 0, 0, 0, 0, 0, 0, 0, 0, 0, 0, 0, 0, 0, 0, 0⟩, 0, 0⟩) = false) : netsV.find? (matchS p) = none := by
  rw [List.find?_eq_none]
  intro x hx
  obtain ⟨j, hj, rfl⟩ := List.mem_iff_getElem.1 hx
  have := hno j (by rw [nets_len] at hj; exact hj)
  rw [List.getD_eq_getElem?_getD, List.getElem?_eq_getElem hj] at this
  simpa using this
end Go.Eng
namespace Go.Proofs.YtjngdcilnipjcaaDoor
namespace Nd
open Go.Eng Go.RowKit
def Tab (w : World) : Prop := CellsAt w ⟨2, 0, none⟩ 0 netsL
theorem Tab.ext {w w' : World} (h : Tab w) (hE : Ext w w') : Tab w' := CellsAt.ext hE h
section
variable {w : World}
theorem size_spec (p : IPV) : Calls Tryd.prog 122 #[p.val] w fun e w' => Ext w w' ∧ e = .returned (.int .i64 (sizeS p)) := by
  refine addr_size_of p.v p.a0 p.a1 p.a2 p.a3 p.a4 p.a5 p.a6 p.a7 p.a8 p.a9 p.a10 p.a11 p.a12 p.a13 p.a14 p.a15 w _ ?_
  unfold addr_size_VC
  refine NewVC.blk fun g1 w1 hg1 hz1 hE1 hb1 => ?_
  have hb1 : Blk w1 g1 _ p.cells := hb1
  refine ⟨_, hb1.cell 0, Br.dec (fun h => ⟨hE1, ?_⟩) fun h => ?_⟩
  · unfold sizeS; rw [if_pos h]
  refine ⟨_, hb1.cell 0, Br.dec (fun h4 => ⟨hE1, ?_⟩) fun h4 => ?_⟩
  · unfold sizeS; rw [if_neg h, if_pos h4]
  refine ⟨by decide, by decide, ?_⟩
  refine ⟨by decide, _, rfl, ?_⟩
  refine ⟨_, _, _, _, _, _, _, _, _, _, _, _, CellsAt.part (g := g1) hb1 5 (ds := p.cells.drop 5) (es := []) rfl, ?_⟩
  have e : sizeS p = if ((decide (p.a4 = 0)) && ((decide (p.a5 = 0)) && ((decide (p.a6 = 0)) && ((decide (p.a7 = 0)) && ((decide (p.a8 = 0)) && ((decide (p.a9 = 0)) && ((decide (p.a10 = 0)) && ((decide (p.a11 = 0)) && ((decide (p.a12 = 0)) && ((decide (p.a13 = 0)) && ((decide (p.a14 = 0)) && ((decide (p.a15 = 0)) && true)))))))))))) then 32 else 0 := by unfold sizeS; rw [if_neg h, if_neg h4]
  cases hc : ((decide (p.a4 = 0)) && ((decide (p.a5 = 0)) && ((decide (p.a6 = 0)) && ((decide (p.a7 = 0)) && ((decide (p.a8 = 0)) && ((decide (p.a9 = 0)) && ((decide (p.a10 = 0)) && ((decide (p.a11 = 0)) && ((decide (p.a12 = 0)) && ((decide (p.a13 = 0)) && ((decide (p.a14 = 0)) && ((decide (p.a15 = 0)) && true)))))))))))) with
  | true => exact Br.f (by rfl) ⟨hE1, by rw [e, if_pos hc]⟩
  | false => exact Br.t (by rfl) ⟨hE1, by rw [e, if_neg (by rw [hc]; decide)]⟩
theorem Valid_spec (p : IPV) : Calls Tryd.prog 98 #[p.val] w fun e w' => Ext w w' ∧ e = .returned (.bool (decide (0 < sizeS p))) := by
  refine addr_Valid_of p.v p.a0 p.a1 p.a2 p.a3 p.a4 p.a5 p.a6 p.a7 p.a8 p.a9 p.a10 p.a11 p.a12 p.a13 p.a14 p.a15 w _ ?_
  unfold addr_Valid_VC
  refine NewVC.blk fun g1 w1 hg1 hz1 hE1 hb1 => ?_
  refine ⟨_, _, _, _, _, _, _, _, _, _, _, _, _, _, _, _, _, CellsAt.blk hb1, ?_⟩
  refine (size_spec p).mono ?_
  rintro _ w2 ⟨hE2, rfl⟩
  exact ⟨_, rfl, hE1.ext hE2, rfl⟩
theorem masked_spec (p : IPV) (n : Int) (_ : 0 ≤ n ∧ n ≤ 128) : Calls Tryd.prog 99 #[p.arr, .int .i64 n] w fun e w' => Ext w w' ∧ e = .returned (maskS p n).arr := by
  refine addr_masked_of p.a0 p.a1 p.a2 p.a3 p.a4 p.a5 p.a6 p.a7 p.a8 p.a9 p.a10 p.a11 p.a12 p.a13 p.a14 p.a15 n w _ ?_
  unfold addr_masked_VC
  refine NewVC.blk fun g1 w1 hg1 hz1 hE1 hb1 => NewVC.blk fun g2 w2 hg2 hz2 hE2 hb2 => NewVC.blk fun g3 w3 hg3 hz3 hE3 hb3 => ?_
  have hb1 : Cells w3 (some ⟨g1, 0, none⟩) (p.bytes.map (.int .u8)) := ((Cells.of_blk hb1 0).ext hE2).ext hE3
  have hb2 := hb2.ext hE3
  have hE := (hE1.ext hE2).ext hE3
  refine LoopVC.of (fun s w' => Mod (fun k => k = g3) w3 w' ∧ ∃ i : Nat, s = (i : Int) ∧ i ≤ 16 ∧ Blk w' g3 29 ((maskS p n).row.take i ++ List.replicate (16 - i) (.int .u8 0))) (fun s _ => (16 - s).toNat) ?_ ?_
  · exact ⟨Mod.refl _ _, 0, rfl, by omega, hb3⟩
  rintro _ w4 ⟨hm4, i, rfl, hi, hb4⟩
  show addr_masked_L58 _ n g1 g2 g3 (i : Int) w4 _
  unfold addr_masked_L58
  have hlen : ((maskS p n).row.take i ++ List.replicate (16 - i) (Value.int .u8 0)).length = 16 := by simp [IPV.row]; omega
  refine Br.dec (fun hlt => ?_) (fun hge => ?_)
  · have hlt : i < 16 := by omega
    refine IdxVC.int (hb1.mod hm4 fun a ha _ => by cases ha; show ¬ g1 = g3; omega) (by omega) (by omega) rfl fun a ha => ⟨_, ha, ?_⟩
    refine ⟨by rw [u64_eq]; omega, ?_⟩
    refine IdxVC.blk (by omega) (by omega) ?_
    refine SetVC.blk hb4 (by omega) fun w5 z5 m5 hb5 => ?_
    have e1 : IntKind.i64.wrap ((i : Int) + 1) = ((i + 1 : Nat) : Int) := by rw [w64 (by omega) (by omega)]; omega
    rw [e1]
    refine ⟨⟨hm4.trans m5, i + 1, rfl, by omega, ?_⟩, by omega⟩
    have e2 : ((maskS p n).row.take i ++ List.replicate (16 - i) (Value.int .u8 0)).set i (Value.int .u8 (maskB (p.bytes.getD i 0) n i)) = (maskS p n).row.take (i + 1) ++ List.replicate (16 - (i + 1)) (.int .u8 0) := by
      match i, hlt with
      | 0, _ => rfl
      | 1, _ => rfl
      | 2, _ => rfl
      | 3, _ => rfl
      | 4, _ => rfl
      | 5, _ => rfl
      | 6, _ => rfl
      | 7, _ => rfl
      | 8, _ => rfl
      | 9, _ => rfl
      | 10, _ => rfl
      | 11, _ => rfl
      | 12, _ => rfl
      | 13, _ => rfl
      | 14, _ => rfl
      | 15, _ => rfl
      | k + 16, h => exact absurd h (by omega)
    rw [← e2]
    exact hb5
  · have he : i = 16 := by omega
    subst he
    have hb4 : Blk w4 g3 _ (maskS p n).row := hb4
    refine ⟨_, _, _, _, _, _, _, _, _, _, _, _, _, _, _, _, CellsAt.blk hb4, ?_⟩
    refine setAll (maskS p n).row 0 w4 _ _ ((hb2.mod hm4 (by show ¬ g2 = g3; omega))) rfl fun w' hz hm hb' => ?_
    exact ⟨_, _, _, _, _, _, _, _, _, _, _, _, _, _, _, _, CellsAt.blk hb', (hE.set hm4 (by omega)).set hm (by omega), rfl⟩
set_option maxRecDepth 20000 in
set_option maxHeartbeats 2000000 in
theorem Class_loop (p : IPV) {g1 : Nat} {w1 : World} {R : Ending → World → Prop} (hb1 : Blk w1 g1 31 p.cells) (hs : 0 < sizeS p) (hR : ∀ w', Ext w1 w' → R (.returned (.int .i64 (classP p))) w') :
    LoopVC (S := Int) (fun s w3 K58 => addr_Class_L58 R g1 4 0 0 0 0 0 0 0 0 0 0 0 0 0 0 0 0 32 1 6 0 0 0 0 0 0 0 0 0 0 0 0 0 0 0 0 128 1 4 127 0 0 0 0 0 0 0 0 0 0 0 0 0 0 0 8 2 6 0 0 0 0 0 0 0 0 0 0 0 0 0 0 0 1 128 2 4 224 0 0 0 0 0 0 0 0 0 0 0 0 0 0 0 4 3 6 255 0 0 0 0 0 0 0 0 0 0 0 0 0 0 0 8 3 4 169 254 0 0 0 0 0 0 0 0 0 0 0 0 0 0 16 4 6 254 128 0 0 0 0 0 0 0 0 0 0 0 0 0 0 10 4 4 255 255 255 255 0 0 0 0 0 0 0 0 0 0 0 0 32 5 4 0 0 0 0 0 0 0 0 0 0 0 0 0 0 0 0 8 6 4 240 0 0 0 0 0 0 0 0 0 0 0 0 0 0 0 4 6 6 0 0 0 0 0 0 0 0 0 0 0 0 0 0 0 0 8 6 s w3 K58) 0 w1 := by
  refine LoopVC.of (fun s w' => Ext w1 w' ∧ ∃ i : Nat, s = (i : Int) ∧ i ≤ 12 ∧ ∀ j, j < i → matchS p (netsV.getD j ⟨⟨0, 0, 0, 0, 0, 0, 0, 0, 0, 0, 0, 0, 0, 0, 0, 0, 0⟩, 0, 0⟩) = false) (fun s _ => (12 - s).toNat) ⟨Mod.refl _ _, 0, rfl, by omega, fun _ h => absurd h (by omega)⟩ ?_
  rintro _ w3 ⟨hE3, i, rfl, hi, hno⟩
  unfold addr_Class_L58
  have hcl : classP p = (match netsV.find? (matchS p) with | some n => n.c | none => 7) := by unfold classP; rw [if_pos hs]
  refine Br.dec (fun hlt => ?_) (fun hge => ?_)
  · have hlt : i < 12 := by omega
    obtain ⟨N, hN⟩ : ∃ N, N = (netsV[i]'(by rw [nets_len]; exact hlt)) := ⟨_, rfl⟩
    have hat := nets_at i hlt
    rw [← hN] at hat
    have hgd : netsV.getD i ⟨⟨0, 0, 0, 0, 0, 0, 0, 0, 0, 0, 0, 0, 0, 0, 0, 0, 0⟩, 0, 0⟩ = N := by
      rw [List.getD_eq_getElem?_getD, List.getElem?_eq_getElem (by rw [nets_len]; omega), hN]; rfl
    have hbits : 0 ≤ N.b ∧ N.b ≤ 128 := by
      have : ∀ n ∈ netsV, 0 ≤ n.b ∧ n.b ≤ 128 := by decide
      exact this N (by rw [hN]; exact List.getElem_mem _)
    have next : ∀ w', Ext w1 w' → matchS p N = false → (Ext w1 w' ∧ ∃ i' : Nat, IntKind.i64.wrap ((i : Int) + 1) = (i' : Int) ∧ i' ≤ 12 ∧ ∀ j, j < i' → matchS p (netsV.getD j ⟨⟨0, 0, 0, 0, 0, 0, 0, 0, 0, 0, 0, 0, 0, 0, 0, 0, 0⟩, 0, 0⟩) = false) ∧ (12 - IntKind.i64.wrap ((i : Int) + 1)).toNat < (12 - (i : Int)).toNat := fun w' hE' hm => by
      have e1 : IntKind.i64.wrap ((i : Int) + 1) = ((i + 1 : Nat) : Int) := by rw [w64 (by omega) (by omega)]; omega
      rw [e1]
      refine ⟨⟨hE', i + 1, rfl, by omega, fun j hj => ?_⟩, by omega⟩
      rcases Nat.lt_or_ge j i with h | h
      · exact hno j h
      · have : j = i := by omega
        subst this
        rw [hgd]; exact hm
    refine ⟨N.p.v, N.p.a0, N.p.a1, N.p.a2, N.p.a3, N.p.a4, N.p.a5, N.p.a6, N.p.a7, N.p.a8, N.p.a9, N.p.a10, N.p.a11, N.p.a12, N.p.a13, N.p.a14, N.p.a15, N.b, N.c, ⟨by omega, by omega, hat⟩, ?_⟩
    refine NewVC.blk fun g2 w4 hg2 hz4 hE4 hb4 => ?_
    have s3 := hE3.size
    have hg1 := hb1.lt
    refine setAll N.cells 0 w4 _ _ hb4 rfl fun w5 hz5 hm5 hb5 => ?_
    have hb5 : Blk w5 g2 _ N.cells := hb5
    have hE5 : Ext w1 w5 := (hE3.ext hE4).set hm5 (by omega)
    have hb15 := hb1.ext hE5
    refine DrawVC.of (fun w' => Ext w5 w') fun w6 hE6 _ => ⟨hE6, ?_⟩
    refine ⟨_, fun w' h => (hb5.ext h).cell 0, _, fun w' h => (hb15.ext h).cell 0, Br.dec (fun hv => ?_) (fun hv => ?_)⟩
    · refine ⟨_, _, _, _, _, _, _, _, _, _, _, _, _, _, _, _, fun w' h => CellsAt.part (hb15.ext h) 1 (ds := p.row) (es := []) rfl, _, fun w' h => (hb5.ext h).cell 17, _, _, _, _, _, _, _, _, _, _, _, _, _, _, _, _, fun w' h => CellsAt.part (hb5.ext h) 1 (ds := N.p.row) (es := N.cells.drop 17) rfl, ?_⟩
      refine (masked_spec p N.b hbits).mono ?_
      rintro _ w7 ⟨hE7, rfl⟩
      refine ⟨_, _, _, _, _, _, _, _, _, _, _, _, _, _, _, _, rfl, hE6.ext hE7, ?_⟩
      have hEn := hE5.ext (hE6.ext hE7)
      have hm : matchS p N = sameA (maskS p N.b) N.p := by unfold matchS; rw [decide_eq_true hv, Bool.true_and]
      cases hsame : sameA (maskS p N.b) N.p with
      | true =>
        refine Br.t hsame ⟨_, (hb5.ext (hE6.ext hE7)).cell 18, ?_⟩
        have := hR w7 hEn
        rw [hcl, find_step hlt hno (by rw [← hN, hm, hsame])] at this
        rw [hN]; exact this
      | false => exact Br.f hsame (next w7 hEn (by rw [hm, hsame]))
    · exact next w6 (hE5.ext hE6) (by unfold matchS; rw [decide_eq_false hv, Bool.false_and])
  · have : i = 12 := by omega
    subst this
    have := hR w3 hE3
    rw [hcl, find_none hno] at this
    exact this
set_option maxRecDepth 20000 in
set_option maxHeartbeats 1000000 in
theorem Class_spec (p : IPV) (hT : Tab w) : Calls Tryd.prog 72 #[p.val] w fun e w' => Ext w w' ∧ e = .returned (.int .i64 (classP p)) := by
  refine addr_Class_of p.v p.a0 p.a1 p.a2 p.a3 p.a4 p.a5 p.a6 p.a7 p.a8 p.a9 p.a10 p.a11 p.a12 p.a13 p.a14 p.a15 w _ ?_
  unfold addr_Class_VC
  refine NewVC.blk fun g1 w1 hg1 hz1 hE1 hb1 => ?_
  have hb1 : Blk w1 g1 31 p.cells := hb1
  refine ⟨_, _, _, _, _, _, _, _, _, _, _, _, _, _, _, _, _, CellsAt.blk hb1, ?_⟩
  refine (Valid_spec p).mono ?_
  rintro _ w2 ⟨hE2, rfl⟩
  have hE := hE1.ext hE2
  refine ⟨_, rfl, ?_⟩
  by_cases hs : 0 < sizeS p
  · refine Br.f (by simp [hs]) ?_
    refine ⟨4, 0, 0, 0, 0, 0, 0, 0, 0, 0, 0, 0, 0, 0, 0, 0, 0, 32, 1, 6, 0, 0, 0, 0, 0, 0, 0, 0, 0, 0, 0, 0, 0, 0, 0, 0, 128, 1, 4, 127, 0, 0, 0, 0, 0, 0, 0, 0, 0, 0, 0, 0, 0, 0, 0, 8, 2, 6, 0, 0, 0, 0, 0, 0, 0, 0, 0, 0, 0, 0, 0, 0, 0, 1, 128, 2, 4, 224, 0, 0, 0, 0, 0, 0, 0, 0, 0, 0, 0, 0, 0, 0, 0, 4, 3, 6, 255, 0, 0, 0, 0, 0, 0, 0, 0, 0, 0, 0, 0, 0, 0, 0, 8, 3, 4, 169, 254, 0, 0, 0, 0, 0, 0, 0, 0, 0, 0, 0, 0, 0, 0, 16, 4, 6, 254, 128, 0, 0, 0, 0, 0, 0, 0, 0, 0, 0, 0, 0, 0, 0, 10, 4, 4, 255, 255, 255, 255, 0, 0, 0, 0, 0, 0, 0, 0, 0, 0, 0, 0, 32, 5, 4, 0, 0, 0, 0, 0, 0, 0, 0, 0, 0, 0, 0, 0, 0, 0, 0, 8, 6, 4, 240, 0, 0, 0, 0, 0, 0, 0, 0, 0, 0, 0, 0, 0, 0, 0, 4, 6, 6, 0, 0, 0, 0, 0, 0, 0, 0, 0, 0, 0, 0, 0, 0, 0, 0, 8, 6, hT.ext hE, ?_⟩
    exact Class_loop p (hb1.ext hE2) hs fun w' hE' => ⟨hE.ext hE', rfl⟩
  · refine Br.t (by simp [hs]) ⟨hE, ?_⟩
    unfold classP; rw [if_neg hs]
theorem noTarget_spec (p : IPV) (hT : Tab w) : Calls Tryd.prog 47 #[p.val] w fun e w' => Ext w w' ∧ e = .returned (.bool (decide (classP p = 3 ∨ classP p = 1))) := by
  refine icmp_noTarget_of p.v p.a0 p.a1 p.a2 p.a3 p.a4 p.a5 p.a6 p.a7 p.a8 p.a9 p.a10 p.a11 p.a12 p.a13 p.a14 p.a15 w _ ?_
  unfold icmp_noTarget_VC
  refine NewVC.blk fun g1 w1 hg1 hz1 hE1 hb1 => ?_
  refine ⟨_, _, _, _, _, _, _, _, _, _, _, _, _, _, _, _, _, CellsAt.blk hb1, ?_⟩
  refine (Class_spec p (hT.ext hE1)).mono ?_
  rintro _ w2 ⟨hE2, rfl⟩
  refine ⟨_, rfl, Br.dec (fun h => ⟨hE1.ext hE2, ?_⟩) fun h => ⟨hE1.ext hE2, ?_⟩⟩
  · simp [h]
  · simp [h]
end
end Nd
end Go.Proofs.YtjngdcilnipjcaaDoor
