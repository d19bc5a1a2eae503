/- Neighbour discovery by value; what PutND (the program's) makes of it. -/
import Derived.Test.YtjngdcilnipjcaaGreatDoorBw
namespace Go.Eng
open Go Go.RowKit
structure NDV where
 kind : Int
 p : IPV
 r : Bool
 s : Bool
 o : Bool
 h : Bool
 m0 : Int
 m1 : Int
 m2 : Int
 m3 : Int
 m4 : Int
 m5 : Int
def NDV.cells (n : NDV) : List Value := [.int .i64 n.kind, .int .i64 n.p.v, .int .u8 n.p.a0, .int .u8 n.p.a1, .int .u8 n.p.a2, .int .u8 n.p.a3, .int .u8 n.p.a4, .int .u8 n.p.a5, .int .u8 n.p.a6, .int .u8 n.p.a7, .int .u8 n.p.a8, .int .u8 n.p.a9, .int .u8 n.p.a10, .int .u8 n.p.a11, .int .u8 n.p.a12, .int .u8 n.p.a13, .int .u8 n.p.a14, .int .u8 n.p.a15, .bool n.r, .bool n.s, .bool n.o, .bool n.h, .int .u8 n.m0, .int .u8 n.m1, .int .u8 n.m2, .int .u8 n.m3, .int .u8 n.m4, .int .u8 n.m5]
def NDV.val (n : NDV) : Value := .agg #[.int .i64 n.kind, .int .i64 n.p.v, .int .u8 n.p.a0, .int .u8 n.p.a1, .int .u8 n.p.a2, .int .u8 n.p.a3, .int .u8 n.p.a4, .int .u8 n.p.a5, .int .u8 n.p.a6, .int .u8 n.p.a7, .int .u8 n.p.a8, .int .u8 n.p.a9, .int .u8 n.p.a10, .int .u8 n.p.a11, .int .u8 n.p.a12, .int .u8 n.p.a13, .int .u8 n.p.a14, .int .u8 n.p.a15, .bool n.r, .bool n.s, .bool n.o, .bool n.h, .int .u8 n.m0, .int .u8 n.m1, .int .u8 n.m2, .int .u8 n.m3, .int .u8 n.m4, .int .u8 n.m5]
def NDV.mac (n : NDV) : List Int := [n.m0, n.m1, n.m2, n.m3, n.m4, n.m5]
def macZ (n : NDV) : Bool := ((decide (n.m0 = 0)) && ((decide (n.m1 = 0)) && ((decide (n.m2 = 0)) && ((decide (n.m3 = 0)) && ((decide (n.m4 = 0)) && ((decide (n.m5 = 0)) && true))))))
def badND (n : NDV) : Bool := (decide (n.kind ≠ 1) && decide (n.kind ≠ 2)) || ((decide (n.kind = 1) && (n.r || (n.s || n.o))) || (!n.h && !macZ n))
def restND (n : NDV) : Int := (if n.r then 2147483648 else 0) + (if n.s then 1073741824 else 0) + (if n.o then 536870912 else 0)
def dataND (n : NDV) : List Int := n.p.bytes ++ (if n.h then [n.kind, 1] ++ n.mac else [])
def putE (n : NDV) : Int := if badND n then 1 else if targetS n.p then 0 else 86
def putM (n : NDV) (A : Option Addr) (k : Nat) : MsgV := if putE n = 0 then ⟨6, 134 + n.kind, 0, restND n, A, (dataND n).length, k⟩ else ⟨0, 0, 0, 0, A, 0, k⟩
def putD (n : NDV) : List Int := if putE n = 0 then dataND n else []
theorem badND_kind {n : NDV} (h : badND n = false) : n.kind = 1 ∨ n.kind = 2 := by
 unfold badND at h
 simp at h
 have := h.1
 omega
theorem putE_zero {n : NDV} (h : putE n = 0) : badND n = false ∧ targetS n.p = true := by
 unfold putE at h
 cases hb : badND n with
 | true => rw [hb] at h; simp at h
 | false =>
  rw [hb] at h
  cases ht : targetS n.p with
  | true => exact ⟨rfl, rfl⟩
  | false => rw [ht] at h; simp at h
theorem dataND_len (n : NDV) : (dataND n).length = if n.h then 24 else 16 := by
 unfold dataND; cases n.h <;> rfl
theorem own_ty {w : World} {base e n t g : Nat} {v : Value} {xs cs : List Value} (h : w.ownsRow base e 1 v n xs) (hb : Blk w g t cs) (ht : t ≠ e) : ∀ k, v.ownBlock = some k → k ≠ g := by
 intro k hk hkg
 subst hkg
 rcases h.2 with ⟨rfl, _⟩ | ⟨g', cap, cur, rfl, _, hg, _⟩
 ·simp [Value.ownBlock] at hk
 ·simp [Value.ownBlock] at hk
  subst hk
  unfold Blk at hb
  rw [hb] at hg
  injection hg with hg
  injection hg with _ h2
  exact ht h2
def flagND (n : NDV) (i : Nat) : Bool := match i with | 0 => n.r | 1 => n.s | _ => n.o
def bitND (i : Nat) : Int := match i with | 0 => 2147483648 | 1 => 1073741824 | _ => 536870912
def restK (n : NDV) : Nat → Int
 | 0 => 0
 | i + 1 => if flagND n i then bitv .or .i64 (restK n i) (bitND i) else restK n i
theorem restK_three (n : NDV) : restK n 3 = restND n := by
 unfold restK restK restK restK restND flagND
 cases n.r <;> cases n.s <;> cases n.o <;> decide
end Go.Eng
namespace Go.Proofs.YtjngdcilnipjcaaGreatDoor
namespace Nd
open Go.Eng Go.RowKit
section
variable {w : World} {n : NDV}
theorem put_tail {w0 : World} {g1 g2 g3 c : Nat} {A : Option Addr} {cs2 : List Value} (hE : Ext w0 w) (_ : Bts n.mac) (_ : w0.heap.size ≤ g1) (h2g : w0.heap.size ≤ g2) (h3g : w0.heap.size ≤ g3) (_ : g1 ≠ g2) (h13 : g1 ≠ g3) (h23 : g2 ≠ g3)
  (hb1 : Blk w g1 41 n.cells) (hb2 : Blk w g2 27 cs2) (hc2 : cs2.length = 5) (hb3 : Blk w g3 27 [.int .i64 6, .int .i64 (134 + n.kind), .int .i64 0, .int .i64 0, .slice A 16 c])
  (hown : w.ownsRow w0.heap.size 5 1 (.slice A 16 c) 16 (n.p.bytes.map (.int .u8))) (h0 : putE n = 0) :
  icmp_PutND_D14 (fun e w' => Ext w0 w' ∧ ∃ A k, e = .returned (.tuple #[(putM n A k).val, .int .i64 (putE n)]) ∧ w'.ownsRow w0.heap.size 5 1 (.slice A (putD n).length k) (putD n).length ((putD n).map (.int .u8))) w g1 g2 g3 := by
 have hpm : ∀ A k, putM n A k = ⟨6, 134 + n.kind, 0, restND n, A, (dataND n).length, k⟩ := fun A k => by unfold putM; rw [if_pos h0]
 have hpd : putD n = dataND n := by unfold putD; rw [if_pos h0]
 have hkind := badND_kind (putE_zero h0).1
 unfold icmp_PutND_D14
 refine ⟨_, hb1.cell 18, _, hb1.cell 19, _, hb1.cell 20, ?_⟩
 refine NewVC.blk fun g4 w1 hg4 hz4 hE1 hb4 => ?_
 have l1 := hb1.lt
 have l2 := hb2.lt
 have l3 := hb3.lt
 have s0 := hE.size
 refine LoopVC.of (fun st w' => ∃ i : Nat, st = (i : Int) ∧ i ≤ 3 ∧ Ext w0 w' ∧ Mod (fun k => k = g3) w1 w' ∧ Blk w' g3 27 [.int .i64 6, .int .i64 (134 + n.kind), .int .i64 0, .int .i64 (restK n i), .slice A 16 c]) (fun st _ => ((3 : Int) - st).toNat) ⟨0, rfl, by decide, hE.ext hE1, Mod.refl _ _, hb3.ext hE1⟩ ?_
 rintro _ w2 ⟨i, rfl, hi, hE2, hm2, hb32⟩
 show icmp_PutND_L122 _ g1 g2 g3 g4 (i : Int) w2 _
 unfold icmp_PutND_L122
 have hb12 := (hb1.ext hE1).mod hm2 h13
 have hb22 := (hb2.ext hE1).mod hm2 h23
 have hb42 := hb4.mod hm2 (by show ¬ g4 = g3; omega)
 have hown2 := own_mod (own_ext hown hE1) hm2 (own_ty (own_ext hown hE1) (hb3.ext hE1) (by decide))
 refine Br.dec (fun hlt => ?_) fun hge => ?_
 ·have hlt : i < 3 := by omega
  refine ⟨_, rfl, by omega, by omega, ?_⟩
  have hat : CellsAt w2 ((⟨g4, 0, none⟩ : Addr).add ((i : Int).toNat * 2)) 0 [.bool (flagND n i), .int .i64 (bitND i)] := by
   rw [addr_add, Nat.zero_add, Int.toNat_natCast]
   match i, hlt with
   | 0, _ => exact CellsAt.part hb42 0 (es := [.bool n.s, .int .i64 1073741824, .bool n.o, .int .i64 536870912]) rfl
   | 1, _ => exact CellsAt.part hb42 2 (es := [.bool n.o, .int .i64 536870912]) rfl
   | 2, _ => exact CellsAt.part hb42 4 (es := []) rfl
  refine ⟨_, _, hat, ?_⟩
  have s2 := hE2.size
  refine NewVC.blk fun g5 w3 hg5 hz5 hE3 hb5 => ?_
  refine SetVC.blk (g := g5) (i := 0) hb5 (by simp) fun w4 hz4 hm4 hb5 => ?_
  refine SetVC.blk (g := g5) (i := 1) hb5 (by simp) fun w5 hz5 hm5 hb5 => ?_
  have hE5 : Ext w2 w5 := (hE3.set hm4 (by omega)).set hm5 (by omega)
  have e1 : IntKind.i64.wrap ((i : Int) + 1) = ((i + 1 : Nat) : Int) := by rw [w64 (by omega) (by omega)]; omega
  have hb35 := hb32.ext hE5
  refine ⟨_, hb5.cell 0, ?_⟩
  rw [e1]
  cases hf : flagND n i with
  | true =>
   refine Br.t rfl ⟨_, hb35.cell 3, _, hb5.cell 1, ?_⟩
   refine SetVC.blk (g := g3) (i := 3) hb35 (by simp) fun w6 hz6 hm6 hb6 => ?_
   refine ⟨⟨i + 1, rfl, by omega, (hE2.ext hE5).set hm6 h3g, ((hm2.ext hE5).trans hm6), ?_⟩, by omega⟩
   have e2 : restK n (i + 1) = bitv .or .i64 (restK n i) (bitND i) := by
    show (if flagND n i then _ else _) = _
    rw [hf, if_pos rfl]
   rw [e2]; exact hb6
  | false =>
   refine Br.f rfl ⟨⟨i + 1, rfl, by omega, hE2.ext hE5, hm2.ext hE5, ?_⟩, by omega⟩
   have e2 : restK n (i + 1) = restK n i := by
    show (if flagND n i then _ else _) = _
    rw [hf]; rfl
   rw [e2]; exact hb35
 have : i = 3 := by omega
 subst this
 rw [restK_three] at hb32
 refine ⟨_, hb12.cell 21, ?_⟩
 cases hh : n.h with
 | false =>
  have hd : dataND n = n.p.bytes := by unfold dataND; rw [hh]; simp
  refine Br.f rfl ⟨_, _, _, _, _, _, _, CellsAt.blk hb32, ?_⟩
  refine setAll [.int .i64 6, .int .i64 (134 + n.kind), .int .i64 0, .int .i64 (restND n), .slice A 16 c] 0 w2 _ _ hb22 (by simp [hc2]) fun w3 hz3 hm3 hb3 => ?_
  refine ⟨_, _, _, _, _, _, _, CellsAt.blk hb3, hE2.set hm3 h2g, A, c, ?_, ?_⟩
  ·rw [hpm, h0, hd]; rfl
  ·rw [hpd, hd]
   exact own_mod hown2 hm3 (own_ty hown2 hb22 (by decide))
 | true =>
  have hd : dataND n = (n.p.bytes ++ [n.kind, 1]) ++ n.mac := by unfold dataND; rw [hh]; simp
  refine Br.t rfl ⟨_, _, _, hb32.cell 4, _, hb12.cell 0, ?_⟩
  have ek : IntKind.u8.wrap n.kind = n.kind := wu8 (by omega) (by omega)
  rw [ek]
  have s2 := hE2.size
  refine NewVC.blk fun g6 w3 hg6 hz3 hE3 hb6 => ?_
  refine AppVC.at (base := w0.heap.size) Tryz.underlying25 tyByte rfl (own_ext hown2 hE3) (news := [.int .u8 n.kind, .int .u8 1]) (by simpa using Cells.of_blk hb6 0) rfl (by intro u hu; simp at hu; rcases hu with rfl | rfl <;> rfl) (by decide) (by decide) (by omega) fun A2 c2 w4 hown4 hm4 _ _ => ?_
  have hE4 : Ext w0 w4 := Ext.own (hE2.ext hE3) (own_ext hown2 hE3) hm4
  have hown3 := own_ext hown2 hE3
  have hnot : ∀ {g t : Nat} {cs : List Value}, Blk w3 g t cs → t ≠ 5 → Blk w4 g t cs := fun hb ht => hb.mod hm4 fun e => own_ty hown3 hb ht _ e.symm rfl
  have hb34 := hnot (hb32.ext hE3) (by decide)
  have hb14 := hnot (hb12.ext hE3) (by decide)
  have hb24 := hnot (hb22.ext hE3) (by decide)
  have hown4 : w4.ownsRow w0.heap.size 5 1 (.slice A2 18 c2) 18 ((n.p.bytes ++ [n.kind, 1]).map (.int .u8)) := by
   rw [List.map_append]; exact hown4
  refine SetVC.blk (g := g3) (i := 4) hb34 (by simp) fun w5 hz5 hm5 hb35 => ?_
  have hb15 := hb14.mod hm5 h13
  have hb25 := hb24.mod hm5 h23
  have hown5 := own_mod hown4 hm5 (own_ty hown4 hb34 (by decide))
  have hE5 := hE4.set hm5 h3g
  refine DrawVC.of (fun w' => Blk w' g3 27 [.int .i64 6, .int .i64 (134 + n.kind), .int .i64 0, .int .i64 (restND n), .slice A2 18 c2]) fun w6 hE6 _ => ⟨hb35.ext hE6, ?_⟩
  refine ⟨_, _, _, fun w' h => h.cell 4, ?_⟩
  have s6 := (hE5.ext hE6).size
  have hown6 := own_ext hown5 hE6
  refine AppVC.at (base := w0.heap.size) Tryz.underlying25 tyByte rfl hown6 (news := n.mac.map (.int .u8)) (m := 6) (Cells.of_blk (hb15.ext hE6) 22) rfl (ints_one _ _) (by decide) (by decide) (by omega) fun A3 c3 w7 hown7 hm7 _ _ => ?_
  have hE7 : Ext w0 w7 := Ext.own (hE5.ext hE6) hown6 hm7
  have hnot7 : ∀ {g t : Nat} {cs : List Value}, Blk w6 g t cs → t ≠ 5 → Blk w7 g t cs := fun hb ht => hb.mod hm7 fun e => own_ty hown6 hb ht _ e.symm rfl
  have hb37 := hnot7 (hb35.ext hE6) (by decide)
  have hb27 := hnot7 (hb25.ext hE6) (by decide)
  have hown7 : w7.ownsRow w0.heap.size 5 1 (.slice A3 24 c3) 24 ((dataND n).map (.int .u8)) := by
   rw [hd, List.map_append]; exact hown7
  refine ⟨hb37, SetVC.blk (g := g3) (i := 4) hb37 (by simp) fun w8 hz8 hm8 hb38 => ?_⟩
  have hown8 := own_mod hown7 hm8 (own_ty hown7 hb37 (by decide))
  have hb28 := hb27.mod hm8 h23
  refine ⟨_, _, _, _, _, _, _, CellsAt.blk hb38, ?_⟩
  refine setAll [.int .i64 6, .int .i64 (134 + n.kind), .int .i64 0, .int .i64 (restND n), .slice A3 24 c3] 0 w8 _ _ hb28 (by simp [hc2]) fun w9 hz9 hm9 hb9 => ?_
  have hlen : (dataND n).length = 24 := by rw [hd]; rfl
  refine ⟨_, _, _, _, _, _, _, CellsAt.blk hb9, (hE7.set hm8 h3g).set hm9 h2g, A3, c3, ?_, ?_⟩
  ·rw [hpm, h0, hlen]; rfl
  ·rw [hpd, hlen]
   exact own_mod hown8 hm9 (own_ty hown8 hb28 (by decide))
theorem put_fail {w0 w : World} {g2 : Nat} {cs2 : List Value} {n : NDV} {err : Int} (hE : Ext w0 w) (h2g : w0.heap.size ≤ g2) (hb2 : Blk w g2 27 cs2) (hc2 : cs2.length = 5) (he : putE n = err) (h0 : err ≠ 0) :
  setsVC g2 0 [.int .i64 0, .int .i64 0, .int .i64 0, .int .i64 0, .slice none 0 0] w fun w' => ∃ (x0 x1 x2 x3 : Int) (A : Option Addr) (m k : Nat), CellsAt w' ⟨g2, 0, none⟩ 0 [.int .i64 x0, .int .i64 x1, .int .i64 x2, .int .i64 x3, .slice A m k] ∧
   (Ext w0 w' ∧ ∃ A' k', Ending.returned (.tuple #[.agg #[.int .i64 x0, .int .i64 x1, .int .i64 x2, .int .i64 x3, .slice A m k], .int .i64 err]) = .returned (.tuple #[(putM n A' k').val, .int .i64 (putE n)]) ∧ w'.ownsRow w0.heap.size 5 1 (.slice A' (putD n).length k') (putD n).length ((putD n).map (.int .u8))) := by
 refine setAll _ 0 w _ _ hb2 (by simp [hc2]) fun w3 hz3 hm3 hb3 => ?_
 refine ⟨_, _, _, _, _, _, _, CellsAt.blk hb3, hE.set hm3 h2g, none, 0, ?_, ?_⟩
 ·rw [he]; unfold putM; rw [if_neg (by omega)]; rfl
 ·have : putD n = [] := by unfold putD; rw [if_neg (by omega)]
  rw [this]; exact World.ownsRow_nil _ _ _ _
set_option maxHeartbeats 1000000 in
theorem PutND_spec (hB : Bts n.p.bytes) (hM : Bts n.mac) (hk : -9223372036854775808 ≤ n.kind ∧ n.kind ≤ 9223372036854775807) (hT : Tab w) : Calls Tryz.prog 16 #[n.val] w fun e w' => Ext w w' ∧
  ∃ A k, e = .returned (.tuple #[(putM n A k).val, .int .i64 (putE n)]) ∧ w'.ownsRow w.heap.size 5 1 (.slice A (putD n).length k) (putD n).length ((putD n).map (.int .u8)) := by
 refine icmp_PutND_of n.kind n.p.v n.p.a0 n.p.a1 n.p.a2 n.p.a3 n.p.a4 n.p.a5 n.p.a6 n.p.a7 n.p.a8 n.p.a9 n.p.a10 n.p.a11 n.p.a12 n.p.a13 n.p.a14 n.p.a15 n.r n.s n.o n.h n.m0 n.m1 n.m2 n.m3 n.m4 n.m5 w _ ?_
 unfold icmp_PutND_VC
 refine NewVC.blk fun g1 w1 hg1 hz1 hE1 hb1 => NewVC.blk fun g2 w2 hg2 hz2 hE2 hb2 => ?_
 have hb1 : Blk w2 g1 41 n.cells := hb1.ext hE2
 have hE := hE1.ext hE2
 refine JoinVC.of (fun st w' => w2 = w' ∧ st = (decide (n.kind ≠ 1) && decide (n.kind ≠ 2))) ?_ ?_
 ·refine ⟨_, hb1.cell 0, Br.dec (fun h => ⟨_, hb1.cell 0, rfl, ?_⟩) fun h => ⟨rfl, ?_⟩⟩
  ·rw [decide_eq_true h, Bool.true_and]
  ·rw [decide_eq_false h, Bool.false_and]
 rintro st _ ⟨rfl, hst⟩
 unfold icmp_PutND_J12
 have bad : ∀ {b1 b2 b3 : Bool}, b1 = (decide (n.kind ≠ 1) && decide (n.kind ≠ 2)) → b2 = (decide (n.kind = 1) && (n.r || (n.s || n.o))) → b3 = (!n.h && !macZ n) → badND n = (b1 || (b2 || b3)) := fun h1 h2 h3 => by subst h1; subst h2; subst h3; rfl
 cases st with
 | true =>
  have he : putE n = 1 := by unfold putE; rw [bad hst rfl rfl, Bool.true_or, if_pos rfl]
  exact Br.t rfl (put_fail (n := n) hE (by omega) hb2 rfl he (by decide))
 | false =>
 refine Br.f rfl ?_
 refine JoinVC.of (fun st w' => w2 = w' ∧ st = (decide (n.kind = 1) && (n.r || (n.s || n.o)))) ?_ ?_
 ·refine ⟨_, hb1.cell 0, Br.dec (fun h => ⟨_, hb1.cell 18, ?_⟩) fun h => ⟨rfl, ?_⟩⟩
  ·cases hr : n.r with
   | true => exact Br.t rfl ⟨rfl, by rw [decide_eq_true h]; rfl⟩
   | false =>
    refine Br.f rfl ⟨_, hb1.cell 19, ?_⟩
    cases hs : n.s with
    | true => exact Br.t rfl ⟨rfl, by rw [decide_eq_true h]; rfl⟩
    | false => exact Br.f rfl ⟨_, hb1.cell 20, rfl, by rw [decide_eq_true h]; rfl⟩
  ·rw [decide_eq_false h, Bool.false_and]
 rintro st2 _ ⟨rfl, hst2⟩
 unfold icmp_PutND_J51
 cases st2 with
 | true =>
  have he : putE n = 1 := by unfold putE; rw [bad rfl hst2 rfl, Bool.true_or, Bool.or_true, if_pos rfl]
  exact Br.t rfl (put_fail (n := n) hE (by omega) hb2 rfl he (by decide))
 | false =>
 refine Br.f rfl ?_
 refine JoinVC.of (fun st w' => w2 = w' ∧ st = (!n.h && !macZ n)) ?_ ?_
 ·refine ⟨_, hb1.cell 21, ?_⟩
  cases hh : n.h with
  | true => exact Br.f rfl ⟨rfl, rfl⟩
  | false => exact Br.t rfl ⟨_, _, _, _, _, _, CellsAt.part hb1 22 (es := []) rfl, rfl, rfl⟩
 rintro st3 _ ⟨rfl, hst3⟩
 unfold icmp_PutND_J207
 cases st3 with
 | true =>
  have he : putE n = 1 := by unfold putE; rw [bad rfl rfl hst3, Bool.or_true, Bool.or_true, if_pos rfl]
  exact Br.t rfl (put_fail (n := n) hE (by omega) hb2 rfl he (by decide))
 | false =>
 have hok : badND n = false := by rw [bad hst hst2 hst3]; rfl
 have hkind := badND_kind hok
 refine Br.f rfl ⟨_, hb1.cell 1, Br.dec (fun h6 => ?_) fun h6 => ?_⟩
 ·have he : putE n = 86 := by
   have : targetS n.p = false := by unfold targetS; rw [decide_eq_false h6, Bool.false_and]
   unfold putE; rw [hok, this]; rfl
  exact put_fail (n := n) hE (by omega) hb2 rfl he (by decide)
 have h6 : n.p.v = 6 := by omega
 refine ⟨_, _, _, _, _, _, _, _, _, _, _, _, _, _, _, _, _, CellsAt.part hb1 1 (ds := n.p.cells) (es := n.cells.drop 18) rfl, ?_⟩
 refine (noTarget_spec n.p (hT.ext hE)).mono ?_
 rintro _ w3 ⟨hE3, rfl⟩
 have hE' := hE.ext hE3
 have hb1 := hb1.ext hE3
 have hb2 := hb2.ext hE3
 rw [noTarget_eq h6 hB]
 refine ⟨_, rfl, ?_⟩
 cases ht : targetS n.p with
 | false =>
  have he : putE n = 86 := by unfold putE; rw [hok, ht]; rfl
  exact Br.t rfl (put_fail (n := n) hE' (by omega) hb2 rfl he (by decide))
 | true =>
 have he : putE n = 0 := by unfold putE; rw [hok, ht]; rfl
 have ek : IntKind.i64.wrap (IntKind.i64.wrap (135 + n.kind) - 1) = 134 + n.kind := by
  rw [w64 (n := 135 + n.kind) (by omega) (by omega), w64 (by omega) (by omega)]; omega
 have s3 := hE'.size
 have l1 := hb1.lt
 have l2 := hb2.lt
 refine Br.f rfl (DrawVC.of (fun w' => Blk w' g1 41 n.cells) fun w4 hE4 hz4 => ⟨hb1.ext hE4, ?_⟩)
 refine ⟨_, fun w' h => h.cell 0, ?_⟩
 have hb1 := hb1.ext hE4
 have hb2 := hb2.ext hE4
 have hE'' := hE'.ext hE4
 have hsrc : ∀ {w' : World}, Blk w' g1 41 n.cells → Cells w' (some ⟨g1, 2, none⟩) (n.p.bytes.map (.int .u8)) := fun h => by
  have h1 := (Cells.of_blk h 2).take 16
  exact h1
 refine ⟨?_, ?_⟩
 ·refine AppVC.at (base := w.heap.size) Tryz.underlying25 tyByte rfl (World.ownsRow_nil _ _ _ _) (news := n.p.bytes.map (.int .u8)) (m := 16) (hsrc hb1) rfl (ints_one _ _) (by decide) (by decide) hE''.size fun A2 c2 w5 hown5 hm5 _ hat => ?_
  have hE5 : Ext w4 w5 := hm5.mono fun i _ h => by simp [Value.ownBlock] at h
  have hown5 : w5.ownsRow w.heap.size 5 1 (.slice A2 16 c2) 16 (n.p.bytes.map (.int .u8)) := hown5
  refine ⟨hb1.ext hE5, ?_⟩
  have s5 := (hE''.ext hE5).size
  refine NewVC.blk fun g3 w6 hg3 hz6 hE6 hb3 => ⟨(hb1.ext hE5).ext hE6, ?_⟩
  rw [ek]
  have hown6 := own_ext hown5 hE6
  refine setAll [.int .i64 6, .int .i64 (134 + n.kind), .int .i64 0, .int .i64 0, .slice A2 16 c2] 0 w6 _ _ hb3 rfl fun w7 hz7 hm7 hb7 => ?_
  have l5 := (hb1.ext hE5).lt
  have l25 := (hb2.ext hE5).lt
  exact put_tail (((hE''.ext hE5).ext hE6).set hm7 (by omega)) hM (by omega) (by omega) (by omega) (by omega) (by omega) (by omega) (((hb1.ext hE5).ext hE6).mod hm7 (by show ¬ g1 = g3; omega)) (((hb2.ext hE5).ext hE6).mod hm7 (by show ¬ g2 = g3; omega)) rfl hb7
   (own_mod hown6 hm7 (own_ty hown6 hb3 (by decide))) he
 ·refine NewVC.blk fun g3 w5 hg3 hz5 hE5 hb3 => ⟨hb1.ext hE5, ?_⟩
  refine AppVC.at (base := w.heap.size) Tryz.underlying25 tyByte rfl (World.ownsRow_nil _ _ _ _) (news := n.p.bytes.map (.int .u8)) (m := 16) (hsrc (hb1.ext hE5)) rfl (ints_one _ _) (by decide) (by decide) (hE''.ext hE5).size fun A2 c2 w6 hown6 hm6 _ hat => ?_
  have hE6 : Ext w5 w6 := hm6.mono fun i _ h => by simp [Value.ownBlock] at h
  have hown6 : w6.ownsRow w.heap.size 5 1 (.slice A2 16 c2) 16 (n.p.bytes.map (.int .u8)) := hown6
  refine ⟨(hb1.ext hE5).ext hE6, ?_⟩
  rw [ek]
  have hb3 := hb3.ext hE6
  refine setAll [.int .i64 6, .int .i64 (134 + n.kind), .int .i64 0, .int .i64 0, .slice A2 16 c2] 0 w6 _ _ hb3 rfl fun w7 hz7 hm7 hb7 => ?_
  exact put_tail (((hE''.ext hE5).ext hE6).set hm7 (by omega)) hM (by omega) (by omega) (by omega) (by omega) (by omega) (by omega) (((hb1.ext hE5).ext hE6).mod hm7 (by show ¬ g1 = g3; omega)) (((hb2.ext hE5).ext hE6).mod hm7 (by show ¬ g2 = g3; omega)) rfl hb7
   (own_mod hown6 hm7 (own_ty hown6 hb3 (by decide))) he
end
end Nd
end Go.Proofs.YtjngdcilnipjcaaGreatDoor
/- Neighbour discovery: what PutND (the document's) makes of it. -/
namespace Go.Eng
open Go Go.RowKit
def onWay (k x : Int) (A : Option Addr) (m c : Nat) : List Value := [.int .i64 6, .int .i64 (134 + k), .int .i64 0, .int .i64 x, .slice A m c]
theorem bytes_take (l : List Int) (i : Nat) (h : i < l.length) : (l.take i).map (Value.int .u8) ++ [.int .u8 (l.getD ((i : Int).toNat) 0)] = (l.take (i + 1)).map (.int .u8) := by
 rw [List.take_succ_eq_append_getElem h, List.map_append, getD_cast l i h]
 rfl
end Go.Eng
namespace Go.Proofs.YtjngdcilnipjcaaGreatDoor
namespace Nd
open Go.Eng Go.RowKit
section
variable {w w0 : World} {n : NDV} {g1 g2 g4 : Nat}
theorem refPut_out {x : Int} {A : Option Addr} {m c : Nat} {cs2 : List Value} {L : List Int} (hE : Ext w0 w) (h2g : w0.heap.size ≤ g2) (hb2 : Blk w g2 27 cs2) (hc2 : cs2.length = 5) (hb4 : Blk w g4 27 (onWay n.kind x A m c))
  (hown : w.ownsRow w0.heap.size 5 1 (.slice A m c) m (L.map (.int .u8))) (h0 : putE n = 0) (hx : x = restND n) (hL : L = dataND n) (hm : L.length = m) :
  ∃ (x0 x1 x2 x3 : Int) (A0 : Option Addr) (m0 k0 : Nat), CellsAt w ⟨g4, 0, none⟩ 0 [.int .i64 x0, .int .i64 x1, .int .i64 x2, .int .i64 x3, .slice A0 m0 k0] ∧
  setsVC g2 0 [.int .i64 x0, .int .i64 x1, .int .i64 x2, .int .i64 x3, .slice A0 m0 k0] w fun w' => ∃ (x0 x1 x2 x3 : Int) (A : Option Addr) (m k : Nat), CellsAt w' ⟨g2, 0, none⟩ 0 [.int .i64 x0, .int .i64 x1, .int .i64 x2, .int .i64 x3, .slice A m k] ∧
   (Ext w0 w' ∧ ∃ A' k', Ending.returned (.tuple #[.agg #[.int .i64 x0, .int .i64 x1, .int .i64 x2, .int .i64 x3, .slice A m k], .int .i64 0]) = .returned (.tuple #[(putM n A' k').val, .int .i64 (putE n)]) ∧ w'.ownsRow w0.heap.size 5 1 (.slice A' (putD n).length k') (putD n).length ((putD n).map (.int .u8))) := by
 refine ⟨_, _, _, _, _, _, _, CellsAt.blk hb4, ?_⟩
 refine setAll _ 0 w _ _ hb2 (by simp [hc2]) fun w3 hz3 hm3 hb3 => ?_
 refine ⟨_, _, _, _, _, _, _, CellsAt.blk hb3, hE.set hm3 h2g, A, c, ?_, ?_⟩
 ·unfold putM; rw [if_pos h0, h0, ← hx, ← hL, hm]; rfl
 ·have : putD n = dataND n := by unfold putD; rw [if_pos h0]
  rw [this, ← hL, hm]
  exact own_mod hown hm3 (own_ty hown hb2 (by decide))
theorem refPut_mac {cs2 : List Value} {x : Int} {A : Option Addr} {c : Nat} (hE : Ext w0 w) (h2g : w0.heap.size ≤ g2) (h4g : w0.heap.size ≤ g4) (_ : g1 ≠ g2) (h14 : g1 ≠ g4) (h24 : g2 ≠ g4)
  (hb1 : Blk w g1 41 n.cells) (hb2 : Blk w g2 27 cs2) (hc2 : cs2.length = 5) (hb4 : Blk w g4 27 (onWay n.kind x A 18 c))
  (hown : w.ownsRow w0.heap.size 5 1 (.slice A 18 c) 18 ((n.p.bytes ++ [n.kind, 1]).map (.int .u8))) (h0 : putE n = 0) (hx : x = restND n) (hh : n.h = true) :
  LoopVC (S := Int) (fun s_ w86 K65494 => weirref8_PutND_L65494 (fun e w' => Ext w0 w' ∧ ∃ A k, e = .returned (.tuple #[(putM n A k).val, .int .i64 (putE n)]) ∧ w'.ownsRow w0.heap.size 5 1 (.slice A (putD n).length k) (putD n).length ((putD n).map (.int .u8))) g1 g2 g4 s_ w86 K65494) 0 w := by
 refine LoopVC.of (fun st w' => ∃ (i : Nat) (A : Option Addr) (c : Nat), st = (i : Int) ∧ i ≤ 6 ∧ Ext w0 w' ∧ Blk w' g1 41 n.cells ∧ Blk w' g2 27 cs2 ∧ Blk w' g4 27 (onWay n.kind x A (18 + i) c) ∧
  w'.ownsRow w0.heap.size 5 1 (.slice A (18 + i) c) (18 + i) ((n.p.bytes ++ [n.kind, 1]).map (.int .u8) ++ (n.mac.take i).map (.int .u8))) (fun st _ => ((6 : Int) - st).toNat) ⟨0, A, c, rfl, by decide, hE, hb1, hb2, hb4, by simpa using hown⟩ ?_
 rintro _ w1 ⟨i, A, c, rfl, hi, hE, hb1, hb2, hb4, hown⟩
 show weirref8_PutND_L65494 _ g1 g2 g4 (i : Int) w1 _
 unfold weirref8_PutND_L65494
 refine Br.dec (fun hlt => ?_) fun hge => ?_
 ·have hlt : i < 6 := by omega
  refine DrawVC.of (fun w' => Blk w' g4 27 (onWay n.kind x A (18 + i) c) ∧ Blk w' g1 41 n.cells) fun w2 hE2 hz2 => ⟨⟨hb4.ext hE2, hb1.ext hE2⟩, ?_⟩
  have hb1 := hb1.ext hE2
  have hb2 := hb2.ext hE2
  have hb4 := hb4.ext hE2
  have hE := hE.ext hE2
  have hown := own_ext hown hE2
  refine ⟨_, _, _, fun w' h => h.1.cell 4, ?_⟩
  refine IdxVC.draw (S := fun w' => Blk w' g4 27 (onWay n.kind x A (18 + i) c) ∧ Blk w' g1 41 n.cells) ⟨hb4, hb1⟩ (xs := n.mac) (fun w' h => Cells.of_blk h.2 22) (by omega) (by omega) rfl fun a ha => ⟨_, ha, ?_⟩
  have s2 := hE.size
  refine NewVC.blk fun g5 w3 hg5 hz3 hE3 hb5 => ⟨⟨hb4.ext hE3, hb1.ext hE3⟩, ?_⟩
  have hown3 := own_ext hown hE3
  refine AppVC.at (base := w0.heap.size) Tryz.underlying25 tyByte rfl hown3 (m := 1) (news := [.int .u8 (n.mac.getD ((i : Int).toNat) 0)]) (Cells.of_blk hb5 0) rfl (by intro u hu; rw [List.mem_singleton.1 hu]; rfl) (by omega) (by decide) (by omega) fun A2 c2 w4 hown4 hm4 _ hat => ?_
  have hnot : ∀ {g t : Nat} {cs : List Value}, Blk w3 g t cs → t ≠ 5 → Blk w4 g t cs := fun hb ht => hb.mod hm4 fun e => own_ty hown3 hb ht _ e.symm rfl
  have hb14 := hnot (hb1.ext hE3) (by decide)
  have hb24 := hnot (hb2.ext hE3) (by decide)
  have hb44 := hnot (hb4.ext hE3) (by decide)
  have hE4 : Ext w0 w4 := Ext.own (hE.ext hE3) hown3 hm4
  rw [List.append_assoc, bytes_take n.mac i hlt] at hown4
  refine ⟨⟨hb44, hb14⟩, SetVC.blk (g := g4) (i := 4) hb44 (by simp [onWay]) fun w5 hz5 hm5 hb45 => ?_⟩
  have hown5 := own_mod hown4 hm5 (own_ty hown4 hb44 (by decide))
  refine ⟨⟨i + 1, A2, c2, ?_, by omega, hE4.set hm5 h4g, hb14.mod hm5 h14, hb24.mod hm5 h24, hb45, hown5⟩, ?_⟩
  ·rw [w64 (by omega) (by omega)]; omega
  ·rw [w64 (by omega) (by omega)]; omega
 ·have : i = 6 := by omega
  subst this
  refine refPut_out (L := (n.p.bytes ++ [n.kind, 1]) ++ n.mac) hE h2g hb2 hc2 hb4 ?_ h0 hx ?_ rfl
  ·rw [List.map_append (l₁ := n.p.bytes ++ [n.kind, 1])]; exact hown
  ·unfold dataND; rw [hh]; simp
theorem refPut_loop {cs2 : List Value} {x : Int} (hE : Ext w0 w) (h2g : w0.heap.size ≤ g2) (h4g : w0.heap.size ≤ g4) (h12 : g1 ≠ g2) (h14 : g1 ≠ g4) (h24 : g2 ≠ g4)
  (hb1 : Blk w g1 41 n.cells) (hb2 : Blk w g2 27 cs2) (hc2 : cs2.length = 5) (hb4 : Blk w g4 27 (onWay n.kind x none 0 0)) (h0 : putE n = 0) (hx : x = restND n) :
  LoopVC (S := Int) (fun s_ w78 K4090 => weirref8_PutND_L4090 (fun e w' => Ext w0 w' ∧ ∃ A k, e = .returned (.tuple #[(putM n A k).val, .int .i64 (putE n)]) ∧ w'.ownsRow w0.heap.size 5 1 (.slice A (putD n).length k) (putD n).length ((putD n).map (.int .u8))) g1 g2 g4 s_ w78 K4090) 0 w := by
 have hkind := badND_kind (putE_zero h0).1
 refine LoopVC.of (fun st w' => ∃ (i : Nat) (A : Option Addr) (c : Nat), st = (i : Int) ∧ i ≤ 16 ∧ Ext w0 w' ∧ Blk w' g1 41 n.cells ∧ Blk w' g2 27 cs2 ∧ Blk w' g4 27 (onWay n.kind x A i c) ∧
  w'.ownsRow w0.heap.size 5 1 (.slice A i c) i ((n.p.bytes.take i).map (.int .u8))) (fun st _ => ((16 : Int) - st).toNat) ⟨0, none, 0, rfl, by decide, hE, hb1, hb2, hb4, World.ownsRow_nil _ _ _ _⟩ ?_
 rintro _ w1 ⟨i, A, c, rfl, hi, hE, hb1, hb2, hb4, hown⟩
 show weirref8_PutND_L4090 _ g1 g2 g4 (i : Int) w1 _
 unfold weirref8_PutND_L4090
 refine Br.dec (fun hlt => ?_) fun hge => ?_
 ·have hlt : i < 16 := by omega
  refine DrawVC.of (fun w' => Blk w' g4 27 (onWay n.kind x A i c) ∧ Blk w' g1 41 n.cells) fun w2 hE2 hz2 => ⟨⟨hb4.ext hE2, hb1.ext hE2⟩, ?_⟩
  have hb1 := hb1.ext hE2
  have hb2 := hb2.ext hE2
  have hb4 := hb4.ext hE2
  have hE := hE.ext hE2
  have hown := own_ext hown hE2
  refine ⟨_, _, _, fun w' h => h.1.cell 4, ?_⟩
  refine IdxVC.draw (S := fun w' => Blk w' g4 27 (onWay n.kind x A i c) ∧ Blk w' g1 41 n.cells) ⟨hb4, hb1⟩ (xs := n.p.bytes) (fun w' h => (Cells.of_blk h.2 2).take 16) (by omega) (by omega) rfl fun a ha => ⟨_, ha, ?_⟩
  have s2 := hE.size
  refine NewVC.blk fun g5 w3 hg5 hz3 hE3 hb5 => ⟨⟨hb4.ext hE3, hb1.ext hE3⟩, ?_⟩
  have hown3 := own_ext hown hE3
  refine AppVC.at (base := w0.heap.size) Tryz.underlying25 tyByte rfl hown3 (m := 1) (news := [.int .u8 (n.p.bytes.getD ((i : Int).toNat) 0)]) (Cells.of_blk hb5 0) rfl (by intro u hu; rw [List.mem_singleton.1 hu]; rfl) (by omega) (by decide) (by omega) fun A2 c2 w4 hown4 hm4 _ hat => ?_
  have hnot : ∀ {g t : Nat} {cs : List Value}, Blk w3 g t cs → t ≠ 5 → Blk w4 g t cs := fun hb ht => hb.mod hm4 fun e => own_ty hown3 hb ht _ e.symm rfl
  have hb14 := hnot (hb1.ext hE3) (by decide)
  have hb24 := hnot (hb2.ext hE3) (by decide)
  have hb44 := hnot (hb4.ext hE3) (by decide)
  have hE4 : Ext w0 w4 := Ext.own (hE.ext hE3) hown3 hm4
  rw [bytes_take n.p.bytes i hlt] at hown4
  refine ⟨⟨hb44, hb14⟩, SetVC.blk (g := g4) (i := 4) hb44 (by simp [onWay]) fun w5 hz5 hm5 hb45 => ?_⟩
  have hown5 := own_mod hown4 hm5 (own_ty hown4 hb44 (by decide))
  refine ⟨⟨i + 1, A2, c2, ?_, by omega, hE4.set hm5 h4g, hb14.mod hm5 h14, hb24.mod hm5 h24, hb45, hown5⟩, ?_⟩
  ·rw [w64 (by omega) (by omega)]; omega
  ·rw [w64 (by omega) (by omega)]; omega
 have : i = 16 := by omega
 subst this
 have hown : w1.ownsRow w0.heap.size 5 1 (.slice A 16 c) 16 (n.p.bytes.map (.int .u8)) := hown
 refine ⟨_, hb1.cell 21, ?_⟩
 cases hh : n.h with
 | false =>
  refine Br.f rfl (refPut_out (L := n.p.bytes) hE h2g hb2 hc2 hb4 hown h0 hx ?_ rfl)
  unfold dataND; rw [hh]; simp
 | true =>
  refine Br.t rfl ⟨_, _, _, hb4.cell 4, _, hb1.cell 0, ?_⟩
  have ek : IntKind.u8.wrap n.kind = n.kind := wu8 (by omega) (by omega)
  rw [ek]
  have s2 := hE.size
  refine NewVC.blk fun g6 w3 hg6 hz3 hE3 hb6 => ?_
  have hown3 := own_ext hown hE3
  refine AppVC.at (base := w0.heap.size) Tryz.underlying25 tyByte rfl hown3 (news := [.int .u8 n.kind, .int .u8 1]) (by simpa using Cells.of_blk hb6 0) rfl (by intro u hu; simp at hu; rcases hu with rfl | rfl <;> rfl) (by decide) (by decide) (by omega) fun A2 c2 w4 hown4 hm4 _ _ => ?_
  have hE4 : Ext w0 w4 := Ext.own (hE.ext hE3) hown3 hm4
  have hnot : ∀ {g t : Nat} {cs : List Value}, Blk w3 g t cs → t ≠ 5 → Blk w4 g t cs := fun hb ht => hb.mod hm4 fun e => own_ty hown3 hb ht _ e.symm rfl
  have hb14 := hnot (hb1.ext hE3) (by decide)
  have hb24 := hnot (hb2.ext hE3) (by decide)
  have hb44 := hnot (hb4.ext hE3) (by decide)
  have hown4 : w4.ownsRow w0.heap.size 5 1 (.slice A2 18 c2) 18 ((n.p.bytes ++ [n.kind, 1]).map (.int .u8)) := by
   rw [List.map_append]; exact hown4
  refine SetVC.blk (g := g4) (i := 4) hb44 (by simp [onWay]) fun w5 hz5 hm5 hb45 => ?_
  exact refPut_mac (hE4.set hm5 h4g) h2g h4g h12 h14 h24 (hb14.mod hm5 h14) (hb24.mod hm5 h24) hc2 hb45 (own_mod hown4 hm5 (own_ty hown4 hb44 (by decide))) h0 hx hh
set_option maxHeartbeats 1000000 in
theorem refPutND_spec (hB : Bts n.p.bytes) (hk : -9223372036854775808 ≤ n.kind ∧ n.kind ≤ 9223372036854775807) : Calls Tryz.prog 12 #[n.val] w fun e w' => Ext w w' ∧
  ∃ A k, e = .returned (.tuple #[(putM n A k).val, .int .i64 (putE n)]) ∧ w'.ownsRow w.heap.size 5 1 (.slice A (putD n).length k) (putD n).length ((putD n).map (.int .u8)) := by
 refine weirref8_PutND_of n.kind n.p.v n.p.a0 n.p.a1 n.p.a2 n.p.a3 n.p.a4 n.p.a5 n.p.a6 n.p.a7 n.p.a8 n.p.a9 n.p.a10 n.p.a11 n.p.a12 n.p.a13 n.p.a14 n.p.a15 n.r n.s n.o n.h n.m0 n.m1 n.m2 n.m3 n.m4 n.m5 w _ ?_
 unfold weirref8_PutND_VC
 refine NewVC.blk fun g1 w1 hg1 hz1 hE1 hb1 => NewVC.blk fun g2 w2 hg2 hz2 hE2 hb2 => NewVC.blk fun g3 w3 hg3 hz3 hE3 hb3 => ?_
 have hb1 : Blk w3 g1 41 n.cells := (hb1.ext hE2).ext hE3
 have hb2 := hb2.ext hE3
 have hE := (hE1.ext hE2).ext hE3
 have bad : ∀ {b1 b2 b3 : Bool}, (decide (n.kind ≠ 1) && decide (n.kind ≠ 2)) = b1 → (decide (n.kind = 1) && (n.r || (n.s || n.o))) = b2 → (!n.h && !macZ n) = b3 → badND n = (b1 || (b2 || b3)) := fun h1 h2 h3 => by subst h1; subst h2; subst h3; rfl
 have bad1 : ∀ {b : Bool}, (decide (n.kind = 1) && (n.r || (n.s || n.o))) = b → b = true → putE n = 1 := fun h1 h2 => by subst h2; unfold putE; rw [bad rfl h1 rfl, Bool.true_or, Bool.or_true, if_pos rfl]
 have bad2 : (!n.h && !macZ n) = true → putE n = 1 := fun h1 => by unfold putE; rw [bad rfl rfl h1, Bool.or_true, Bool.or_true, if_pos rfl]
 refine JoinVC.of (fun _ w' => w3 = w' ∧ badND n = false) ?_ ?_
 ·refine ⟨_, hb1.cell 0, Br.dec (fun h => ⟨_, hb1.cell 0, Br.dec (fun h2 => ⟨_, _, _, _, _, _, _, CellsAt.blk hb3, put_fail (n := n) hE (by omega) hb2 rfl ?_ (by decide)⟩) fun h2 => ⟨_, hb1.cell 0, Br.no h ⟨_, hb1.cell 21, ?_⟩⟩⟩) fun h => ⟨_, hb1.cell 0, Br.yes (by omega) ⟨_, hb1.cell 18, ?_⟩⟩⟩
  ·unfold putE; rw [bad (b1 := true) (by rw [decide_eq_true h, decide_eq_true h2, Bool.true_and]) rfl rfl, Bool.true_or, if_pos rfl]
  ·have hk1 : (decide (n.kind = 1) && (n.r || (n.s || n.o))) = false := by rw [decide_eq_false h, Bool.false_and]
   have hk0 : (decide (n.kind ≠ 1) && decide (n.kind ≠ 2)) = false := by rw [decide_eq_false h2, Bool.and_false]
   cases hh : n.h with
   | true => exact Br.f rfl ⟨rfl, by rw [bad (b3 := false) hk0 hk1 (by rw [hh]; rfl)]; rfl⟩
   | false =>
    refine Br.t rfl ⟨_, _, _, _, _, _, CellsAt.part hb1 22 (es := []) rfl, ?_⟩
    cases hz : macZ n with
    | true => exact Br.f (by show (!macZ n) = false; rw [hz]; rfl) ⟨rfl, by rw [bad (b3 := false) hk0 hk1 (by rw [hh, hz]; rfl)]; rfl⟩
    | false => exact Br.t (by show (!macZ n) = true; rw [hz]; rfl) ⟨_, _, _, _, _, _, _, CellsAt.blk hb3, put_fail (n := n) hE (by omega) hb2 rfl (bad2 (by rw [hh, hz]; rfl)) (by decide)⟩
  ·have hk1 : n.kind = 1 := by omega
   have hk0 : (decide (n.kind ≠ 1) && decide (n.kind ≠ 2)) = false := by rw [decide_eq_false h, Bool.false_and]
   cases hr : n.r with
   | true => exact Br.t rfl ⟨_, _, _, _, _, _, _, CellsAt.blk hb3, put_fail (n := n) hE (by omega) hb2 rfl (bad1 rfl (by rw [decide_eq_true hk1, hr]; rfl)) (by decide)⟩
   | false =>
   refine Br.f rfl ⟨_, hb1.cell 19, ?_⟩
   cases hs : n.s with
   | true => exact Br.t rfl ⟨_, _, _, _, _, _, _, CellsAt.blk hb3, put_fail (n := n) hE (by omega) hb2 rfl (bad1 rfl (by rw [decide_eq_true hk1, hr, hs]; rfl)) (by decide)⟩
   | false =>
   refine Br.f rfl ⟨_, hb1.cell 20, ?_⟩
   cases ho : n.o with
   | true => exact Br.t rfl ⟨_, _, _, _, _, _, _, CellsAt.blk hb3, put_fail (n := n) hE (by omega) hb2 rfl (bad1 rfl (by rw [decide_eq_true hk1, hr, hs, ho]; rfl)) (by decide)⟩
   | false =>
   have hk2 : (decide (n.kind = 1) && (n.r || (n.s || n.o))) = false := by rw [hr, hs, ho]; simp
   refine Br.f rfl ⟨_, hb1.cell 21, ?_⟩
   cases hh : n.h with
   | true => exact Br.f rfl ⟨rfl, by rw [bad (b3 := false) hk0 hk2 (by rw [hh]; rfl)]; rfl⟩
   | false =>
    refine Br.t rfl ⟨_, _, _, _, _, _, CellsAt.part hb1 22 (es := []) rfl, ?_⟩
    cases hz : macZ n with
    | true => exact Br.f (by show (!macZ n) = false; rw [hz]; rfl) ⟨rfl, by rw [bad (b3 := false) hk0 hk2 (by rw [hh, hz]; rfl)]; rfl⟩
    | false => exact Br.t (by show (!macZ n) = true; rw [hz]; rfl) ⟨_, _, _, _, _, _, _, CellsAt.blk hb3, put_fail (n := n) hE (by omega) hb2 rfl (bad2 (by rw [hh, hz]; rfl)) (by decide)⟩
 rintro _ _ ⟨rfl, hok⟩
 have hkind := badND_kind hok
 unfold weirref8_PutND_J7
 refine ⟨_, _, _, _, _, _, _, _, _, _, _, _, _, _, _, _, _, CellsAt.part hb1 1 (ds := n.p.cells) (es := n.cells.drop 18) rfl, ?_⟩
 refine (target_spec (ip := n.p) hB).mono ?_
 rintro _ w4 ⟨hE4, rfl⟩
 have hE' := hE.ext hE4
 have hb1 := hb1.ext hE4
 have hb2 := hb2.ext hE4
 have hb3 := hb3.ext hE4
 refine ⟨_, rfl, ?_⟩
 cases ht : targetS n.p with
 | false =>
  have he : putE n = 86 := by unfold putE; rw [hok, ht]; rfl
  exact Br.t rfl ⟨_, _, _, _, _, _, _, CellsAt.blk hb3, put_fail (n := n) hE' (by omega) hb2 rfl he (by decide)⟩
 | true =>
 have he : putE n = 0 := by unfold putE; rw [hok, ht]; rfl
 have ek : IntKind.i64.wrap (134 + n.kind) = 134 + n.kind := w64 (by omega) (by omega)
 refine Br.f rfl ⟨_, hb1.cell 0, ?_⟩
 rw [ek]
 have s4 := hE4.size
 refine NewVC.blk fun g4 w5 hg4 hz5 hE5 hb4 => ?_
 refine setAll (onWay n.kind 0 none 0 0) 0 w5 _ _ hb4 rfl fun w6 hz6 hm6 hb4 => ?_
 have hb4 : Blk w6 g4 27 (onWay n.kind 0 none 0 0) := hb4
 have n14 : g1 ≠ g4 := by omega
 have n24 : g2 ≠ g4 := by omega
 have hE6 : Ext w w6 := (hE'.ext hE5).set hm6 (by omega)
 have hb1 := (hb1.ext hE5).mod hm6 n14
 have hb2 := (hb2.ext hE5).mod hm6 n24
 refine JoinVC.of (fun _ w' => Ext w w' ∧ Mod (fun k => k = g4) w6 w' ∧ Blk w' g4 27 (onWay n.kind (if n.r then 2147483648 else 0) none 0 0)) ?_ ?_
 ·refine ⟨_, hb1.cell 18, ?_⟩
  cases hr : n.r with
  | false => exact Br.f rfl ⟨hE6, Mod.refl _ _, hb4⟩
  | true => exact Br.t rfl ⟨_, hb4.cell 3, SetVC.blk (g := g4) (i := 3) hb4 (by simp [onWay]) fun w7 hz7 hm7 hb7 => ⟨hE6.set hm7 (by omega), hm7, hb7⟩⟩
 rintro _ w7 ⟨hE7, hm7, hb47⟩
 unfold weirref8_PutND_J63
 have q1 : ∀ b : Bool, (0 : Int) ≤ (if b then 2147483648 else 0) ∧ (if b then (2147483648 : Int) else 0) ≤ 2147483648 := fun b => by cases b <;> decide
 refine JoinVC.of (fun _ w' => Ext w w' ∧ Mod (fun k => k = g4) w6 w' ∧ Blk w' g4 27 (onWay n.kind ((if n.r then 2147483648 else 0) + (if n.s then 1073741824 else 0)) none 0 0)) ?_ ?_
 ·refine ⟨_, (hb1.mod hm7 n14).cell 19, ?_⟩
  cases hs : n.s with
  | false => exact Br.f rfl ⟨hE7, hm7, by simpa using hb47⟩
  | true =>
   refine Br.t rfl ⟨_, hb47.cell 3, SetVC.blk (g := g4) (i := 3) hb47 (by simp [onWay]) fun w8 hz8 hm8 hb8 => ⟨hE7.set hm8 (by omega), hm7.trans hm8, ?_⟩⟩
   have := q1 n.r
   rw [w64 (by omega) (by omega)] at hb8
   exact hb8
 rintro _ w8 ⟨hE8, hm8, hb48⟩
 unfold weirref8_PutND_J127
 have q2 : ∀ b : Bool, (0 : Int) ≤ (if b then 1073741824 else 0) ∧ (if b then (1073741824 : Int) else 0) ≤ 1073741824 := fun b => by cases b <;> decide
 refine JoinVC.of (fun _ w' => Ext w w' ∧ Mod (fun k => k = g4) w6 w' ∧ Blk w' g4 27 (onWay n.kind (restND n) none 0 0)) ?_ ?_
 ·refine ⟨_, (hb1.mod hm8 n14).cell 20, ?_⟩
  cases ho : n.o with
  | false => exact Br.f rfl ⟨hE8, hm8, by unfold restND; rw [ho]; simpa using hb48⟩
  | true =>
   refine Br.t rfl ⟨_, hb48.cell 3, SetVC.blk (g := g4) (i := 3) hb48 (by simp [onWay]) fun w9 hz9 hm9 hb9 => ⟨hE8.set hm9 (by omega), hm8.trans hm9, ?_⟩⟩
   have h1 := q1 n.r
   have h2 := q2 n.s
   rw [w64 (by omega) (by omega)] at hb9
   unfold restND; rw [ho]; exact hb9
 rintro _ w9 ⟨hE9, hm9, hb49⟩
 unfold weirref8_PutND_J255
 exact refPut_loop hE9 (by omega) (by omega) (by omega) n14 n24 (hb1.mod hm9 n14) (hb2.mod hm9 n24) rfl hb49 he rfl
end
end Nd
end Go.Proofs.YtjngdcilnipjcaaGreatDoor
