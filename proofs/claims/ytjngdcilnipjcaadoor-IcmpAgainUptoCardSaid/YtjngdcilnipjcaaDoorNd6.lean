/- Neighbour discovery: IcmpNds, IcmpNdPuts. -/
import Derived.Test.YtjngdcilnipjcaaDoorNd5
namespace Go.Eng
open Go Go.RowKit
def eqND (a b : NDV) : Bool := ((decide (a.kind = b.kind)) && (((decide (a.p.v = b.p.v)) && (((decide (a.p.a0 = b.p.a0)) && ((decide (a.p.a1 = b.p.a1)) && ((decide (a.p.a2 = b.p.a2)) && ((decide (a.p.a3 = b.p.a3)) && ((decide (a.p.a4 = b.p.a4)) && ((decide (a.p.a5 = b.p.a5)) && ((decide (a.p.a6 = b.p.a6)) && ((decide (a.p.a7 = b.p.a7)) && ((decide (a.p.a8 = b.p.a8)) && ((decide (a.p.a9 = b.p.a9)) && ((decide (a.p.a10 = b.p.a10)) && ((decide (a.p.a11 = b.p.a11)) && ((decide (a.p.a12 = b.p.a12)) && ((decide (a.p.a13 = b.p.a13)) && ((decide (a.p.a14 = b.p.a14)) && ((decide (a.p.a15 = b.p.a15)) && true)))))))))))))))) && true)) && ((a.r == b.r) && ((a.s == b.s) && ((a.o == b.o) && ((a.h == b.h) && (((decide (a.m0 = b.m0)) && ((decide (a.m1 = b.m1)) && ((decide (a.m2 = b.m2)) && ((decide (a.m3 = b.m3)) && ((decide (a.m4 = b.m4)) && ((decide (a.m5 = b.m5)) && true)))))) && true)))))))
theorem eqND_iff (a b : NDV) : eqND a b = true ↔ a = b := by
  constructor
  · intro h
    obtain ⟨k, ⟨v, a0, a1, a2, a3, a4, a5, a6, a7, a8, a9, a10, a11, a12, a13, a14, a15⟩, r, s, o, h', m0, m1, m2, m3, m4, m5⟩ := a
    obtain ⟨k', ⟨v', b0, b1, b2, b3, b4, b5, b6, b7, b8, b9, b10, b11, b12, b13, b14, b15⟩, r', s', o', h'', n0, n1, n2, n3, n4, n5⟩ := b
    simp only [eqND, Bool.and_eq_true, decide_eq_true_eq, beq_iff_eq, and_true] at h
    simp only [NDV.mk.injEq, IPV.mk.injEq]
    simp only [h, and_self]
  · intro h
    subst h
    simp [eqND]
theorem eqND_refl (a : NDV) : eqND a a = true := (eqND_iff a a).2 rfl
def whomV : NDV := ⟨1, ⟨6, 32, 1, 0, 0, 0, 0, 0, 0, 0, 0, 0, 0, 0, 0, 0, 1⟩, false, false, false, true, 2, 0, 0, 0, 0, 1⟩
theorem parse_whom {A : Option Addr} {k : Nat} : parseND (putM whomV A k) (putD whomV) = (whomV, 0) := by rfl
theorem parseND_A (v t c r : Int) (A A' : Option Addr) (n k k' : Nat) (data : List Int) : parseND ⟨v, t, c, r, A, n, k⟩ data = parseND ⟨v, t, c, r, A', n, k'⟩ data := rfl
end Go.Eng
namespace Go.Proofs.YtjngdcilnipjcaaDoor
namespace Nd
open Go.Eng Go.RowKit
section
variable {w : World}
theorem whom_spec : Calls Tryd.prog 46 #[] w fun e w' => Ext w w' ∧ e = .returned whomV.val := by
  refine weirlaw8_whom_of w _ ?_
  unfold weirlaw8_whom_VC
  refine NewVC.blk fun g1 w1 hg1 hz1 hE1 hb1 => ?_
  refine setAll whomV.cells 0 w1 _ _ hb1 rfl fun w2 hz2 hm2 hb2 => ?_
  exact ⟨_, _, _, _, _, _, _, _, _, _, _, _, _, _, _, _, _, _, _, _, _, _, _, _, _, _, _, _, CellsAt.blk hb2, hE1.set hm2 (by omega), rfl⟩
theorem neighbours_spec (hT : Tab w) : Calls Tryd.prog 13 #[] w fun e w' => Ext w w' ∧ e = .returned (.bool true) := by
  refine weirlaw8_neighbours_of w _ ?_
  unfold weirlaw8_neighbours_VC
  refine whom_spec.mono ?_
  rintro _ w1 ⟨hE1, rfl⟩
  refine ⟨_, _, _, _, _, _, _, _, _, _, _, _, _, _, _, _, _, _, _, _, _, _, _, _, _, _, _, _, rfl, ?_⟩
  refine (PutND_spec (n := whomV) (by intro x hx; simp [whomV, IPV.bytes] at hx; omega) (by intro x hx; simp [whomV, NDV.mac] at hx; omega) (by decide) (hT.ext hE1)).mono ?_
  rintro _ w2 ⟨hE2, A, k, rfl, hown⟩
  have s2 := (hE1.ext hE2).size
  have hD : (putD whomV).length = 24 := rfl
  rw [hD] at hown
  refine ⟨_, _, _, _, _, _, _, _, rfl, ?_⟩
  refine NewVC.blk fun g1 w3 hg1 hz3 hE3 hb3 => ?_
  refine setAll (putM whomV A k).cells 0 w3 _ _ hb3 rfl fun w8 hz8 hm8 hb8 => ?_
  have hb8 : Blk w8 g1 24 (putM whomV A k).cells := hb8
  have hE8 : Ext w2 w8 := hE3.set hm8 (by omega)
  have hE08 := (hE1.ext hE2).ext hE8
  refine ⟨_, _, _, _, _, _, _, CellsAt.blk hb8, ?_⟩
  have hown8 := own_ext hown hE8
  have hk24 : 24 ≤ k := by
    obtain ⟨_, _, hv, hle, _⟩ := own_form hown
    injection hv with _ _ h3
    omega
  refine (ParseND_spec (m := putM whomV A k) (data := putD whomV) (own_cells hown8) rfl (by intro x hx; simp [putD, putE, badND, targetS, whomV, dataND, IPV.bytes, NDV.mac] at hx; omega) hk24 (show (24 : Nat) ≤ 1048576 by decide) (hT.ext hE08)).mono ?_
  rintro _ w9 ⟨hE9, rfl⟩
  rw [parse_whom]
  have s9 := hE9.size
  refine ⟨_, _, _, _, _, _, _, _, _, _, _, _, _, _, _, _, _, _, _, _, _, _, _, _, _, _, _, _, _, rfl, ?_⟩
  refine NewVC.blk fun g2 w10 hg2 hz10 hE10 hb10 => ?_
  refine setAll whomV.cells 0 w10 _ _ hb10 rfl fun w11 hz11 hm11 hb11 => ?_
  have hb11 : Blk w11 g2 35 whomV.cells := hb11
  have hE911 : Ext w9 w11 := hE10.set hm11 (by omega)
  have hb811 := (hb8.ext hE9).ext hE911
  have hE011 := (hE08.ext hE9).ext hE911
  refine DrawVC.of (fun w' => Ext w11 w') fun w12 hE12 _ => ⟨hE12, ?_⟩
  refine Br.yes (by decide) (Br.yes (by decide) ?_)
  refine ⟨_, _, _, _, _, _, _, _, _, _, _, _, _, _, _, _, _, _, _, _, _, _, _, _, _, _, _, _, fun w' h => CellsAt.blk (hb11.ext h), ?_⟩
  refine whom_spec.mono ?_
  rintro _ w13 ⟨hE13, rfl⟩
  refine ⟨_, _, _, _, _, _, _, _, _, _, _, _, _, _, _, _, _, _, _, _, _, _, _, _, _, _, _, _, rfl, hE12.ext hE13, Br.t (eqND_refl whomV) ?_⟩
  refine ⟨_, _, _, fun w' h => (hb811.ext h).cell 4, Br.yes rfl ⟨_, fun w' h => (hb811.ext h).cell 1, Br.yes rfl ⟨_, fun w' h => (hb811.ext h).cell 0, (hE011.ext hE12).ext hE13, ?_⟩⟩⟩
  rfl
set_option maxHeartbeats 1000000 in
theorem nds_law {m : MsgV} {data : List Int} (hd : Cells w m.A (data.map (.int .u8))) (hl : data.length = m.n) (hB : Bts data) (hk : m.n ≤ m.k) (hn : m.n ≤ 1048576) (hT : Tab w) :
    Calls Tryd.prog 3 #[m.val] w fun e w' => e = .returned (.bool true) ∧ Ext w w' := by
  refine weirlaw8_IcmpNds_of m.v m.t m.c m.r m.A m.n m.k w _ ?_
  unfold weirlaw8_IcmpNds_VC
  refine NewVC.blk fun g1 w1 hg1 hz1 hE1 hb1 => ?_
  refine (neighbours_spec (hT.ext hE1)).mono ?_
  rintro _ w2 ⟨hE2, rfl⟩
  have hE02 := hE1.ext hE2
  have hb1 := hb1.ext hE2
  refine ⟨_, rfl, Br.f rfl ⟨_, _, _, hb1.cell 4, ?_⟩⟩
  refine (laid_spec (hd.ext hE02) hl hk (by omega)).mono ?_
  rintro _ w3 ⟨hE3, W, wc, rfl, hownW⟩
  have hLl : (data.take 66000).length ≤ 66000 := by rw [List.length_take]; omega
  have hLB : Bts (data.take 66000) := hB.take _
  generalize data.take 66000 = L at hLl hLB hownW ⊢
  refine ⟨_, _, _, _, _, _, rfl, ?_⟩
  refine (copied_spec (own_cells hownW) (by simp [roomS]) (by omega)).mono ?_
  rintro _ w4 ⟨hE4, C1, c1, rfl, hownC1⟩
  refine ⟨_, _, _, rfl, ?_⟩
  have hE24 := hE3.ext hE4
  have hb1 := hb1.ext hE24
  have s02 := hE02.size
  have s24 := hE24.size
  have s1 := hE2.size
  have s3 := hE3.size
  refine SetVC.blk (g := g1) (i := 4) hb1 (by simp) fun w5 hz5 hm5 hb5 => ?_
  let inM : MsgV := ⟨m.v, m.t, m.c, m.r, W, L.length, wc⟩
  have hb5 : Blk w5 g1 24 inM.cells := hb5
  have hownW4 := own_ext hownW hE4
  have hownW5 := own_mod hownW4 hm5 (own_ty hownW4 hb1 (by decide))
  have hownC5 := own_mod hownC1 hm5 (own_ty hownC1 hb1 (by decide))
  have hE05 : Ext w w5 := (hE02.ext hE24).set hm5 (by omega)
  have hcL : ∀ {w' : World}, Ext w5 w' → Cells w' W (L.map (.int .u8)) := fun h => by
    have := (own_cells (own_ext hownW5 h)).take L.length
    simpa using this
  have hwc : L.length ≤ wc := by
    obtain ⟨_, _, hv, hle, _⟩ := own_form hownW
    injection hv with _ _ h3
    omega
  refine ⟨_, _, _, _, _, _, _, CellsAt.blk hb5, ?_⟩
  refine (ParseND_spec (m := inM) (data := L) (hcL (Mod.refl _ _)) rfl hLB hwc (by show L.length ≤ _; omega) (hT.ext hE05)).mono ?_
  rintro _ w6 ⟨hE6, rfl⟩
  have s6 := hE6.size
  refine ⟨_, _, _, _, _, _, _, _, _, _, _, _, _, _, _, _, _, _, _, _, _, _, _, _, _, _, _, _, _, rfl, ?_⟩
  refine NewVC.blk fun g2 w7 hg2 hz7 hE7 hb7 => ?_
  refine setAll (parseND inM L).1.cells 0 w7 _ _ hb7 rfl fun w8 hz8 hm8 hb8 => ?_
  have hb8 : Blk w8 g2 35 (parseND inM L).1.cells := hb8
  have hE68 : Ext w6 w8 := hE7.set hm8 (by omega)
  have hE58 := hE6.ext hE68
  refine (copied_spec (hcL hE58) rfl (by omega)).mono ?_
  rintro _ w9 ⟨hE9, C2, c2, rfl, hownC2⟩
  refine ⟨_, _, _, rfl, ?_⟩
  have hE59 := hE58.ext hE9
  have hb59 := hb5.ext hE59
  have s9 := hE59.size
  refine SetVC.blk (g := g1) (i := 4) hb59 (by simp [MsgV.cells]) fun w10 hz10 hm10 hb10 => ?_
  let reM : MsgV := ⟨m.v, m.t, m.c, m.r, C2, L.length, c2⟩
  have hb10 : Blk w10 g1 24 reM.cells := hb10
  have hownC210 := own_mod hownC2 hm10 (own_ty hownC2 hb59 (by decide))
  have hownW10 := own_mod (own_ext hownW5 hE59) hm10 (own_ty (own_ext hownW5 hE59) hb59 (by decide))
  have hownC110 := own_mod (own_ext hownC5 hE59) hm10 (own_ty (own_ext hownC5 hE59) hb59 (by decide))
  have l1 := hb5.lt
  have hb810 := (hb8.ext hE9).mod hm10 (by show ¬ g2 = g1; omega)
  have hE010 : Ext w w10 := (hE05.ext hE59).set hm10 (by omega)
  have hc2 : L.length ≤ c2 := by
    obtain ⟨_, _, hv, hle, _⟩ := own_form hownC2
    injection hv with _ _ h3
    omega
  refine ⟨_, _, _, _, _, _, _, CellsAt.blk hb10, ?_⟩
  refine (refParseND_spec (m := reM) (data := L) (own_cells hownC210) rfl hLB hc2 (by show L.length ≤ _; omega)).mono ?_
  rintro _ w11 ⟨hE11, rfl⟩
  have s11 := hE11.size
  have hsame : parseND reM L = parseND inM L := rfl
  rw [hsame]
  refine ⟨_, _, _, _, _, _, _, _, _, _, _, _, _, _, _, _, _, _, _, _, _, _, _, _, _, _, _, _, _, rfl, ?_⟩
  refine NewVC.blk fun g3 w12 hg3 hz12 hE12 hb12 => ?_
  refine setAll (parseND inM L).1.cells 0 w12 _ _ hb12 rfl fun w13 hz13 hm13 hb13 => ?_
  have hb13 : Blk w13 g3 35 (parseND inM L).1.cells := hb13
  have hE1113 : Ext w11 w13 := hE12.set hm13 (by omega)
  have hE1013 := hE11.ext hE1113
  refine Br.yes rfl ⟨_, _, _, _, _, _, _, _, _, _, _, _, _, _, _, _, _, _, _, _, _, _, _, _, _, _, _, _, CellsAt.blk (hb810.ext hE1013), _, _, _, _, _, _, _, _, _, _, _, _, _, _, _, _, _, _, _, _, _, _, _, _, _, _, _, _, CellsAt.blk hb13, Br.t (eqND_refl _) ?_⟩
  refine (same_spec (own_cells (own_ext hownW10 hE1013)) (own_cells (own_ext hownC110 hE1013)) (by simp [roomS]) (by simp [roomS]) (by omega)).mono ?_
  rintro _ w14 ⟨hE14, rfl⟩
  exact ⟨_, rfl, by simp, (hE010.ext hE1013).ext hE14⟩
set_option maxHeartbeats 1000000 in
theorem ndPuts_law {n : NDV} (hB : Bts n.p.bytes) (hM : Bts n.mac) (hk : -9223372036854775808 ≤ n.kind ∧ n.kind ≤ 9223372036854775807) (hT : Tab w) :
    Calls Tryd.prog 4 #[n.val] w fun e w' => e = .returned (.bool true) ∧ Ext w w' := by
  refine weirlaw8_IcmpNdPuts_of n.kind n.p.v n.p.a0 n.p.a1 n.p.a2 n.p.a3 n.p.a4 n.p.a5 n.p.a6 n.p.a7 n.p.a8 n.p.a9 n.p.a10 n.p.a11 n.p.a12 n.p.a13 n.p.a14 n.p.a15 n.r n.s n.o n.h n.m0 n.m1 n.m2 n.m3 n.m4 n.m5 w _ ?_
  unfold weirlaw8_IcmpNdPuts_VC
  refine NewVC.blk fun g1 w1 hg1 hz1 hE1 hb1 => ?_
  have hb1 : Blk w1 g1 35 n.cells := hb1
  refine (neighbours_spec (hT.ext hE1)).mono ?_
  rintro _ w2 ⟨hE2, rfl⟩
  have hE02 := hE1.ext hE2
  have hb1 := hb1.ext hE2
  refine ⟨_, rfl, Br.f rfl ⟨_, _, _, _, _, _, _, _, _, _, _, _, _, _, _, _, _, _, _, _, _, _, _, _, _, _, _, _, CellsAt.blk hb1, ?_⟩⟩
  refine (PutND_spec hB hM hk (hT.ext hE02)).mono ?_
  rintro _ w3 ⟨hE3, A, k, rfl, hownA⟩
  have hpv : ∀ A k, ∃ v t c r, putM n A k = ⟨v, t, c, r, A, (putD n).length, k⟩ ∧ ∀ A' k', putM n A' k' = ⟨v, t, c, r, A', (putD n).length, k'⟩ := fun A k => by
    unfold putM putD
    by_cases h : putE n = 0
    · simp only [h, if_true]; exact ⟨_, _, _, _, rfl, fun _ _ => rfl⟩
    · simp only [h, if_false]; exact ⟨_, _, _, _, rfl, fun _ _ => rfl⟩
  obtain ⟨v, t, c, r, -, hall⟩ := hpv A k
  have hlen : (putD n).length ≤ 24 := by
    unfold putD
    split
    · rw [dataND_len]; split <;> decide
    · exact Nat.zero_le _
  rw [hall]
  refine ⟨_, _, _, _, _, _, _, _, rfl, ?_⟩
  have s3 := hE3.size
  refine NewVC.blk fun g2 w4 hg2 hz4 hE4 hb4 => ?_
  refine setAll (MsgV.cells ⟨v, t, c, r, A, (putD n).length, k⟩) 0 w4 _ _ hb4 rfl fun w5 hz5 hm5 hb5 => ?_
  have hb5 : Blk w5 g2 24 (MsgV.cells ⟨v, t, c, r, A, (putD n).length, k⟩) := hb5
  have hE35 : Ext w3 w5 := hE4.set hm5 (by omega)
  have hE05 := (hE02.ext hE3).ext hE35
  have hownA5 := own_ext hownA hE35
  refine ⟨_, _, _, _, _, _, _, _, _, _, _, _, _, _, _, _, _, _, _, _, _, _, _, _, _, _, _, _, CellsAt.blk ((hb1.ext hE3).ext hE35), ?_⟩
  refine (refPutND_spec (n := n) hB hk).mono ?_
  rintro _ w6 ⟨hE6, A2, k2, rfl, hownA2⟩
  rw [hall]
  refine ⟨_, _, _, _, _, _, _, _, rfl, ?_⟩
  have s6 := hE6.size
  refine NewVC.blk fun g3 w7 hg3 hz7 hE7 hb7 => ?_
  refine setAll (MsgV.cells ⟨v, t, c, r, A2, (putD n).length, k2⟩) 0 w7 _ _ hb7 rfl fun w8 hz8 hm8 hb8 => ?_
  have hb8 : Blk w8 g3 24 (MsgV.cells ⟨v, t, c, r, A2, (putD n).length, k2⟩) := hb8
  have hE68 : Ext w6 w8 := hE7.set hm8 (by omega)
  have hE58 := hE6.ext hE68
  have hownA28 := own_ext hownA2 hE68
  have hownA8 := own_ext hownA5 hE58
  refine Br.no (by simp) ⟨_, _, _, _, _, _, _, CellsAt.blk (hb5.ext hE58), _, _, _, _, _, _, _, CellsAt.blk hb8, ?_⟩
  refine (same8_spec (a := ⟨v, t, c, r, A, (putD n).length, k⟩) (b := ⟨v, t, c, r, A2, (putD n).length, k2⟩) (own_cells hownA8) (own_cells hownA28) rfl rfl (by show (putD n).length ≤ _; omega)).mono ?_
  rintro _ w9 ⟨hE9, rfl⟩
  have hE59 := hE58.ext hE9
  have hE09 := hE05.ext hE59
  have hownA9 := own_ext hownA8 hE9
  have hownA29 := own_ext hownA28 hE9
  refine ⟨_, rfl, Br.f (by simp) ⟨_, _, _, (hb5.ext hE59).cell 4, ?_⟩⟩
  have sA : w2.heap.size ≤ w9.heap.size := by
    have := hE59.size
    have := hE35.size
    omega
  refine (marked_spec hownA9 (by omega) sA).mono ?_
  rintro _ w10 ⟨hm10, g, ps, rfl, hps, hst⟩
  refine ⟨_, _, _, rfl, ?_⟩
  have hE010 : Ext w w10 := hE09.trans' hm10 fun i hi e => by have := own_new hownA9 i e.symm; have := hE02.size; omega
  have tyne : ∀ {g t : Nat} {cs : List Value}, Blk w9 g t cs → t ≠ 5 → Blk w10 g t cs := fun hb ht => hb.mod hm10 fun e => own_ty hownA9 hb ht _ e.symm rfl
  have hb110 := tyne (((hb1.ext hE3).ext hE35).ext hE59) (by decide)
  have hb810 := tyne (hb8.ext hE9) (by decide)
  have hownA210 : w10.ownsRow w5.heap.size 5 1 (.slice A2 (putD n).length k2) (putD n).length ((putD n).map (.int .u8)) := own_mod hownA29 hm10 fun i hi e => by
    have h1 := own_new hownA29 i hi
    have h2 := (hownA5.lt i e.symm).2
    omega
  refine ⟨_, _, _, _, _, _, _, _, _, _, _, _, _, _, _, _, _, _, _, _, _, _, _, _, _, _, _, _, CellsAt.blk hb110, ?_⟩
  refine (PutND_spec hB hM hk (hT.ext hE010)).mono ?_
  rintro _ w11 ⟨hE11, A3, k3, rfl, hownA3⟩
  rw [hall]
  refine ⟨_, _, _, _, _, _, _, _, rfl, ?_⟩
  have s11 := hE11.size
  refine NewVC.blk fun g4 w12 hg4 hz12 hE12 hb12 => ?_
  refine setAll (MsgV.cells ⟨v, t, c, r, A3, (putD n).length, k3⟩) 0 w12 _ _ hb12 rfl fun w13 hz13 hm13 hb13 => ?_
  have hb13 : Blk w13 g4 24 (MsgV.cells ⟨v, t, c, r, A3, (putD n).length, k3⟩) := hb13
  have hE1113 : Ext w11 w13 := hE12.set hm13 (by omega)
  have hE1013 := hE11.ext hE1113
  refine Br.yes rfl ⟨_, _, _, _, _, _, _, CellsAt.blk hb13, _, _, _, _, _, _, _, CellsAt.blk (hb810.ext hE1013), ?_⟩
  refine (same8_spec (a := ⟨v, t, c, r, A3, (putD n).length, k3⟩) (b := ⟨v, t, c, r, A2, (putD n).length, k2⟩) (own_cells (own_ext hownA3 hE1113)) (own_cells (own_ext hownA210 hE1013)) rfl rfl (by show (putD n).length ≤ _; omega)).mono ?_
  rintro _ w14 ⟨hE14, rfl⟩
  have hE014 := (hE010.ext hE1013).ext hE14
  refine ⟨_, rfl, Br.t (by simp) ?_⟩
  refine (neighbours_spec (hT.ext hE014)).mono ?_
  rintro _ w15 ⟨hE15, rfl⟩
  refine ⟨_, rfl, Br.t rfl ?_⟩
  refine (stand_spec ((hst.ext (hE1013.ext hE14)).ext hE15) hps (by decide)).mono ?_
  rintro _ _ ⟨rfl, rfl⟩
  exact ⟨_, rfl, rfl, hE014.ext hE15⟩
end
end Nd
end Go.Proofs.YtjngdcilnipjcaaDoor
