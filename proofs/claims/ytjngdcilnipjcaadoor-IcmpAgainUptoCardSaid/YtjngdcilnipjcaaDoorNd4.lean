/- Neighbour discovery: ParseND (the program's). -/
import Derived.Test.YtjngdcilnipjcaaDoorNd3
namespace Go.Proofs.YtjngdcilnipjcaaDoor
namespace Nd
open Go.Eng Go.RowKit
section
variable {w : World} {m : MsgV} {data : List Int}
set_option maxHeartbeats 1000000 in
theorem ParseND_spec (hd : Cells w m.A (data.map (.int .u8))) (hl : data.length = m.n) (hB : Bts data) (hnk : m.n ≤ m.k) (hn : m.n ≤ 1048576) (hT : Tab w) :
    Calls Tryd.prog 16 #[m.val] w fun e w' => Ext w w' ∧ e = .returned (.tuple #[(parseND m data).1.val, .int .i64 (parseND m data).2]) := by
  refine icmp_ParseND_of m.v m.t m.c m.r m.A m.n m.k w _ ?_
  unfold icmp_ParseND_VC
  refine NewVC.blk fun g1 w1 hg1 hz1 hE1 hb1 => NewVC.blk fun g2 w2 hg2 hz2 hE2 hb2 => ?_
  have hb1 : Blk w2 g1 24 m.cells := hb1.ext hE2
  have hE := hE1.ext hE2
  refine ⟨_, _, _, _, _, _, _, CellsAt.blk hb1, ?_⟩
  refine (check_spec m (by omega)).mono ?_
  rintro _ w3 ⟨hE3, rfl⟩
  have s23 := hE3.size
  have hE := hE.ext hE3
  have hb1 := hb1.ext hE3
  have hb2 := hb2.ext hE3
  have s3 := hE.size
  refine ⟨_, rfl, Br.dec (fun hc => parse_fail hE (by omega) hb2 rfl (by unfold parseND; rw [if_pos hc])) fun hc => ?_⟩
  have hck : checkS m = 0 := by omega
  have hok := checkS_ok hck
  refine JoinVC.of (fun _ w' => w3 = w' ∧ ¬ (m.v ≠ 6 ∨ (m.t ≠ 135 ∧ m.t ≠ 136) ∨ m.c ≠ 0)) ?_ ?_
  · have bad : (m.v ≠ 6 ∨ (m.t ≠ 135 ∧ m.t ≠ 136) ∨ m.c ≠ 0) → parseND m data = (zeroND, 83) := fun h => by unfold parseND; rw [if_neg (by omega), if_pos h]
    refine ⟨_, hb1.cell 0, Br.dec (fun h => parse_fail hE (by omega) hb2 rfl (bad (.inl h))) fun h => ⟨_, hb1.cell 1, Br.dec (fun h1 => ⟨_, hb1.cell 1, Br.dec (fun h2 => parse_fail hE (by omega) hb2 rfl (bad (.inr (.inl ⟨h1, h2⟩)))) fun h2 => ⟨_, hb1.cell 2, Br.dec (fun h3 => parse_fail hE (by omega) hb2 rfl (bad (.inr (.inr h3)))) fun h3 => ⟨rfl, by omega⟩⟩⟩) fun h1 => ⟨_, hb1.cell 2, Br.dec (fun h3 => parse_fail hE (by omega) hb2 rfl (bad (.inr (.inr h3)))) fun h3 => ⟨rfl, by omega⟩⟩⟩⟩
  rintro _ _ ⟨rfl, hkind⟩
  unfold icmp_ParseND_J7
  refine ⟨_, _, _, hb1.cell 4, Br.dec (fun h => parse_fail hE (by omega) hb2 rfl (by unfold parseND; rw [if_neg (by omega), if_neg hkind, if_pos (by omega)])) fun h16 => ⟨_, _, _, hb1.cell 4, ?_⟩⟩
  refine ⟨by omega, by omega, ?_⟩
  have hd3 := hd.ext hE
  obtain ⟨a, ha, _⟩ := hd3.at (i := 0) (by simp; omega)
  have hc16 := CellsAt.getD (p := 0) hd3 ha 16 0 (by omega)
  rw [add_zero] at hc16
  refine ⟨by decide, a, ha, _, _, _, _, _, _, _, _, _, _, _, _, _, _, _, _, hc16, ?_⟩
  refine NewVC.blk fun g3 w4 hg3 hz4 hE4 hb3 => ?_
  refine setAll (NDV.cells ⟨1, ipOf data, false, false, false, false, 0, 0, 0, 0, 0, 0⟩) 0 w4 _ _ hb3 rfl fun w5 hz5 hm5 hb3 => ?_
  have hb3 : Blk w5 g3 35 (NDV.cells ⟨1, ipOf data, false, false, false, false, 0, 0, 0, 0, 0, 0⟩) := hb3
  have hE35 : Ext w3 w5 := hE4.set hm5 (by omega)
  have hE := hE.ext hE35
  have hb1 := hb1.ext hE35
  have hb2 := hb2.ext hE35
  have l1 := hb1.lt
  have l2 := hb2.lt
  have l3 := hb3.lt
  refine ⟨_, _, _, _, _, _, _, _, _, _, _, _, _, _, _, _, _, CellsAt.part hb3 1 (ds := (ipOf data).cells) (es := [.bool false, .bool false, .bool false, .bool false, .int .u8 0, .int .u8 0, .int .u8 0, .int .u8 0, .int .u8 0, .int .u8 0]) rfl, ?_⟩
  refine (noTarget_spec (ipOf data) (hT.ext hE)).mono ?_
  rintro _ w6 ⟨hE6, rfl⟩
  have hE := hE.ext hE6
  have hb1 := hb1.ext hE6
  have hb2 := hb2.ext hE6
  have hb3 := hb3.ext hE6
  have s6 := hE6.size
  rw [noTarget_eq rfl (ipOf_bts hB)]
  refine ⟨_, rfl, ?_⟩
  have hp : parseND m data = if targetS (ipOf data) then optS data.length (headND m data) (data.drop 16) else (zeroND, 86) := by
    unfold parseND; rw [if_neg (by omega), if_neg hkind, if_neg (by omega)]
  cases ht : targetS (ipOf data) with
  | false => exact Br.t rfl (parse_fail hE (by omega) hb2 rfl (by rw [hp, ht]; rfl))
  | true =>
  rw [ht, if_pos rfl] at hp
  have n13 : g1 ≠ g3 := by omega
  have n23 : g2 ≠ g3 := by omega
  refine Br.f rfl (JoinVC.of (fun _ w' => Mod (fun k => k = g3) w6 w' ∧ Blk w' g3 35 (headND m data).cells) ?_ ?_)
  · refine ⟨_, hb1.cell 1, Br.dec (fun h136 => ?_) fun h136 => ⟨Mod.refl _ _, ?_⟩⟩
    · have hh : headND m data = ⟨2, ipOf data, flagS m.r 2147483648, flagS m.r 1073741824, flagS m.r 536870912, false, 0, 0, 0, 0, 0, 0⟩ := by
        unfold headND; rw [h136]; simp
      refine SetVC.blk (g := g3) (i := 0) hb3 (by simp [NDV.cells]) fun w7 hz7 hm7 hb7 => ?_
      refine DrawVC.of (fun w' => Blk w' g1 24 m.cells) fun w8 hE8 hz8 => ⟨(hb1.mod hm7 n13).ext hE8, ?_⟩
      have hb18 := (hb1.mod hm7 n13).ext hE8
      refine ⟨_, fun w' h => h.cell 3, _, fun w' h => h.cell 3, _, fun w' h => h.cell 3, ?_⟩
      refine SetVC.blk (g := g3) (i := 18) (hb7.ext hE8) (by simp [NDV.cells]) fun w9 hz9 hm9 hb9 => ⟨hb18.mod hm9 n13, ?_⟩
      refine SetVC.blk (g := g3) (i := 19) hb9 (by simp [NDV.cells]) fun w10 hz10 hm10 hb10 => ⟨(hb18.mod hm9 n13).mod hm10 n13, ?_⟩
      refine SetVC.blk (g := g3) (i := 20) hb10 (by simp [NDV.cells]) fun w11 hz11 hm11 hb11 => ?_
      have f1 := and_flag 31 (by decide) (r := m.r) (by omega) (by omega)
      have f2 := and_flag 30 (by decide) (r := m.r) (by omega) (by omega)
      have f3 := and_flag 29 (by decide) (r := m.r) (by omega) (by omega)
      rw [show ((2 ^ 31 : Nat) : Int) = 2147483648 from rfl] at f1
      rw [show ((2 ^ 30 : Nat) : Int) = 1073741824 from rfl] at f2
      rw [show ((2 ^ 29 : Nat) : Int) = 536870912 from rfl] at f3
      refine ⟨((hm7.ext hE8).trans ((hm9.trans hm10).trans hm11)), ?_⟩
      rw [hh, ← f1, ← f2, ← f3]
      exact hb11
    · have h135 : m.t = 135 := by omega
      have hh : headND m data = ⟨1, ipOf data, false, false, false, false, 0, 0, 0, 0, 0, 0⟩ := by
        unfold headND; rw [h135]; simp
      rw [hh]
      exact hb3
  rintro _ w7 ⟨hm7, hb3⟩
  have hE7 := hE.set hm7 (by omega)
  have hb1 := hb1.mod hm7 n13
  have hb2 := hb2.mod hm7 n23
  have s7 := hm7.size
  unfold icmp_ParseND_J127
  refine ⟨_, _, _, hb1.cell 4, ?_⟩
  refine At_spec.mono ?_
  rintro _ w8 ⟨hE8, rfl, hbc⟩
  have hd8 := hd.ext (hE7.ext hE8)
  have hblk : ∀ a, m.A = some a → a.block < w.heap.size := fun a ha => hd.lt (by simp; omega) ha
  refine ⟨_, rfl, ?_⟩
  refine (curSkip_spec (k := 16) hbc hd8 hl (by omega) hnk).mono ?_
  rintro _ w9 ⟨hm9, rfl, hbc9⟩
  refine ⟨_, rfl, ?_⟩
  have hw16 : (winS data 0 16).2 = 0 := by unfold winS; rw [if_pos ⟨by omega, by omega, by omega⟩]
  rw [hw16] at hbc9
  have hcn : w.heap.size ≤ w7.heap.size := hE7.size
  have l3' := hb3.lt
  have l2' := hb2.lt
  refine parse_loop (m := m) ((hE7.ext hE8).set hm9 hcn) (by omega) (by omega) hcn n23 (by omega) (by omega) ((hb2.ext hE8).mod hm9 (by show ¬ g2 = w7.heap.size; omega)) rfl ((hb3.ext hE8).mod hm9 (by show ¬ g3 = w7.heap.size; omega)) hbc9
    (hd8.mod hm9 fun a ha _ => by have := hblk a ha; show ¬ a.block = w7.heap.size; omega) hl hB hnk hn (by omega) (fun a ha => by have := hblk a ha; omega) hp.symm
end
end Nd
end Go.Proofs.YtjngdcilnipjcaaDoor
