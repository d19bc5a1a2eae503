/- What the statements ask first of all (firsts, awake). -/
import Derived.Test.YtjngdcilnipjcaaDoorIc5
namespace Go.Eng
open Go Go.RowKit
theorem CellsAt.part {w : World} {g : Nat} {t : TypeId} {cs ds es : List Value} (h : Blk w g t cs) (k : Nat) (hd : cs.drop k = ds ++ es) : CellsAt w ⟨g, k, none⟩ 0 ds := by
  refine CellsAt.of ds 0 fun j v hj => ?_
  rw [addr_add, Nat.zero_add, h.cell]
  have e : cs[k + j]? = (cs.drop k)[j]? := by rw [List.getElem?_drop]
  rw [e, hd, List.getElem?_append_left (List.getElem?_eq_some_iff.1 hj).1]; exact hj
def zeroM : MsgV := ⟨0, 0, 0, 0, none, 0, 0⟩
def zeroIP : IPV := ⟨0, 0, 0, 0, 0, 0, 0, 0, 0, 0, 0, 0, 0, 0, 0, 0, 0⟩
theorem zeroIP_bts : Bts zeroIP.bytes := by intro x hx; simp [zeroIP, IPV.bytes] at hx; omega
def ndD : Value := .agg #[.int .i64 1, .int .i64 4, .int .u8 0, .int .u8 0, .int .u8 0, .int .u8 0, .int .u8 0, .int .u8 0, .int .u8 0, .int .u8 0, .int .u8 0, .int .u8 0, .int .u8 0, .int .u8 0, .int .u8 0, .int .u8 0, .int .u8 0, .int .u8 0,
  .bool false, .bool false, .bool false, .bool false, .int .u8 1, .int .u8 0, .int .u8 0, .int .u8 0, .int .u8 0, .int .u8 0]
def ndDC : List Value := [.int .i64 1, .int .i64 4, .int .u8 0, .int .u8 0, .int .u8 0, .int .u8 0, .int .u8 0, .int .u8 0, .int .u8 0, .int .u8 0, .int .u8 0, .int .u8 0, .int .u8 0, .int .u8 0, .int .u8 0, .int .u8 0, .int .u8 0, .int .u8 0,
  .bool false, .bool false, .bool false, .bool false, .int .u8 1, .int .u8 0, .int .u8 0, .int .u8 0, .int .u8 0, .int .u8 0]
end Go.Eng
namespace Go.Proofs.YtjngdcilnipjcaaDoor
open Go.Eng Go.RowKit

section
variable {w : World}
theorem putNDd_spec : Calls Tryd.prog 19 #[ndD] w fun e w' => Ext w w' ∧ e = .returned (.tuple #[zeroM.val, .int .i64 1]) := by
  refine icmp_PutND_of 1 4 0 0 0 0 0 0 0 0 0 0 0 0 0 0 0 0 false false false false 1 0 0 0 0 0 w _ ?_
  unfold icmp_PutND_VC
  refine NewVC.blk fun g1 w1 hg1 hz1 hE1 hb1 => NewVC.blk fun g2 w2 hg2 hz2 hE2 hb2 => ?_
  have hb1 : Blk w2 g1 _ ndDC := hb1.ext hE2
  have hE := hE1.ext hE2
  refine JoinVC.of (fun s w' => s = false ∧ w' = w2) ⟨_, hb1.cell 0, Br.no (by decide) ⟨rfl, rfl⟩⟩ ?_
  rintro _ w3 ⟨rfl, rfl⟩
  unfold icmp_PutND_J12
  refine Br.f rfl ?_
  refine JoinVC.of (fun s w' => s = false ∧ w' = w3) ⟨_, hb1.cell 0, Br.yes rfl ⟨_, hb1.cell 18, Br.f rfl ⟨_, hb1.cell 19, Br.f rfl ⟨_, hb1.cell 20, rfl, rfl⟩⟩⟩⟩ ?_
  rintro _ w9 ⟨rfl, rfl⟩
  unfold icmp_PutND_J51
  refine Br.f rfl ?_
  refine JoinVC.of (fun s w' => s = true ∧ w' = w9) ⟨_, hb1.cell 21, Br.t rfl ⟨_, _, _, _, _, _, CellsAt.part hb1 22 (es := []) rfl, rfl, rfl⟩⟩ ?_
  rintro _ w15 ⟨rfl, rfl⟩
  unfold icmp_PutND_J207
  refine Br.t rfl ?_
  refine set5 hb2 fun w' hz hm hb' => ⟨_, _, _, _, _, _, _, CellsAt.blk hb', hE.set hm (by omega), rfl⟩
theorem refPutNDd_spec : Calls Tryd.prog 20 #[ndD] w fun e w' => Ext w w' ∧ e = .returned (.tuple #[zeroM.val, .int .i64 1]) := by
  refine weirref8_PutND_of 1 4 0 0 0 0 0 0 0 0 0 0 0 0 0 0 0 0 false false false false 1 0 0 0 0 0 w _ ?_
  unfold weirref8_PutND_VC
  refine NewVC.blk fun g1 w1 hg1 hz1 hE1 hb1 => NewVC.blk fun g2 w2 hg2 hz2 hE2 hb2 => NewVC.blk fun g3 w3 hg3 hz3 hE3 hb3 => ?_
  have hb1 : Blk w3 g1 _ ndDC := (hb1.ext hE2).ext hE3
  have hb2 := hb2.ext hE3
  have hE := (hE1.ext hE2).ext hE3
  refine JoinVC.of (fun _ _ => False) ?_ (fun _ _ h => h.elim)
  refine ⟨_, hb1.cell 0, Br.no (by decide) ⟨_, hb1.cell 0, Br.yes rfl ⟨_, hb1.cell 18, Br.f rfl ⟨_, hb1.cell 19, Br.f rfl ⟨_, hb1.cell 20, Br.f rfl ⟨_, hb1.cell 21, Br.t rfl ⟨_, _, _, _, _, _, CellsAt.part hb1 22 (es := []) rfl, Br.t rfl ?_⟩⟩⟩⟩⟩⟩⟩
  refine ⟨_, _, _, _, _, _, _, CellsAt.blk hb3, set5 hb2 fun w' hz hm hb' => ⟨_, _, _, _, _, _, _, CellsAt.blk hb', hE.set hm (by omega), rfl⟩⟩

def badM : MsgV := ⟨5, -1, 0, 0, none, 0, 0⟩
def bigL : List Int := List.replicate 65536 0
theorem bigL_bts : Bts bigL := by intro x hx; have := List.eq_of_mem_replicate hx; omega
theorem bigL_len : bigL.length = 65536 := List.length_replicate
theorem parse_big {v : Int} {src dst : IPV} : parseS v src dst bigL = noneP 2 := by unfold parseS; rw [if_pos (by rw [bigL_len]; decide)]
section
variable {R : Ending → World → Prop} {g1 g2 g4 g5 : Nat} {tn : TypeId} {bigM : MsgV}
set_option maxHeartbeats 1000000 in
theorem firsts_D254 (hb5 : Blk w g5 tn ndDC) (hb2 : Blk w g2 24 badM.cells) (hb4 : Blk w g4 24 bigM.cells) (hn : bigM.n ≤ 100000) (hR : ∀ w', Ext w w' → R (.returned (.bool true)) w') : weirlaw8_firsts_D254 R w g5 g2 g4 2 2 := by
  unfold weirlaw8_firsts_D254
  refine ⟨_, _, _, _, _, _, _, _, _, _, _, _, _, _, _, _, _, _, _, _, _, _, _, _, _, _, _, _, CellsAt.blk hb5, ?_⟩
  refine putNDd_spec.mono ?_
  rintro _ w79 ⟨hE79, rfl⟩
  refine ⟨_, _, _, _, _, _, _, _, rfl, ?_⟩
  refine NewVC.blk fun g10 w80 hg10 hz80 hE80 hb10 => ?_
  refine set5 hb10 fun w85 hz85 hm85 hb10 => ?_
  have s79 := hE79.size
  have hE85 := (hE79.ext hE80).set hm85 (by omega)
  refine ⟨_, _, _, _, _, _, _, _, _, _, _, _, _, _, _, _, _, _, _, _, _, _, _, _, _, _, _, _, CellsAt.blk (hb5.ext hE85), ?_⟩
  refine refPutNDd_spec.mono ?_
  rintro _ w86 ⟨hE86, rfl⟩
  refine ⟨_, _, _, _, _, _, _, _, rfl, ?_⟩
  refine NewVC.blk fun g11 w87 hg11 hz87 hE87 hb11 => ?_
  refine set5 hb11 fun w92 hz92 hm92 hb11 => ?_
  have s85 := (hE85.ext hE86).size
  have hE92 := ((hE85.ext hE86).ext hE87).set hm92 (by omega)
  refine DrawVC.of (fun w' => Ext w w') fun w93 hE93 _ => ⟨hE92.ext hE93, ?_⟩
  have hE := hE92.ext hE93
  refine ⟨_, _, _, _, _, _, _, fun w' h => CellsAt.blk (hb2.ext h), _, _, _, _, _, _, _, fun w' h => CellsAt.blk (hb2.ext h), ?_⟩
  refine (check_spec badM (by decide)).mono ?_
  rintro _ w94 ⟨hE94, rfl⟩
  refine ⟨_, rfl, hE.ext hE94, ?_⟩
  refine (refCheck8_spec badM).mono ?_
  rintro _ w95 ⟨hE95, rfl⟩
  have hE095 := (hE.ext hE94).ext hE95
  refine ⟨_, rfl, hE095, Br.yes rfl ?_⟩
  refine ⟨_, _, _, _, _, _, _, fun w' h => CellsAt.blk (hb4.ext h), _, _, _, _, _, _, _, fun w' h => CellsAt.blk (hb4.ext h), ?_⟩
  refine (check_spec bigM (by omega)).mono ?_
  rintro _ w96 ⟨hE96, rfl⟩
  refine ⟨_, rfl, hE095.ext hE96, ?_⟩
  refine (refCheck8_spec bigM).mono ?_
  rintro _ w97 ⟨hE97, rfl⟩
  exact ⟨_, rfl, (hE095.ext hE96).ext hE97, Br.yes rfl (Br.yes rfl (hR _ ((hE095.ext hE96).ext hE97)))⟩
set_option maxHeartbeats 1000000 in
theorem firsts_D126 (hb1 : Blk w g1 31 zeroIP.cells) (hb5 : Blk w g5 tn ndDC) (hb2 : Blk w g2 24 badM.cells) (hb4 : Blk w g4 24 bigM.cells) (hn : bigM.n ≤ 100000) (hR : ∀ w', Ext w w' → R (.returned (.bool true)) w') : weirlaw8_firsts_D126 R w g1 g5 g2 g4 2 := by
  unfold weirlaw8_firsts_D126
  refine DrawVC.of (fun w' => Ext w w') fun w70 hE70 _ => ⟨hE70, ?_⟩
  refine ⟨_, _, _, _, _, _, _, _, _, _, _, _, _, _, _, _, _, fun w' h => CellsAt.blk (hb1.ext h), _, _, _, _, _, _, _, _, _, _, _, _, _, _, _, _, _, fun w' h => CellsAt.blk (hb1.ext h), ?_⟩
  have last : ∀ {w' : World}, Ext w w' → weirlaw8_firsts_D254 R w' g5 g2 g4 2 2 := fun h => firsts_D254 (hb5.ext h) (hb2.ext h) (hb4.ext h) hn fun w'' h' => hR w'' (h.ext h')
  have big : ∀ {w' : World} {g n : Nat}, n = 65536 → Blk w' g 5 (List.replicate n (.int .u8 0)) → Cells w' (some ⟨g, 0, none⟩) (bigL.map (.int .u8)) := fun hn h => by
    have := Cells.of_blk h 0
    rw [List.drop_zero, hn] at this
    rwa [bigL, List.map_replicate]
  have ask : ∀ {w' : World} {g n : Nat}, n = 65536 → Blk w' g 5 (List.replicate n (.int .u8 0)) → Calls Tryd.prog 30 #[.int .i64 5, zeroIP.val, zeroIP.val, .slice (some ⟨g, 0, none⟩) 65536 65536] w' fun e w'' => Ext w' w'' ∧ ∃ A k, e = .returned (.tuple #[(MsgV.mk 0 0 0 0 A 0 k).val, .int .i64 2]) := fun {w' g n} hn h => by
    refine (refParse_spec (v := 5) (src := zeroIP) (dst := zeroIP) (big hn h) bigL_len bigL_bts zeroIP_bts zeroIP_bts).mono ?_
    rintro _ w'' ⟨hE, A, k, rfl, -⟩
    exact ⟨hE, A, k, by rw [parse_big]; rfl⟩
  refine ⟨MakeVC.blk (by decide) (by decide) (by decide) fun g8 w71 hg8 hz71 hE71 hb8 => ⟨hE70.ext hE71, ?_, ?_⟩, ?_⟩
  · refine (ask (n := (65536 : Int).toNat) (by decide) hb8).mono ?_
    rintro _ w72 ⟨hE72, A, k, rfl⟩
    have hE072 := (hE70.ext hE71).ext hE72
    have s72 := hE072.size
    refine ⟨_, _, _, _, _, _, _, _, rfl, hE072, ?_⟩
    refine NewVC.blk fun g9 w73 hg9 hz73 hE73 hb9 => ⟨hE072.ext hE73, ?_⟩
    exact set5 hb9 fun w78 hz78 hm78 hb9 => ⟨(hE072.ext hE73).set hm78 (by omega), last ((hE072.ext hE73).set hm78 (by omega))⟩
  · refine NewVC.blk fun g9 w73 hg9 hz73 hE73 hb9 => ⟨(hE70.ext hE71).ext hE73, ?_⟩
    refine (ask (n := (65536 : Int).toNat) (by decide) (hb8.ext hE73)).mono ?_
    rintro _ w72 ⟨hE72, A, k, rfl⟩
    have hE071 := hE70.ext hE71
    have s71 := hE071.size
    have hE072 := (hE071.ext hE73).ext hE72
    refine ⟨_, _, _, _, _, _, _, _, rfl, hE072, ?_⟩
    exact set5 (hb9.ext hE72) fun w78 hz78 hm78 hb9 => ⟨hE072.set hm78 (by omega), last (hE072.set hm78 (by omega))⟩
  · refine NewVC.blk fun g9 w73 hg9 hz73 hE73 hb9 => ⟨hE70.ext hE73, ?_⟩
    refine MakeVC.blk (by decide) (by decide) (by decide) fun g8 w71 hg8 hz71 hE71 hb8 => ⟨(hE70.ext hE73).ext hE71, ?_⟩
    refine (ask (n := (65536 : Int).toNat) (by decide) hb8).mono ?_
    rintro _ w72 ⟨hE72, A, k, rfl⟩
    have s70 := hE70.size
    have hE072 := ((hE70.ext hE73).ext hE71).ext hE72
    refine ⟨_, _, _, _, _, _, _, _, rfl, hE072, ?_⟩
    exact set5 ((hb9.ext hE71).ext hE72) fun w78 hz78 hm78 hb9 => ⟨hE072.set hm78 (by omega), last (hE072.set hm78 (by omega))⟩
end
set_option maxHeartbeats 4000000 in
theorem firsts_spec : Calls Tryd.prog 55 #[] w fun e w' => Ext w w' ∧ e = .returned (.bool true) := by
  refine weirlaw8_firsts_of w _ ?_
  unfold weirlaw8_firsts_VC
  refine NewVC.blk fun g1 w1 hg1 hz1 hE1 hb1 => ?_
  have hgw1 : w.heap.size ≤ g1 := by omega
  repeat (refine SetVC.blk hb1 (by decide) fun _ _ hm hb1 => ?_; replace hE1 := Ext.set hE1 hm hgw1; clear hm)
  rename_i w18 _
  have hb1 : Blk w18 g1 31 zeroIP.cells := hb1
  refine NewVC.blk fun g2 w19 hg2 hz19 hE19 hb2 => ?_
  refine set5 hb2 fun w24 hz24 hm24 hb2 => ?_
  have hb2 : Blk w24 g2 24 badM.cells := hb2
  have hE24 := hE19.set hm24 (by omega)
  refine MakeVC.blk (by decide) (by decide) (by decide) fun g3 w25 hg3 hz25 hE25 hb3 => ?_
  refine NewVC.blk fun g4 w26 hg4 hz26 hE26 hb4 => ?_
  refine set5 hb4 fun w31 hz31 hm31 hb4 => ?_
  let bigM : MsgV := ⟨4, 256, 0, 0, some ⟨g3, 0, none⟩, 65536, 65536⟩
  have hb4 : Blk w31 g4 24 bigM.cells := hb4
  have hE31 := hE26.set hm31 (by omega)
  refine NewVC.blk fun g5 w32 hg5 hz32 hE32 hb5 => ?_
  have hgw5 : w31.heap.size ≤ g5 := by omega
  repeat (refine SetVC.blk hb5 (by decide) fun _ _ hm hb5 => ?_; replace hE32 := Ext.set hE32 hm hgw5; clear hm)
  rename_i w60 _
  have hb5 : Blk w60 g5 _ ndDC := hb5
  have hE60 : Ext w18 w60 := ((hE24.ext hE25).ext hE31).ext hE32
  have hE060 := hE1.ext hE60
  have hb1 := hb1.ext hE60
  have hb2 := hb2.ext ((hE25.ext hE31).ext hE32)
  have hb4 := hb4.ext hE32
  have last : ∀ {w' : World}, Ext w60 w' → weirlaw8_firsts_D126 (fun e w' => Ext w w' ∧ e = .returned (.bool true)) w' g1 g5 g2 g4 2 := fun h => firsts_D126 (hb1.ext h) (hb5.ext h) (hb2.ext h) (hb4.ext h) (by show 65536 ≤ 100000; decide) fun w'' h' => ⟨(hE060.ext h).ext h', rfl⟩
  have big : ∀ {w' : World} {g n : Nat}, n = 65536 → Blk w' g 5 (List.replicate n (.int .u8 0)) → Cells w' (some ⟨g, 0, none⟩) (bigL.map (.int .u8)) := fun hn h => by
    have := Cells.of_blk h 0
    rw [List.drop_zero, hn] at this
    rwa [bigL, List.map_replicate]
  have ask : ∀ {w' : World} {g n : Nat}, n = 65536 → Blk w' g 5 (List.replicate n (.int .u8 0)) → Calls Tryd.prog 29 #[.int .i64 5, zeroIP.val, zeroIP.val, .slice (some ⟨g, 0, none⟩) 65536 65536] w' fun e w'' => Ext w' w'' ∧ ∃ A k, e = .returned (.tuple #[(MsgV.mk 0 0 0 0 A 0 k).val, .int .i64 2]) := fun {w' g n} hn h => by
    refine (parse_spec (v := 5) (src := zeroIP) (dst := zeroIP) (big hn h) bigL_len bigL_bts (Nat.le_refl _) zeroIP_bts zeroIP_bts).mono ?_
    rintro _ w'' ⟨hE, A, rfl, -⟩
    exact ⟨hE, A, 0, by rw [parse_big]; rfl⟩
  refine DrawVC.of (fun w' => Ext w60 w') fun w61 hE61 _ => ⟨hE61, ?_⟩
  refine ⟨_, _, _, _, _, _, _, _, _, _, _, _, _, _, _, _, _, fun w' h => CellsAt.blk (hb1.ext h), _, _, _, _, _, _, _, _, _, _, _, _, _, _, _, _, _, fun w' h => CellsAt.blk (hb1.ext h), ?_⟩
  refine ⟨MakeVC.blk (by decide) (by decide) (by decide) fun g8 w71 hg8 hz71 hE71 hb8 => ⟨hE61.ext hE71, ?_, ?_⟩, ?_⟩
  · refine (ask (n := (65536 : Int).toNat) (by decide) hb8).mono ?_
    rintro _ w72 ⟨hE72, A, k, rfl⟩
    have hE072 := (hE61.ext hE71).ext hE72
    have s72 := hE072.size
    refine ⟨_, _, _, _, _, _, _, _, rfl, hE072, ?_⟩
    refine NewVC.blk fun g9 w73 hg9 hz73 hE73 hb9 => ⟨hE072.ext hE73, ?_⟩
    exact set5 hb9 fun w78 hz78 hm78 hb9 => ⟨(hE072.ext hE73).set hm78 (by omega), last ((hE072.ext hE73).set hm78 (by omega))⟩
  · refine NewVC.blk fun g9 w73 hg9 hz73 hE73 hb9 => ⟨(hE61.ext hE71).ext hE73, ?_⟩
    refine (ask (n := (65536 : Int).toNat) (by decide) (hb8.ext hE73)).mono ?_
    rintro _ w72 ⟨hE72, A, k, rfl⟩
    have hE071 := hE61.ext hE71
    have s71 := hE071.size
    have hE072 := (hE071.ext hE73).ext hE72
    refine ⟨_, _, _, _, _, _, _, _, rfl, hE072, ?_⟩
    exact set5 (hb9.ext hE72) fun w78 hz78 hm78 hb9 => ⟨hE072.set hm78 (by omega), last (hE072.set hm78 (by omega))⟩
  · refine NewVC.blk fun g9 w73 hg9 hz73 hE73 hb9 => ⟨hE61.ext hE73, ?_⟩
    refine MakeVC.blk (by decide) (by decide) (by decide) fun g8 w71 hg8 hz71 hE71 hb8 => ⟨(hE61.ext hE73).ext hE71, ?_⟩
    refine (ask (n := (65536 : Int).toNat) (by decide) hb8).mono ?_
    rintro _ w72 ⟨hE72, A, k, rfl⟩
    have s61 := hE61.size
    have hE072 := ((hE61.ext hE73).ext hE71).ext hE72
    refine ⟨_, _, _, _, _, _, _, _, rfl, hE072, ?_⟩
    exact set5 ((hb9.ext hE71).ext hE72) fun w78 hz78 hm78 hb9 => ⟨hE072.set hm78 (by omega), last (hE072.set hm78 (by omega))⟩
end
end Go.Proofs.YtjngdcilnipjcaaDoor
