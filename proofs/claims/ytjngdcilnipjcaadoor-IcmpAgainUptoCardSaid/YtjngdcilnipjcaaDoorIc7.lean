/- IcmpWrites, without the row: Check and Serialise of any values. -/
import Derived.Test.YtjngdcilnipjcaaDoorIc6
namespace Go.Eng
open Go Go.RowKit
theorem ser_echo {A : Option Addr} {k : Nat} : serS ⟨4, 8, 0, 65537, A, 0, k⟩ zeroIP zeroIP [] = ([8, 0, 247, 253, 0, 1, 0, 1], 0) := by rfl
theorem parse_echo : parseS 4 zeroIP zeroIP [8, 0, 247, 253, 0, 1, 0, 1] = ⟨4, 8, 0, 65537, [], 0⟩ := by rfl
theorem parse_wrong : parseS 4 zeroIP zeroIP [8, 0, 247, 254, 0, 1, 0, 1] = noneP 81 := by rfl
theorem serS_len {m : MsgV} {src dst : IPV} {data : List Int} : (serS m src dst data).1.length ≤ 8 + data.length := by
  unfold serS
  split
  · simp
  · split
    · simp
    · simp [headS_len]
theorem serS_bts {m : MsgV} {src dst : IPV} {data : List Int} (hB : Bts data) (hs : Bts src.bytes) (hd : Bts dst.bytes) (hl : data.length = m.n) : Bts (serS m src dst data).1 := by
  unfold serS
  split
  · intro x hx; cases hx
  · rename_i h
    have hok : checkS m = 0 := Decidable.not_not.1 h
    obtain ⟨hv, ht, hc, hr, hn⟩ := checkS_ok hok
    split
    · intro x hx; cases hx
    · have hh : Bts (headS m.t m.c 0 m.r) := headS_bts ht hc ⟨by decide, by decide⟩ hr
      have hb : Bts (overS m.v src dst (headS m.t m.c 0 m.r ++ data)) := by
        have hlen : (headS m.t m.c 0 m.r ++ data).length ≤ 65535 := by rw [List.length_append, headS_len]; omega
        unfold overS
        split
        · exact hh.append hB
        · exact (pseudoL_bts hs hd (by omega) (by omega)).append (hh.append hB)
      have := sumS_bound hb
      exact (headS_bts ht hc (by omega) hr).append hB
end Go.Eng
namespace Go.Proofs.YtjngdcilnipjcaaDoor
open Go.Eng Go.RowKit

section
variable {w : World}
set_option maxHeartbeats 1000000 in
theorem awake_spec : Calls Tryd.prog 25 #[] w fun e w' => Ext w w' ∧ e = .returned (.bool true) := by
  refine weirlaw8_awake_of w _ ?_
  unfold weirlaw8_awake_VC
  refine firsts_spec.mono ?_
  rintro _ w1 ⟨hE1, rfl⟩
  refine ⟨_, rfl, Br.f rfl ?_⟩
  refine echo_spec.mono ?_
  rintro _ w2 ⟨hE2, rfl⟩
  refine ⟨_, _, _, _, _, _, _, rfl, ?_⟩
  refine (serialise_spec (m := echoV) (src := zeroIP) (dst := zeroIP) (data := []) (Cells.nil _ _) rfl (fun _ h => by cases h) (by decide) zeroIP_bts zeroIP_bts).mono ?_
  rintro _ w3 ⟨hE3, SA, sc, rfl, howns⟩
  have hE03 := (hE1.ext hE2).ext hE3
  have eS : serS echoV zeroIP zeroIP [] = ([8, 0, 247, 253, 0, 1, 0, 1], 0) := ser_echo
  rw [eS] at howns ⊢
  refine ⟨_, _, _, _, rfl, ?_⟩
  refine NewVC.blk fun g1 w4 hg1 hz4 hE4 hb1 => ?_
  refine (parse_spec (v := 4) (src := zeroIP) (dst := zeroIP) (bs := [8, 0, 247, 253, 0, 1, 0, 1]) (Cells.of_blk hb1 0) rfl (by intro x hx; simp at hx; omega) (Nat.le_refl _) zeroIP_bts zeroIP_bts).mono ?_
  rintro _ w5 ⟨hE5, A5, rfl, -, -⟩
  rw [parse_echo]
  refine ⟨_, _, _, _, _, _, _, _, rfl, ?_⟩
  refine NewVC.blk fun g2 w6 hg2 hz6 hE6 hb2 => ?_
  refine set5 hb2 fun w11 hz11 hm11 hb2 => ?_
  have hE05 := (hE03.ext hE4).ext hE5
  have s5 := hE05.size
  have hE011 := (hE05.ext hE6).set hm11 (by omega)
  have hE311 : Ext w3 w11 := ((hE4.ext hE5).ext hE6).set hm11 (by have := (hE4.ext hE5).size; omega)
  refine NewVC.blk fun g3 w12 hg3 hz12 hE12 hb3 => ?_
  refine (parse_spec (v := 4) (src := zeroIP) (dst := zeroIP) (bs := [8, 0, 247, 254, 0, 1, 0, 1]) (Cells.of_blk hb3 0) rfl (by intro x hx; simp at hx; omega) (Nat.le_refl _) zeroIP_bts zeroIP_bts).mono ?_
  rintro _ w13 ⟨hE13, A13, rfl, -, -⟩
  rw [parse_wrong]
  refine ⟨_, _, _, _, _, _, _, _, rfl, ?_⟩
  refine NewVC.blk fun g4 w14 hg4 hz14 hE14 hb4 => ?_
  refine set5 hb4 fun w19 hz19 hm19 hb4 => ?_
  have hE1119 : Ext w11 w19 := ((hE12.ext hE13).ext hE14).set hm19 (by have := (hE12.ext hE13).size; omega)
  have hE019 := hE011.ext hE1119
  let q : MsgV := ⟨4, 8, 0, 65537, A5, 0, 0⟩
  have hb2 : Blk w11 g2 24 q.cells := hb2
  refine DrawVC.of (fun w' => Ext w19 w') fun w20 hE20 _ => ⟨hE20, ?_⟩
  refine Br.yes rfl (Br.yes rfl (Br.yes rfl ?_))
  refine ⟨_, _, _, _, _, _, _, fun w' h => CellsAt.blk (hb2.ext (hE1119.ext h)), ?_⟩
  refine echo_spec.mono ?_
  rintro _ w21 ⟨hE21, rfl⟩
  refine ⟨_, _, _, _, _, _, _, rfl, hE20.ext hE21, ?_⟩
  refine (same8_spec (a := q) (b := echoV) (da := []) (db := []) (Cells.nil _ _) (Cells.nil _ _) rfl rfl (by show 0 ≤ 100000000; decide)).mono ?_
  rintro _ w22 ⟨hE22, rfl⟩
  have hE1922 := (hE20.ext hE21).ext hE22
  refine ⟨_, rfl, hE1922, Br.t (by simp [q, echoV]) ?_⟩
  refine NewVC.blk fun g5 w23 hg5 hz23 hE23 hb5 => ⟨hE1922.ext hE23, ?_⟩
  have hE323 := (hE311.ext hE1119).ext (hE1922.ext hE23)
  refine (same_spec (xs := [8, 0, 247, 253, 0, 1, 0, 1]) (ys := [8, 0, 247, 253, 0, 1, 0, 1]) (own_cells (own_ext howns hE323)) (Cells.of_blk hb5 0) rfl rfl (by decide)).mono ?_
  rintro _ w24 ⟨hE24, rfl⟩
  exact ⟨_, rfl, (hE1922.ext hE23).ext hE24, (hE019.ext (hE1922.ext hE23)).ext hE24, by simp⟩

set_option maxHeartbeats 4000000 in
theorem writes_law {src dst : IPV} {m : MsgV} {data : List Int} (hd : Cells w m.A (data.map (.int .u8))) (hl : data.length = m.n) (hB : Bts data) (hk : m.n ≤ m.k) (hn : m.n ≤ 1048576) (hs : Bts src.bytes) (ht : Bts dst.bytes) :
    Calls Tryd.prog 6 #[src.val, dst.val, m.val] w fun e w' => e = .returned (.bool true) ∧ Ext w w' := by
  refine weirlaw8_IcmpWrites_of src.v src.a0 src.a1 src.a2 src.a3 src.a4 src.a5 src.a6 src.a7 src.a8 src.a9 src.a10 src.a11 src.a12 src.a13 src.a14 src.a15
    dst.v dst.a0 dst.a1 dst.a2 dst.a3 dst.a4 dst.a5 dst.a6 dst.a7 dst.a8 dst.a9 dst.a10 dst.a11 dst.a12 dst.a13 dst.a14 dst.a15 m.v m.t m.c m.r m.A m.n m.k w _ ?_
  unfold weirlaw8_IcmpWrites_VC
  refine NewVC.blk fun g1 w1 hg1 hz1 hE1 hb1 => NewVC.blk fun g2 w2 hg2 hz2 hE2 hb2 => NewVC.blk fun g3 w3 hg3 hz3 hE3 hb3 => ?_
  refine awake_spec.mono ?_
  rintro _ w4 ⟨hE4, rfl⟩
  refine ⟨_, rfl, Br.f rfl ?_⟩
  have hE04 := ((hE1.ext hE2).ext hE3).ext hE4
  have hb1 := ((hb1.ext hE2).ext hE3).ext hE4
  have hb2 := (hb2.ext hE3).ext hE4
  have hb3 := hb3.ext hE4
  refine ⟨_, _, _, _, _, _, _, CellsAt.blk hb3, ?_⟩
  refine NewVC.blk fun g4 w5 hg4 hz5 hE5 hb4 => ?_
  refine set5 hb4 fun w10 hz10 hm10 hb4 => ?_
  have s4 := hE04.size
  have hE410 : Ext w4 w10 := hE5.set hm10 (by omega)
  have hE010 := hE04.ext hE410
  have hb3' := hb3.ext hE410
  refine ⟨_, _, _, hb3'.cell 4, ?_⟩
  refine (laid_spec (hd.ext hE010) hl hk (by omega)).mono ?_
  rintro _ w11 ⟨hE11, W, wc, rfl, hownW⟩
  refine ⟨_, _, _, _, _, _, rfl, ?_⟩
  have hLl : (data.take 66000).length ≤ 66000 := by rw [List.length_take]; omega
  have hLB : Bts (data.take 66000) := hB.take _
  generalize data.take 66000 = L at hLl hLB hownW ⊢
  have hb4 := hb4.ext hE11
  refine SetVC.blk hb4 (by simp) fun w12 hz12 hm12 hb4 => ?_
  let inM : MsgV := ⟨m.v, m.t, m.c, m.r, W, L.length, wc⟩
  have hb4 : Blk w12 g4 24 inM.cells := hb4
  have hg4W : ∀ k, (Value.slice W (L.length + 5) wc).ownBlock = some k → ¬ k = g4 := fun k hk e => by
    have := own_new hownW k hk
    have := hE410.size
    have : g4 < w10.heap.size := by omega
    omega
  have hownW12 := own_mod hownW hm12 hg4W
  have hE1012 : Ext w4 w12 := (hE410.ext hE11).set hm12 (by omega)
  have hE012 := hE04.ext hE1012
  refine (copied_spec (own_cells hownW12) (by simp [roomS]) (by omega)).mono ?_
  rintro _ w13 ⟨hE13, C1, c1, rfl, hownC1⟩
  refine ⟨_, _, _, rfl, ?_⟩
  have hcL : ∀ {w' : World}, Ext w12 w' → Cells w' W (L.map (.int .u8)) := fun h => by
    have := (own_cells (own_ext hownW12 h)).take L.length
    simpa using this
  refine (copied_spec (hcL hE13) rfl (by omega)).mono ?_
  rintro _ w14 ⟨hE14, C2, c2, rfl, hownC2⟩
  refine ⟨_, _, _, rfl, ?_⟩
  have hb314 := ((hb3.ext hE1012).ext hE13).ext hE14
  refine SetVC.blk hb314 (by simp) fun w15 hz15 hm15 hb3f => ?_
  let m2 : MsgV := ⟨m.v, m.t, m.c, m.r, C2, L.length, c2⟩
  have hb3f : Blk w15 g3 24 m2.cells := hb3f
  have l3 := hb3.lt
  have l2 := hb2.lt
  have l1 := hb1.lt
  have s12 := hE1012.size
  have s13 := hE13.size
  have s14 := hE14.size
  have hE1215 : Mod (fun k => k = g3) w12 w15 := ((hE13.ext hE14).to _).trans hm15
  have hb1' := ((hb1.ext hE1012).mod hE1215 (by omega))
  have hb2' := ((hb2.ext hE1012).mod hE1215 (by omega))
  have hb4' := hb4.mod hE1215 (by omega)
  have hownW15 := own_mod hownW12 hE1215 fun k hk e => by have := own_new hownW k hk; have := hE410.size; omega
  have hownC1' := own_mod (own_ext hownC1 hE14) hm15 fun k hk e => by have := own_new hownC1 k hk; omega
  have hownC2' := own_mod hownC2 hm15 fun k hk e => by have := own_new hownC2 k hk; omega
  have hE015 : Ext w w15 := (hE012.ext (hE13.ext hE14)).set hm15 (by omega)
  have s15 := hm15.size
  have hcL : ∀ {w' : World}, Ext w15 w' → Cells w' W (L.map (.int .u8)) := fun h => by
    have := (own_cells (own_ext hownW15 h)).take L.length
    simpa using this
  refine ⟨_, _, _, _, _, _, _, CellsAt.blk hb4', ?_⟩
  refine (check_spec inM (by show L.length ≤ _; omega)).mono ?_
  rintro _ w16 ⟨hE16, rfl⟩
  refine ⟨_, rfl, ?_⟩
  refine ⟨_, _, _, _, _, _, _, _, _, _, _, _, _, _, _, _, _, CellsAt.blk (hb1'.ext hE16), _, _, _, _, _, _, _, _, _, _, _, _, _, _, _, _, _, CellsAt.blk (hb2'.ext hE16), _, _, _, _, _, _, _, CellsAt.blk (hb4'.ext hE16), ?_⟩
  refine (serialise_spec (m := inM) (src := src) (dst := dst) (data := L) (hcL hE16) rfl hLB (by show L.length ≤ _; omega) hs ht).mono ?_
  rintro _ w17 ⟨hE17, SA, sc, rfl, hownS⟩
  refine ⟨_, _, _, _, rfl, ?_⟩
  have hE1517 := hE16.ext hE17
  refine ⟨_, _, _, _, _, _, _, _, _, _, _, _, _, _, _, _, _, CellsAt.blk (hb1'.ext hE1517), _, _, _, _, _, _, _, _, _, _, _, _, _, _, _, _, _, CellsAt.blk (hb2'.ext hE1517), _, _, _, _, _, _, _, CellsAt.blk (hb3f.ext hE1517), ?_⟩
  refine (refSerialise_spec (m := m2) (src := src) (dst := dst) (data := L) (own_cells (own_ext hownC2' hE1517)) rfl hLB hs ht).mono ?_
  rintro _ w18 ⟨hE18, TA, tc, rfl, hownT⟩
  refine ⟨_, _, _, _, rfl, ?_⟩
  have eq2 : serS m2 src dst L = serS inM src dst L := rfl
  have hlen := serS_len (m := inM) (src := src) (dst := dst) (data := L)
  have hSB := serS_bts (m := inM) (src := src) (dst := dst) (data := L) hLB hs ht rfl
  rw [eq2] at hownT ⊢
  generalize hSe : serS inM src dst L = S at hownS hownT hlen hSB ⊢
  have hE1518 := hE1517.ext hE18
  refine ⟨_, _, _, _, _, _, _, CellsAt.blk (hb3f.ext hE1518), ?_⟩
  refine (refCheck8_spec m2).mono ?_
  rintro _ w19 ⟨hE19, rfl⟩
  refine ⟨_, rfl, Br.no (fun h => h rfl) (Br.no (fun h => h rfl) ?_)⟩
  refine (same_spec (own_cells (own_ext hownS (hE18.ext hE19))) (own_cells (own_ext hownT hE19)) rfl rfl (by omega)).mono ?_
  rintro _ w20 ⟨hE20, rfl⟩
  refine ⟨_, rfl, Br.f (by simp) ?_⟩
  have hE1520 := (hE1518.ext hE19).ext hE20
  refine (same_spec (own_cells (own_ext hownW15 hE1520)) (own_cells (own_ext hownC1' hE1520)) (by simp [roomS]) (by simp [roomS]) (by omega)).mono ?_
  rintro _ w21 ⟨hE21, rfl⟩
  refine ⟨_, rfl, Br.f (by simp) ?_⟩
  have hE1521 := hE1520.ext hE21
  have hE1721 := ((hE18.ext hE19).ext hE20).ext hE21
  have s17 := hE1517.size
  have s18 := hE18.size
  have s21 := hE1721.size
  refine (marked_spec (mk := 77) (own_ext hownS hE1721) (by omega) (by have := hE17.size; omega)).mono ?_
  rintro _ w22 ⟨hm22, gM, ps, rfl, hpl, hst⟩
  refine ⟨_, _, _, rfl, ?_⟩
  have hSk : ∀ k, some k = (Value.slice SA S.1.length sc).ownBlock → w16.heap.size ≤ k ∧ k < w17.heap.size := fun k hk => hownS.lt k hk.symm
  have s16 := hE16.size
  have hb1'' := (hb1'.ext hE1521).mod hm22 fun e => by have := hSk _ e; omega
  have hb2'' := (hb2'.ext hE1521).mod hm22 fun e => by have := hSk _ e; omega
  have l4 := hb4'.lt
  have hb4'' := (hb4'.ext hE1521).mod hm22 fun e => by have := hSk _ e; omega
  have hownW22 := own_mod (own_ext hownW15 hE1521) hm22 fun k hk e => by have := hSk _ e; have := (hownW15.lt k hk).2; omega
  have hownC22 := own_mod (own_ext hownC1' hE1521) hm22 fun k hk e => by have := hSk _ e; have := (hownC1'.lt k hk).2; omega
  have hownT22 := own_mod (own_ext hownT ((hE19.ext hE20).ext hE21)) hm22 fun k hk e => by have := hSk _ e; have := own_new hownT k hk; omega
  have hE022 : Ext w w22 := (hE015.ext hE1521).trans' hm22 fun k hk e => by have := hSk _ e; have := hE015.size; omega
  refine ⟨_, _, _, _, _, _, _, _, _, _, _, _, _, _, _, _, _, CellsAt.blk hb1'', _, _, _, _, _, _, _, _, _, _, _, _, _, _, _, _, _, CellsAt.blk hb2'', _, _, _, _, _, _, _, CellsAt.blk hb4'', ?_⟩
  have hcL22 : Cells w22 W (L.map (.int .u8)) := by
    have := (own_cells hownW22).take L.length
    simpa using this
  refine (serialise_spec (m := inM) (src := src) (dst := dst) (data := L) hcL22 rfl hLB (by show L.length ≤ _; omega) hs ht).mono ?_
  rintro _ w23 ⟨hE23, DA, dc, rfl, hownD⟩
  rw [hSe] at hownD ⊢
  refine ⟨_, _, _, _, rfl, Br.yes rfl ?_⟩
  refine (same_spec (own_cells hownD) (own_cells (own_ext hownT22 hE23)) rfl rfl (by omega)).mono ?_
  rintro _ w24 ⟨hE24, rfl⟩
  refine ⟨_, rfl, Br.t (by simp) ?_⟩
  refine awake_spec.mono ?_
  rintro _ w25 ⟨hE25, rfl⟩
  refine ⟨_, rfl, Br.t rfl ?_⟩
  have hE2225 := (hE23.ext hE24).ext hE25
  refine (stand_spec (m := 3) (hst.ext hE2225) hpl (by decide)).mono ?_
  rintro _ w26 ⟨rfl, rfl⟩
  refine ⟨_, rfl, Br.t rfl ?_⟩
  refine (same_spec (own_cells (own_ext hownW22 hE2225)) (own_cells (own_ext hownC22 hE2225)) (by simp [roomS]) (by simp [roomS]) (by omega)).mono ?_
  rintro _ w27 ⟨hE27, rfl⟩
  exact ⟨_, rfl, by simp, (hE022.ext hE2225).ext hE27⟩
end
end Go.Proofs.YtjngdcilnipjcaaDoor
