/- The document's Parse; lists that are marked, and whether they stand. -/
import Derived.Test.YtjngdcilnipjcaaDoorIc4
namespace Go.Proofs.YtjngdcilnipjcaaDoor
open Go.Eng Go.RowKit

section
variable {w : World} {src dst : IPV} {R : Ending → World → Prop}
set_option maxHeartbeats 1000000 in
theorem refParse_spec {v : Int} {A : Option Addr} {n c : Nat} {bs : List Int} (hb : Cells w A (bs.map (.int .u8))) (hl : bs.length = n) (hB : Bts bs) (hs : Bts src.bytes) (ht : Bts dst.bytes) :
    Calls Tryd.prog 30 #[.int .i64 v, src.val, dst.val, .slice A n c] w fun e w' => Ext w w' ∧ ∃ A' k, e = .returned (.tuple #[((parseS v src dst bs).msg A' k).val, .int .i64 (parseS v src dst bs).err]) ∧
      w'.ownsRow w.heap.size 5 1 (.slice A' (parseS v src dst bs).data.length k) (parseS v src dst bs).data.length ((parseS v src dst bs).data.map (.int .u8)) := by
  refine weirref8_Parse_of v src.v src.a0 src.a1 src.a2 src.a3 src.a4 src.a5 src.a6 src.a7 src.a8 src.a9 src.a10 src.a11 src.a12 src.a13 src.a14 src.a15
    dst.v dst.a0 dst.a1 dst.a2 dst.a3 dst.a4 dst.a5 dst.a6 dst.a7 dst.a8 dst.a9 dst.a10 dst.a11 dst.a12 dst.a13 dst.a14 dst.a15 A n c w _ ?_
  unfold weirref8_Parse_VC
  refine NewVC.blk fun g1 w1 hg1 hz1 hE1 hb1 => NewVC.blk fun g2 w2 hg2 hz2 hE2 hb2 => NewVC.blk fun g3 w3 hg3 hz3 hE3 hb3 => NewVC.blk fun g4 w4 hg4 hz4 hE4 hb4 => ?_
  have hE04 := ((hE1.ext hE2).ext hE3).ext hE4
  have hb1 := ((hb1.ext hE2).ext hE3).ext hE4
  have hb2 := (hb2.ext hE3).ext hE4
  have hb3 := hb3.ext hE4
  have s2 := hE2.size
  have hg3' : w.heap.size ≤ g3 := by omega
  have err : ∀ {w' w'' : World} {k : Int}, Ext w w' → w''.heap.size = w'.heap.size → Mod (fun i => i = g3) w' w'' → parseS v src dst bs = noneP k → Ext w w'' ∧ ∃ A' kk, Ending.returned (.tuple #[.agg #[.int .i64 0, .int .i64 0, .int .i64 0, .int .i64 0, .slice none 0 0], .int .i64 k]) =
      .returned (.tuple #[((parseS v src dst bs).msg A' kk).val, .int .i64 (parseS v src dst bs).err]) ∧ w''.ownsRow w.heap.size 5 1 (.slice A' (parseS v src dst bs).data.length kk) (parseS v src dst bs).data.length ((parseS v src dst bs).data.map (.int .u8)) :=
    fun hE' _ hm hp => ⟨hE'.set hm hg3', none, 0, by rw [hp]; rfl, by rw [hp]; exact World.ownsRow_nil _ _ _ _⟩
  have bad : ∀ {w' : World} {k : Int}, Ext w4 w' → parseS v src dst bs = noneP k →
      ∃ x0 : Int, ∃ x1 : Int, ∃ x2 : Int, ∃ x3 : Int, ∃ (x4A : Option Addr) (x4n x4c : Nat), CellsAt w' ⟨g4, 0, none⟩ 0 [.int .i64 x0, .int .i64 x1, .int .i64 x2, .int .i64 x3, .slice x4A x4n x4c] ∧
      SetVC w' ⟨g3, 0, none⟩ (.int .i64 x0) fun w5 => SetVC w5 ⟨g3, 1, none⟩ (.int .i64 x1) fun w6 => SetVC w6 ⟨g3, 2, none⟩ (.int .i64 x2) fun w7 => SetVC w7 ⟨g3, 3, none⟩ (.int .i64 x3) fun w8 => SetVC w8 ⟨g3, 4, none⟩ (.slice x4A x4n x4c) fun w9 =>
      ∃ res0 : Int, ∃ res1 : Int, ∃ res2 : Int, ∃ res3 : Int, ∃ (res4A : Option Addr) (res4n res4c : Nat), CellsAt w9 ⟨g3, 0, none⟩ 0 [.int .i64 res0, .int .i64 res1, .int .i64 res2, .int .i64 res3, .slice res4A res4n res4c] ∧
        (Ext w w9 ∧ ∃ A' kk, Ending.returned (.tuple #[.agg #[.int .i64 res0, .int .i64 res1, .int .i64 res2, .int .i64 res3, .slice res4A res4n res4c], .int .i64 k]) =
      .returned (.tuple #[((parseS v src dst bs).msg A' kk).val, .int .i64 (parseS v src dst bs).err]) ∧ w9.ownsRow w.heap.size 5 1 (.slice A' (parseS v src dst bs).data.length kk) (parseS v src dst bs).data.length ((parseS v src dst bs).data.map (.int .u8))) := fun hE' hp =>
    ⟨_, _, _, _, _, _, _, CellsAt.blk (hb4.ext hE'), set5 (hb3.ext hE') fun w' hz hm hb' => ⟨_, _, _, _, _, _, _, CellsAt.blk hb', err (hE04.ext hE') hz hm hp⟩⟩
  refine Br.dec (fun h => bad (Mod.refl _ _) (by unfold parseS; rw [if_pos (by omega)])) (fun hlen => ?_)
  have hlen : ¬ 65515 < bs.length := by omega
  refine JoinVC.of (fun s w' => w' = w4 ∧ s = decide (v ≠ 4 ∧ v ≠ 6)) ?_ ?_
  · refine Br.dec (fun h => ⟨rfl, by simp [h]⟩) (fun h => ⟨rfl, by simp at h; simp [h]⟩)
  rintro _ w10 ⟨rfl, rfl⟩
  unfold weirref8_Parse_J115
  refine Br.dec (fun hv => bad (Mod.refl _ _) (by unfold parseS; rw [if_neg hlen, if_pos hv])) (fun hv => ?_)
  refine JoinVC.of (fun s w' => Ext w10 w' ∧ s = decide (v ≠ 4 ∧ ¬ (src.v = 6 ∧ dst.v = 6))) ?_ ?_
  · refine Br.dec (fun h6 => ?_) (fun h6 => ⟨Mod.refl _ _, by have : v = 4 := by omega
                                                              simp [this]⟩)
    refine ⟨_, _, _, _, _, _, _, _, _, _, _, _, _, _, _, _, _, CellsAt.blk hb1, _, _, _, _, _, _, _, _, _, _, _, _, _, _, _, _, _, CellsAt.blk hb2, ?_⟩
    refine (six_spec (src := src) (dst := dst)).mono ?_
    rintro _ w16 ⟨hE16, rfl⟩
    exact ⟨_, rfl, hE16, by subst h6; simp⟩
  rintro _ w17 ⟨hE17, rfl⟩
  unfold weirref8_Parse_J463
  refine Br.dec (fun hf => bad hE17 (by unfold parseS; rw [if_neg hlen, if_neg hv, if_pos hf])) (fun hf => ?_)
  refine Br.dec (fun h8 => bad hE17 (by unfold parseS; rw [if_neg hlen, if_neg hv, if_neg hf, if_pos (by omega)])) (fun h8 => ?_)
  have h8' : ¬ bs.length < 8 := by omega
  refine ⟨_, _, _, _, _, _, _, _, _, _, _, _, _, _, _, _, _, CellsAt.blk (hb1.ext hE17), _, _, _, _, _, _, _, _, _, _, _, _, _, _, _, _, _, CellsAt.blk (hb2.ext hE17), ?_⟩
  have hE017 := hE04.ext hE17
  refine (parts_spec (v := v) (src := src) (dst := dst) (hb.ext hE017) hl hB (by omega) (fun h4 => Decidable.not_not.1 fun e => hf ⟨h4, e⟩) hs ht).mono ?_
  rintro _ w28 ⟨hE28, gp, pm, ps, rfl, hps, hpl, hpm, hgr⟩
  refine ⟨_, _, _, rfl, ?_⟩
  refine (refGood_spec hps hpl (by omega)).mono ?_
  rintro _ w29 ⟨rfl, rfl⟩
  rw [hgr]
  refine ⟨_, rfl, ?_⟩
  by_cases hsum : sumS (overS v src dst bs) = 65535
  case neg => exact Br.t (by simp [hsum]) (bad (hE17.ext hE28) (by unfold parseS; rw [if_neg hlen, if_neg hv, if_neg hf, if_neg h8', if_pos hsum]))
  refine Br.f (by simp [hsum]) ?_
  have hE028 := hE017.ext hE28
  have hb328 := (hb3.ext hE17).ext hE28
  have hbt : ∀ i, i < 8 → 0 ≤ bs.getD i 0 ∧ bs.getD i 0 < 256 := fun i hi => by
    have := hB.at (i := i) (by omega)
    simpa [List.getD_eq_getElem?_getD, show i < bs.length by omega] using this
  have b0 := hbt 0 (by decide)
  have b1 := hbt 1 (by decide)
  have b4 := hbt 4 (by decide)
  have b5 := hbt 5 (by decide)
  have b6 := hbt 6 (by decide)
  have b7 := hbt 7 (by decide)
  refine DrawVC.of (fun w' => Ext w w') fun w35 hE35 _ => ⟨hE028.ext hE35, ?_⟩
  have hE035 := hE028.ext hE35
  have rd : ∀ {w' : World} {i : Int} {F : Addr → Prop}, Ext w w' → 0 ≤ i → i < n → (∀ a, (∀ w', Ext w w' → w'.cell? a = some (.int .u8 (bs.getD i.toNat 0))) → F a) → IdxVC A n 1 i F := fun {w' i F} hE' h0 h1 hF =>
    IdxVC.draw (S := fun w' => Ext w w') hE' (fun w' hE' => hb.ext hE') h0 h1 hl hF
  refine rd hE035 (by decide) (by omega) fun a ha => ⟨_, ha, rd hE035 (by decide) (by omega) fun a ha => ⟨_, ha, rd hE035 (by decide) (by omega) fun a ha => ⟨_, ha, rd hE035 (by decide) (by omega) fun a ha => ⟨_, ha, ?_⟩⟩⟩⟩
  refine DrawVC.of (fun w' => Ext w w') fun w36 hE36 _ => ⟨hE035.ext hE36, ?_⟩
  have hE036 := hE035.ext hE36
  refine rd hE036 (by decide) (by omega) fun a ha => ⟨_, ha, rd hE036 (by decide) (by omega) fun a ha => ⟨_, ha, ?_⟩⟩
  refine (part_spec (lo := 8) (hb.ext hE036) hl (by omega) (by omega)).mono ?_
  rintro _ w37 ⟨hE37, W, wc, rfl, hown⟩
  have hE037 := hE036.ext hE37
  refine ⟨_, _, _, rfl, hE037, ?_⟩
  refine set5 (((hb328.ext hE35).ext hE36).ext hE37) fun w42 hz42 hm42 hb42 => ⟨hE037.set hm42 hg3', _, _, _, _, _, _, _, CellsAt.blk hb42, ?_⟩
  have hp := parseS_ok hlen hv hf h8' hsum
  have hE042 := hE037.set hm42 hg3'
  have s36 := hE036.size
  have s37 := hE37.size
  have e1 : (bs.drop 8).length = n - 8 := by rw [List.length_drop, hl]
  refine ⟨hE042, W, wc, ?_, ?_⟩
  · rw [hp]
    simp only [show ((4 : Int).toNat) = 4 from rfl, show ((5 : Int).toNat) = 5 from rfl, show ((6 : Int).toNat) = 6 from rfl, show ((7 : Int).toNat) = 7 from rfl, show ((0 : Int).toNat) = 0 from rfl, show ((1 : Int).toNat) = 1 from rfl]
    rw [w64 (n := bs.getD 0 0) (by omega) (by omega), w64 (n := bs.getD 1 0) (by omega) (by omega), w64 (n := bs.getD 4 0) (by omega) (by omega), w64 (n := bs.getD 5 0) (by omega) (by omega), w64 (n := bs.getD 6 0) (by omega) (by omega), w64 (n := bs.getD 7 0) (by omega) (by omega),
      w64 (n := bs.getD 4 0 * 16777216) (by omega) (by omega), w64 (n := bs.getD 5 0 * 65536) (by omega) (by omega), w64 (n := bs.getD 6 0 * 256) (by omega) (by omega), w64 (n := bs.getD 4 0 * 16777216 + bs.getD 5 0 * 65536) (by omega) (by omega),
      w64 (n := bs.getD 4 0 * 16777216 + bs.getD 5 0 * 65536 + bs.getD 6 0 * 256) (by omega) (by omega), w64 (n := bs.getD 4 0 * 16777216 + bs.getD 5 0 * 65536 + bs.getD 6 0 * 256 + bs.getD 7 0) (by omega) (by omega)]
    have er : bs.getD 4 0 * 16777216 + bs.getD 5 0 * 65536 + bs.getD 6 0 * 256 + bs.getD 7 0 = restS bs := by unfold restS; omega
    rw [er]
    simp only [ParsedV.msg, MsgV.val, e1]
  · rw [hp]
    simp only [e1]
    refine own_mod (own_base hown (by omega)) hm42 fun k hk e => ?_
    have := own_new hown k hk
    have := hb3.lt
    have := (hE17.ext hE28).size
    have := hE35.size
    have := hE36.size
    omega

theorem stand_spec {PA : Option Addr} {m mc : Nat} {ps : List PartV} {mk : Int} (h : StandAt w PA ps mk) (hm : ps.length = m) (hm2 : m ≤ 1000) :
    Calls Tryd.prog 23 #[.slice PA m mc, .int .u8 mk] w fun e w' => w = w' ∧ e = .returned (.bool true) := by
  refine weirlaw8_stand_of PA m mc mk w _ ?_
  unfold weirlaw8_stand_VC
  have read : ∀ {i : Nat} (hi : i < ps.length) {F : Addr → Prop}, (∀ a, w.cell? a = some (.slice ps[i].A ps[i].n ps[i].c) → F a) → IdxVC PA m 1 (i : Int) F := fun {i} hi {F} hF =>
    IdxVC.of h.top (by omega) (by omega) (by simpa using hm) fun a _ ha => hF _ (by rw [ha]; simp [PartV.val])
  refine LoopVC.of (fun s w' => w = w' ∧ ∃ i : Nat, s = (i : Int) ∧ i ≤ m) (fun s _ => ((m : Int) - s).toNat) ⟨rfl, 0, rfl, by omega⟩ ?_
  rintro _ w1 ⟨rfl, i, rfl, hi⟩
  unfold weirlaw8_stand_L26
  refine Br.dec (fun hlt => ?_) (fun hge => ⟨rfl, rfl⟩)
  have hil : i < ps.length := by omega
  obtain ⟨hc, hn⟩ := h.each _ (List.getElem_mem hil)
  refine LoopVC.of (fun s w' => w = w' ∧ ∃ k : Nat, s = (k : Int) ∧ k ≤ ps[i].n) (fun s _ => ((ps[i].n : Int) - s).toNat) ⟨rfl, 0, rfl, by omega⟩ ?_
  rintro _ w2 ⟨rfl, k, rfl, hk⟩
  unfold weirlaw8_stand_L1682
  rw [w64 (n := (k : Int) + 1) (by omega) (by omega), w64 (n := (i : Int) + 1) (by omega) (by omega)]
  refine read hil fun a ha => ⟨_, _, _, ha, Br.dec (fun hkl => ?_) (fun hkg => ⟨⟨rfl, i + 1, by omega, by omega⟩, by omega⟩)⟩
  refine read hil fun a ha => ⟨_, _, _, ha, ?_⟩
  refine IdxVC.int hc (by omega) hkl (by simp) fun a ha => ⟨_, ha, Br.no ?_ ⟨⟨rfl, k + 1, by omega, by omega⟩, by omega⟩⟩
  rw [Int.toNat_natCast]
  simp [List.getD_eq_getElem?_getD, show k < ps[i].n by omega]
set_option maxHeartbeats 1000000 in
theorem marked_spec {A : Option Addr} {n c base : Nat} {L : List Int} {mk : Int} (hown : w.ownsRow base 5 1 (.slice A n c) n (L.map (.int .u8))) (hn : n ≤ 900000) (hbase : base ≤ w.heap.size) :
    Calls Tryd.prog 22 #[.slice A n c, .int .u8 mk] w fun e w' => Mod (fun k => some k = (Value.slice A n c).ownBlock) w w' ∧ ∃ g ps, e = .returned (.slice (some ⟨g, 0, none⟩) 3 3) ∧ ps.length = 3 ∧ StandAt w' (some ⟨g, 0, none⟩) ps mk := by
  refine weirlaw8_marked_of A n c mk w _ ?_
  unfold weirlaw8_marked_VC
  have hl : L.length = n := by have := hown.1; simpa using this
  refine LoopVC.of (fun s w' => ∃ (i : Nat) (L' : List Int), s = (i : Int) ∧ i ≤ n ∧ Mod (fun k => some k = (Value.slice A n c).ownBlock) w w' ∧ L'.length = n ∧ (∀ q, q < i → L'.getD q 0 = mk) ∧ w'.ownsRow base 5 1 (.slice A n c) n (L'.map (.int .u8))) (fun s _ => ((n : Int) - s).toNat)
    ⟨0, L, rfl, by omega, Mod.refl _ _, hl, fun q hq => by omega, hown⟩ ?_
  rintro _ w1 ⟨i, L', rfl, hi, hM, hl', hq, hown1⟩
  unfold weirlaw8_marked_L26
  refine Br.dec (fun hlt => ?_) (fun hge => ?_)
  · refine IdxVC.own hown1 (by omega) hlt hlt fun a _ hset => hset _ _ rfl fun w2 hz2 hm2 hown2 => ?_
    rw [Int.toNat_natCast, map_set] at hown2
    rw [w64 (n := (i : Int) + 1) (by omega) (by omega)]
    refine ⟨⟨i + 1, _, by omega, by omega, hM.trans hm2, by simpa using hl', fun q hq' => ?_, hown2⟩, by omega⟩
    by_cases e : q = i
    · subst e; simp [List.getD_eq_getElem?_getD, show q < L'.length by omega]
    · have := hq q (by omega)
      rw [← this]
      simp [List.getD_eq_getElem?_getD, List.getElem?_set_ne (Ne.symm e)]
  have hin : i = n := by omega
  subst hin
  have hLr : L' = List.replicate i mk := by
    apply List.ext_getElem (by simpa using hl')
    intro q h1 h2
    have := hq q (by omega)
    simp [h1] at this
    simp [this]
  subst hLr
  refine NewVC.blk fun g1 w3 hg1 hz3 hE3 hb3 => ?_
  have s1 := hM.size
  have hlt1 : ∀ k, (Value.slice A i c).ownBlock = some k → base ≤ k ∧ k < w1.heap.size := fun k hk => hown1.lt k hk
  refine AppVC.whole Tryd.underlying22 tyByte rfl (own_ext hown1 hE3) (news := [.int .u8 mk]) (by simpa using Cells.of_blk hb3 0) (m := 1) rfl (by omega) (by simp [Value.oneCell']) (by omega) (by decide) (by omega) fun A1 c1 w4 hnew4 hold4 hm4 hat4 hpl4 => ?_
  have s4 := hm4.size
  refine NewVC.blk fun g2 w5 hg2 hz5 hE5 hb5 => ?_
  refine AppVC.whole Tryd.underlying22 tyByte rfl (own_ext hold4 hE5) (news := [.int .u8 mk, .int .u8 mk, .int .u8 mk]) (by simpa using Cells.of_blk hb5 0) (m := 3) rfl (by omega) (by simp [Value.oneCell']) (by omega) (by decide) (by omega) fun A2 c2 w6 hnew6 hold6 hm6 hat6 hpl6 => ?_
  refine NewVC.blk fun g3 w7 hg3 hz7 hE7 hb7 => ?_
  have e1 : (List.replicate i mk).map (Value.int .u8) ++ [.int .u8 mk] = (List.replicate (i + 1) mk).map (.int .u8) := by rw [List.replicate_succ', List.map_append]; rfl
  have e3 : (List.replicate i mk).map (Value.int .u8) ++ [.int .u8 mk, .int .u8 mk, .int .u8 mk] = (List.replicate (i + 3) mk).map (.int .u8) := by
    have : List.replicate (i + 3) mk = List.replicate i mk ++ [mk, mk, mk] := by rw [← List.replicate_append_replicate]; rfl
    rw [this, List.map_append]; rfl
  rw [e1] at hnew4
  rw [e3] at hnew6
  have h1 : Cells w6 A1 ((List.replicate (i + 1) mk).map (.int .u8)) := by
    rcases hpl6 with rfl | ⟨hE6, -⟩
    · rcases hpl4 with rfl | ⟨hE4, hf4⟩
      · exact cells_rep (own_cells hnew6) (by omega)
      · exact own_cells (own_mod (own_ext hnew4 hE5) hm6 fun k hk e => by have := hlt1 k e.symm; have := hf4 k hk; have := hE3.size; omega)
    · exact own_cells (own_ext (own_ext hnew4 hE5) hE6)
  refine ⟨(((((hM.ext hE3).trans hm4).ext hE5).trans hm6).ext hE7), g3, [⟨A, i, c, []⟩, ⟨A1, i + 1, c1, []⟩, ⟨A2, i + 3, c2, []⟩], rfl, rfl, by simpa [PartV.val] using Cells.of_blk hb7 0, fun p hp => ?_⟩
  simp only [List.mem_cons, List.not_mem_nil, or_false] at hp
  rcases hp with rfl | rfl | rfl
  · exact ⟨own_cells (own_ext hold6 hE7), by show i ≤ 1000000; omega⟩
  · exact ⟨h1.ext hE7, by show i + 1 ≤ 1000000; omega⟩
  · exact ⟨own_cells (own_ext hnew6 hE7), by show i + 3 ≤ 1000000; omega⟩
end
end Go.Proofs.YtjngdcilnipjcaaDoor
