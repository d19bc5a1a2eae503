/- What a message is written as: both programs' Serialise. -/
import Derived.Test.YtjngdcilnipjcaaDoorIc2
namespace Go.Eng
open Go Go.RowKit
/-- The bytes and the error. -/
def serS (m : MsgV) (src dst : IPV) (data : List Int) : List Int × Int :=
  if checkS m ≠ 0 then ([], checkS m) else if m.v ≠ 4 ∧ ¬ (src.v = 6 ∧ dst.v = 6) then ([], 20)
  else (headS m.t m.c (65535 - sumS (overS m.v src dst (headS m.t m.c 0 m.r ++ data))) m.r ++ data, 0)
theorem checkS_ok {m : MsgV} (h : checkS m = 0) : (m.v = 4 ∨ m.v = 6) ∧ (0 ≤ m.t ∧ m.t ≤ 255) ∧ (0 ≤ m.c ∧ m.c ≤ 255) ∧ (0 ≤ m.r ∧ m.r ≤ 4294967295) ∧ m.n ≤ 65507 := by
  unfold checkS at h
  split at h
  · omega
  · split at h
    · omega
    · split at h <;> omega
theorem sumS_bound {l : List Int} (h : Bts l) : 0 ≤ sumS l ∧ sumS l ≤ 65535 := foldS_bound (rawS_bound h true).1
theorem headS_len (t c s r : Int) : (headS t c s r).length = 8 := rfl
end Go.Eng
namespace Go.Proofs.YtjngdcilnipjcaaDoor
open Go.Eng Go.RowKit

section
variable {w0 w : World} {m : MsgV} {src dst : IPV} {data : List Int} {R : Ending → World → Prop}
theorem overS_bts {v : Int} {bs : List Int} (hs : Bts src.bytes) (hd : Bts dst.bytes) (hb : Bts bs) (hl : bs.length ≤ 65535) : Bts (overS v src dst bs) := by
  unfold overS
  split
  · exact hb
  · exact (pseudoL_bts hs hd (by omega) (by omega)).append hb
set_option maxHeartbeats 1000000 in
theorem ser_tail {g3 x0n x0c : Nat} {PA BA : Option Addr} {L0 : List Int} (hE : Ext w0 w) (hb : Blk w g3 24 m.cells) (hok : checkS m = 0) (_ : w0.heap.size ≤ g3)
    (hp : Cells w PA (L0.map (.int .u8))) (hpl : L0.length = x0n) (hpB : Bts L0) (hpn : x0n ≤ 70000) (hown : w.ownsRow w0.heap.size 5 1 (.slice BA 8 8) 8 ((headS m.t m.c 0 m.r).map (.int .u8)))
    (hne : ∀ k, (Value.slice BA 8 8).ownBlock = some k → k ≠ g3) (hd : Cells w0 m.A (data.map (.int .u8))) (hl : data.length = m.n) (hB : Bts data) (hov : L0 ++ (headS m.t m.c 0 m.r ++ data) = overS m.v src dst (headS m.t m.c 0 m.r ++ data))
    (hR : ∀ w' W wc, Ext w0 w' → w'.ownsRow w0.heap.size 5 1 (.slice W (8 + m.n) wc) (8 + m.n) ((headS m.t m.c (65535 - sumS (overS m.v src dst (headS m.t m.c 0 m.r ++ data))) m.r ++ data).map (.int .u8)) → R (.returned (.tuple #[.slice W (8 + m.n) wc, .int .i64 0])) w') :
    icmp_Serialise_D62 R 0 w g3 PA x0n x0c BA 8 8 := by
  obtain ⟨hv, ht, hc, hr, hn⟩ := checkS_ok hok
  have hhB : Bts (headS m.t m.c 0 m.r) := headS_bts ht hc ⟨by decide, by decide⟩ hr
  unfold icmp_Serialise_D62
  refine Br.no (by decide) ⟨_, _, _, hb.cell 4, ?_⟩
  refine NewVC.blk fun g5 w10 hg5 hz10 hE10 hb10 => ?_
  let ps : List PartV := [⟨PA, x0n, x0c, L0⟩, ⟨BA, 8, 8, headS m.t m.c 0 m.r⟩, ⟨m.A, m.n, m.k, data⟩]
  have hps : PartsAt w10 (some ⟨g5, 0, none⟩) ps := by
    refine ⟨by simpa [ps, PartV.val] using Cells.of_blk hb10 0, fun p hp' => ?_⟩
    simp only [ps, List.mem_cons, List.not_mem_nil, or_false] at hp'
    rcases hp' with rfl | rfl | rfl
    · exact ⟨hp.ext hE10, hpl, hpB, hpn⟩
    · exact ⟨own_cells (own_ext hown hE10), rfl, hhB, by show 8 ≤ 70000; decide⟩
    · exact ⟨(hd.ext hE).ext hE10, hl, hB, by show m.n ≤ 70000; omega⟩
  have hgr : groundS ps = overS m.v src dst (headS m.t m.c 0 m.r ++ data) := by rw [← hov]; simp [groundS, ps]
  have hsb := sumS_bound (groundS_bts fun p hp' => (hps.each p hp').2.2.1)
  refine (sumCheck_spec (m := 3) hps rfl (by decide)).mono ?_
  rintro _ w11 ⟨rfl, rfl⟩
  rw [hgr] at hsb ⊢
  generalize sumS (overS m.v src dst (headS m.t m.c 0 m.r ++ data)) = s at hsb hR ⊢
  have hx := (own_ext hown hE10)
  refine ⟨_, rfl, IdxVC.own hx (by decide) (by decide) (by decide) fun a _ hset => hset _ _ rfl fun w12 hz12 hm12 hown12 => ?_⟩
  refine IdxVC.own hown12 (by decide) (by decide) (by decide) fun a _ hset => hset _ _ rfl fun w13 hz13 hm13 hown13 => ?_
  have hnk : ∀ k, some k = (Value.slice BA 8 8).ownBlock → ¬ k = g3 := fun k hk => hne k hk.symm
  have hb13 := ((hb.ext hE10).mod hm12 fun e => hnk _ e rfl).mod hm13 fun e => hnk _ e rfl
  have hE12 := Ext.own (hE.ext hE10) hx hm12
  have hE13 := Ext.own hE12 hown12 hm13
  refine ⟨_, _, _, hb13.cell 4, ?_⟩
  have e1 : IntKind.u8.wrap (Int.fdiv (65535 - s) 256) = (65535 - s) / 256 := by rw [Int.fdiv_eq_ediv_of_nonneg _ (by decide), wu8 (by omega) (by omega)]
  have e2 : IntKind.u8.wrap (65535 - s) = (65535 - s) % 256 := u8_eq _
  rw [e1, e2] at hown13
  have hown13 : w13.ownsRow w0.heap.size 5 1 (.slice BA 8 8) 8 ((headS m.t m.c (65535 - s) m.r).map (.int .u8)) := hown13
  refine AppVC.at Tryd.underlying22 tyByte rfl hown13 (hd.ext hE13) (by simpa using hl) (ints_one _ _) (by omega) (by decide) hE13.size fun W wc w14 hown14 hm14 _ _ => ?_
  rw [← List.map_append] at hown14
  exact hR w14 W wc (Ext.own hE13 hown13 hm14) hown14

set_option maxHeartbeats 1000000 in
theorem serialise_spec (hd : Cells w m.A (data.map (.int .u8))) (hl : data.length = m.n) (hB : Bts data) (hn : m.n ≤ 140737488355328) (hs : Bts src.bytes) (ht : Bts dst.bytes) :
    Calls Tryd.prog 26 #[src.val, dst.val, m.val] w fun e w' => Ext w w' ∧ ∃ W wc, e = .returned (.tuple #[.slice W (serS m src dst data).1.length wc, .int .i64 (serS m src dst data).2]) ∧
      w'.ownsRow w.heap.size 5 1 (.slice W (serS m src dst data).1.length wc) (serS m src dst data).1.length ((serS m src dst data).1.map (.int .u8)) := by
  refine icmp_Serialise_of src.v src.a0 src.a1 src.a2 src.a3 src.a4 src.a5 src.a6 src.a7 src.a8 src.a9 src.a10 src.a11 src.a12 src.a13 src.a14 src.a15
    dst.v dst.a0 dst.a1 dst.a2 dst.a3 dst.a4 dst.a5 dst.a6 dst.a7 dst.a8 dst.a9 dst.a10 dst.a11 dst.a12 dst.a13 dst.a14 dst.a15 m.v m.t m.c m.r m.A m.n m.k w _ ?_
  unfold icmp_Serialise_VC
  refine NewVC.blk fun g1 w1 hg1 hz1 hE1 hb1 => NewVC.blk fun g2 w2 hg2 hz2 hE2 hb2 => NewVC.blk fun g3 w3 hg3 hz3 hE3 hb3 => ?_
  have hE03 := (hE1.ext hE2).ext hE3
  have hb1 := (hb1.ext hE2).ext hE3
  have hb2 := hb2.ext hE3
  refine ⟨_, _, _, _, _, _, _, CellsAt.blk hb3, ?_⟩
  refine (check_spec m hn).mono ?_
  rintro _ w4 ⟨hE4, rfl⟩
  refine ⟨_, rfl, Br.dec (fun hne => ?_) (fun he => ?_)⟩
  · have e : serS m src dst data = ([], checkS m) := by unfold serS; rw [if_pos hne]
    rw [e]
    exact ⟨hE03.ext hE4, none, 0, rfl, World.ownsRow_nil _ _ _ _⟩
  have hok : checkS m = 0 := Decidable.not_not.1 he
  obtain ⟨hv, hmt, hmc, hmr, hmn⟩ := checkS_ok hok
  have hE04 := hE03.ext hE4
  refine ⟨_, (hb3.ext hE4).cell 0, _, _, _, _, _, _, _, _, _, _, _, _, _, _, _, _, _, CellsAt.blk (hb1.ext hE4), _, _, _, _, _, _, _, _, _, _, _, _, _, _, _, _, _, CellsAt.blk (hb2.ext hE4), _, _, _, (hb3.ext hE4).cell 4, ?_⟩
  rw [w64 (n := 8 + (m.n : Int)) (by omega) (by omega)]
  have key : ∀ {w5 : World} {PA : Option Addr} {x0n x0c : Nat} {L0 : List Int}, Ext w4 w5 → Cells w5 PA (L0.map (.int .u8)) → L0.length = x0n → Bts L0 → x0n ≤ 70000 → L0 ++ (headS m.t m.c 0 m.r ++ data) = overS m.v src dst (headS m.t m.c 0 m.r ++ data) → ¬ (m.v ≠ 4 ∧ ¬ (src.v = 6 ∧ dst.v = 6)) →
      ∀ {w9 : World} {BA : Option Addr} {ds : List Int}, Ext w5 w9 → Packed hws [m.t, m.c, 0, m.r] ds → w9.ownsRow w5.heap.size 5 1 (.slice BA ds.length ds.length) ds.length (ds.map (.int .u8)) →
      icmp_Serialise_D62 (fun e w' => Ext w w' ∧ ∃ W wc, e = .returned (.tuple #[.slice W (serS m src dst data).1.length wc, .int .i64 (serS m src dst data).2]) ∧
        w'.ownsRow w.heap.size 5 1 (.slice W (serS m src dst data).1.length wc) (serS m src dst data).1.length ((serS m src dst data).1.map (.int .u8))) 0 w9 g3 PA x0n x0c BA ds.length ds.length := by
    intro w5 PA x0n x0c L0 hE5 hp hpl hpB hpn hov hfam w9 BA ds hE9 hpk hown
    obtain rfl := packed_head hpk
    have hE59 := hE5.ext hE9
    have e : serS m src dst data = (headS m.t m.c (65535 - sumS (overS m.v src dst (headS m.t m.c 0 m.r ++ data))) m.r ++ data, 0) := by unfold serS; rw [if_neg he, if_neg hfam]
    have s4 := hE04.size
    have s5 := hE5.size
    refine ser_tail (hE04.ext hE59) ((hb3.ext hE4).ext hE59) hok (by omega) (hp.ext hE9) hpl hpB hpn (own_base hown (by omega)) (fun k hk => by have := own_new hown k hk; have := hb3.lt; have := hE4.size; omega) hd hl hB hov fun w' W wc hE' hown' => ?_
    rw [e]
    have el : (headS m.t m.c (65535 - sumS (overS m.v src dst (headS m.t m.c 0 m.r ++ data))) m.r ++ data).length = 8 + m.n := by rw [List.length_append, headS_len, hl]
    simp only [el]
    exact ⟨hE', W, wc, rfl, hown'⟩
  have pack : ∀ {w5 : World} {PA : Option Addr} {x0n x0c : Nat} {L0 : List Int}, Ext w4 w5 → Cells w5 PA (L0.map (.int .u8)) → L0.length = x0n → Bts L0 → x0n ≤ 70000 → L0 ++ (headS m.t m.c 0 m.r ++ data) = overS m.v src dst (headS m.t m.c 0 m.r ++ data) → ¬ (m.v ≠ 4 ∧ ¬ (src.v = 6 ∧ dst.v = 6)) →
      ∀ {w8 : World} {g4 gw : Nat}, Ext w5 w8 → Blk w8 g4 3 (([m.t, m.c, 0, m.r] : List Int).map (.int .i64)) → Blk w8 gw 3 (hws.map (.int .i64)) →
      Calls Tryd.prog 58 #[.slice (some ⟨gw, 0, none⟩) 4 4, .slice (some ⟨g4, 0, none⟩) 4 4] w8 (onRet (fun r_3 w9 => ∃ (x0A1 : Option Addr) (x0n1 x0c1 : Nat), ∃ x110 : Int, r_3 = .tuple #[.slice x0A1 x0n1 x0c1, .int .i64 x110] ∧
        Ext w4 w9 ∧ icmp_Serialise_D62 (fun e w' => Ext w w' ∧ ∃ W wc, e = .returned (.tuple #[.slice W (serS m src dst data).1.length wc, .int .i64 (serS m src dst data).2]) ∧
        w'.ownsRow w.heap.size 5 1 (.slice W (serS m src dst data).1.length wc) (serS m src dst data).1.length ((serS m src dst data).1.map (.int .u8))) x110 w9 g3 PA x0n x0c x0A1 x0n1 x0c1) (fun _ _ => False)) := by
    intro w5 PA x0n x0c L0 hE5 hp hpl hpB hpn hov hfam w8 g4 gw hE8 hbv hbw
    refine (pack_ok (ws := hws) (vs := [m.t, m.c, 0, m.r]) (by simpa using Cells.of_blk hbw 0) rfl (by simpa using Cells.of_blk hbv 0) rfl hws_ok rfl).mono ?_
    rintro _ w9 ⟨hE9, ⟨-, BA, ds, hpk, rfl, hown⟩ | ⟨hno, rfl⟩⟩
    · have hE59 := hE8.ext hE9
      exact ⟨_, _, _, _, rfl, hE5.ext hE59, key hE5 hp hpl hpB hpn hov hfam hE59 hpk (own_base hown hE8.size)⟩
    · exact absurd (head_valuesOk hmt hmc hmr) hno
  refine (pseudo_spec (v := m.v) (src := src) (dst := dst) (n := 8 + (m.n : Int)) (by omega) (by omega)).mono ?_
  rintro _ w5 ⟨hE5, ⟨h4, rfl⟩ | ⟨h4, h6, rfl⟩ | ⟨h4, h6, W, wc, rfl, hown⟩⟩
  · refine ⟨_, _, _, _, rfl, Br.no (by decide) ?_⟩
    have hb35 := (hb3.ext hE4).ext hE5
    have hov : ([] : List Int) ++ (headS m.t m.c 0 m.r ++ data) = overS m.v src dst (headS m.t m.c 0 m.r ++ data) := by unfold overS; rw [if_pos h4]; rfl
    refine DrawVC.of (fun w' => Ext w4 w') fun w6 hE6 _ => ⟨hE5.ext hE6, ?_⟩
    refine ⟨_, fun w' hE' => ((hb3.ext hE4).ext hE').cell 1, _, fun w' hE' => ((hb3.ext hE4).ext hE').cell 2, _, fun w' hE' => ((hb3.ext hE4).ext hE').cell 3, ?_, ?_⟩
    · refine widths_spec.mono ?_
      rintro _ w7 ⟨hE7, gw, hgw, rfl, hbw⟩
      refine ⟨_, _, _, rfl, (hE5.ext hE6).ext hE7, ?_⟩
      refine NewVC.blk fun g4 w8 hg4 hz8 hE8 hb8 => ⟨((hE5.ext hE6).ext hE7).ext hE8, ?_⟩
      exact pack (hE5.ext hE6) (Cells.nil _ _) rfl (fun _ h => by cases h) (by decide) hov (fun e => e.1 h4) (hE7.ext hE8) hb8 (hbw.ext hE8)
    · refine NewVC.blk fun g4 w7 hg4 hz7 hE7 hb7 => ⟨(hE5.ext hE6).ext hE7, ?_⟩
      refine widths_spec.mono ?_
      rintro _ w8 ⟨hE8, gw, hgw, rfl, hbw⟩
      refine ⟨_, _, _, rfl, ((hE5.ext hE6).ext hE7).ext hE8, ?_⟩
      exact pack (hE5.ext hE6) (Cells.nil _ _) rfl (fun _ h => by cases h) (by decide) hov (fun e => e.1 h4) (hE7.ext hE8) (hb7.ext hE8) hbw
  · refine ⟨_, _, _, _, rfl, Br.yes (by decide) ?_⟩
    have e : serS m src dst data = ([], 20) := by unfold serS; rw [if_neg he, if_pos ⟨h4, h6⟩]
    rw [e]
    exact ⟨hE04.ext hE5, none, 0, rfl, World.ownsRow_nil _ _ _ _⟩
  · refine ⟨_, _, _, _, rfl, Br.no (by decide) ?_⟩
    have hov : pseudoL src dst (8 + (m.n : Int)) ++ (headS m.t m.c 0 m.r ++ data) = overS m.v src dst (headS m.t m.c 0 m.r ++ data) := by
      unfold overS; rw [if_neg h4, List.length_append, headS_len, hl]; simp
    have hpB := pseudoL_bts (n := 8 + (m.n : Int)) hs ht (by omega) (by omega)
    refine DrawVC.of (fun w' => Ext w4 w') fun w6 hE6 _ => ⟨hE5.ext hE6, ?_⟩
    refine ⟨_, fun w' hE' => ((hb3.ext hE4).ext hE').cell 1, _, fun w' hE' => ((hb3.ext hE4).ext hE').cell 2, _, fun w' hE' => ((hb3.ext hE4).ext hE').cell 3, ?_, ?_⟩
    · refine widths_spec.mono ?_
      rintro _ w7 ⟨hE7, gw, hgw, rfl, hbw⟩
      refine ⟨_, _, _, rfl, (hE5.ext hE6).ext hE7, ?_⟩
      refine NewVC.blk fun g4 w8 hg4 hz8 hE8 hb8 => ⟨((hE5.ext hE6).ext hE7).ext hE8, ?_⟩
      exact pack (hE5.ext hE6) (own_cells (own_ext hown hE6)) (pseudoL_len _ _ _) hpB (by decide) hov (fun e => e.2 h6) (hE7.ext hE8) hb8 (hbw.ext hE8)
    · refine NewVC.blk fun g4 w7 hg4 hz7 hE7 hb7 => ⟨(hE5.ext hE6).ext hE7, ?_⟩
      refine widths_spec.mono ?_
      rintro _ w8 ⟨hE8, gw, hgw, rfl, hbw⟩
      refine ⟨_, _, _, rfl, ((hE5.ext hE6).ext hE7).ext hE8, ?_⟩
      exact pack (hE5.ext hE6) (own_cells (own_ext hown hE6)) (pseudoL_len _ _ _) hpB (by decide) hov (fun e => e.2 h6) (hE7.ext hE8) (hb7.ext hE8) hbw

set_option maxHeartbeats 1000000 in
theorem refSerialise_spec (hd : Cells w m.A (data.map (.int .u8))) (hl : data.length = m.n) (hB : Bts data) (hs : Bts src.bytes) (ht : Bts dst.bytes) :
    Calls Tryd.prog 27 #[src.val, dst.val, m.val] w fun e w' => Ext w w' ∧ ∃ W wc, e = .returned (.tuple #[.slice W (serS m src dst data).1.length wc, .int .i64 (serS m src dst data).2]) ∧
      w'.ownsRow w.heap.size 5 1 (.slice W (serS m src dst data).1.length wc) (serS m src dst data).1.length ((serS m src dst data).1.map (.int .u8)) := by
  refine weirref8_Serialise_of src.v src.a0 src.a1 src.a2 src.a3 src.a4 src.a5 src.a6 src.a7 src.a8 src.a9 src.a10 src.a11 src.a12 src.a13 src.a14 src.a15
    dst.v dst.a0 dst.a1 dst.a2 dst.a3 dst.a4 dst.a5 dst.a6 dst.a7 dst.a8 dst.a9 dst.a10 dst.a11 dst.a12 dst.a13 dst.a14 dst.a15 m.v m.t m.c m.r m.A m.n m.k w _ ?_
  unfold weirref8_Serialise_VC
  refine NewVC.blk fun g1 w1 hg1 hz1 hE1 hb1 => NewVC.blk fun g2 w2 hg2 hz2 hE2 hb2 => NewVC.blk fun g3 w3 hg3 hz3 hE3 hb3 => ?_
  have hE03 := (hE1.ext hE2).ext hE3
  have hb1 := (hb1.ext hE2).ext hE3
  have hb2 := hb2.ext hE3
  refine ⟨_, _, _, _, _, _, _, CellsAt.blk hb3, ?_⟩
  refine (refCheck8_spec m).mono ?_
  rintro _ w4 ⟨hE4, rfl⟩
  refine ⟨_, rfl, Br.dec (fun hne => ?_) (fun he => ?_)⟩
  · have e : serS m src dst data = ([], checkS m) := by unfold serS; rw [if_pos hne]
    rw [e]
    exact ⟨hE03.ext hE4, none, 0, rfl, World.ownsRow_nil _ _ _ _⟩
  have hok : checkS m = 0 := Decidable.not_not.1 he
  obtain ⟨hv, hmt, hmc, hmr, hmn⟩ := checkS_ok hok
  have hE04 := hE03.ext hE4
  refine JoinVC.of (fun _ w' => Ext w4 w' ∧ (m.v ≠ 4 → src.v = 6 ∧ dst.v = 6)) ?_ ?_
  · refine ⟨_, (hb3.ext hE4).cell 0, Br.dec (fun h6 => ?_) (fun h6 => ⟨Mod.refl _ _, fun h4 => by omega⟩)⟩
    refine ⟨_, _, _, _, _, _, _, _, _, _, _, _, _, _, _, _, _, CellsAt.blk (hb1.ext hE4), _, _, _, _, _, _, _, _, _, _, _, _, _, _, _, _, _, CellsAt.blk (hb2.ext hE4), ?_⟩
    refine (six_spec (src := src) (dst := dst)).mono ?_
    rintro _ w5 ⟨hE5, rfl⟩
    refine ⟨_, rfl, ?_⟩
    by_cases hsix : src.v = 6 ∧ dst.v = 6
    · exact Br.f (by simp [hsix]) ⟨hE5, fun _ => hsix⟩
    · refine Br.t (by simp [hsix]) ?_
      have e : serS m src dst data = ([], 20) := by unfold serS; rw [if_neg he, if_pos ⟨by omega, hsix⟩]
      rw [e]
      exact ⟨hE04.ext hE5, none, 0, rfl, World.ownsRow_nil _ _ _ _⟩
  rintro _ w6 ⟨hE6, hfam⟩
  unfold weirref8_Serialise_J15
  have hb36 := (hb3.ext hE4).ext hE6
  have hb16 := (hb1.ext hE4).ext hE6
  have hb26 := (hb2.ext hE4).ext hE6
  have hE06 := hE04.ext hE6
  refine ⟨_, hb36.cell 1, _, hb36.cell 2, _, hb36.cell 3, _, hb36.cell 3, _, hb36.cell 3, _, hb36.cell 3, ?_⟩
  refine NewVC.blk fun g4 w7 hg4 hz7 hE7 hb7 => ?_
  have hhB : Bts (headS m.t m.c 0 m.r) := headS_bts hmt hmc ⟨by decide, by decide⟩ hmr
  have hb7 : Blk w7 g4 5 ((headS m.t m.c 0 m.r).map (.int .u8)) := by
    have e0 : IntKind.u8.wrap m.t = m.t := wu8 (by omega) (by omega)
    have e1 : IntKind.u8.wrap m.c = m.c := wu8 (by omega) (by omega)
    have e2 : IntKind.u8.wrap (Int.fdiv m.r 16777216) = m.r / 16777216 := by rw [Int.fdiv_eq_ediv_of_nonneg _ (by decide), wu8 (by omega) (by omega)]
    have e3 : IntKind.u8.wrap (Int.fdiv m.r 65536) = m.r / 65536 % 256 := by rw [Int.fdiv_eq_ediv_of_nonneg _ (by decide), u8_eq]
    have e4 : IntKind.u8.wrap (Int.fdiv m.r 256) = m.r / 256 % 256 := by rw [Int.fdiv_eq_ediv_of_nonneg _ (by decide), u8_eq]
    have e5 : IntKind.u8.wrap m.r = m.r % 256 := u8_eq _
    have h7 := hb7
    rw [e0, e1, e2, e3, e4, e5] at h7
    exact h7
  have s6 := hE06.size
  have hown7 : w7.ownsRow w.heap.size 5 1 (.slice (some ⟨g4, 0, none⟩) 8 8) 8 ((headS m.t m.c 0 m.r).map (.int .u8)) := own_of_blk (n := 8) (c := 8) hb7 (by omega) rfl (Nat.le_refl _) (by decide)
  refine ⟨_, _, _, (hb36.ext hE7).cell 4, ?_⟩
  have hE07 := hE06.ext hE7
  refine AppVC.at Tryd.underlying22 tyByte rfl hown7 (hd.ext hE07) (by simpa using hl) (ints_one _ _) (by omega) (by decide) hE07.size fun W wc w8 hown8 hm8 _ hat8 => ?_
  rw [← List.map_append] at hown8
  have hE08 := Ext.own hE07 hown7 hm8
  have hnk : ∀ k, some k = (Value.slice (some ⟨g4, 0, none⟩) 8 8).ownBlock → k = g4 := fun k hk => by simp [Value.ownBlock] at hk; exact hk
  have hb38 := (hb36.ext hE7).mod hm8 fun e => by have := hnk _ e; have := hb36.lt; omega
  have hb18 := (hb16.ext hE7).mod hm8 fun e => by have := hnk _ e; have := hb16.lt; omega
  have hb28 := (hb26.ext hE7).mod hm8 fun e => by have := hnk _ e; have := hb26.lt; omega
  refine ⟨_, hb38.cell 0, _, _, _, _, _, _, _, _, _, _, _, _, _, _, _, _, _, CellsAt.blk hb18, _, _, _, _, _, _, _, _, _, _, _, _, _, _, _, _, _, CellsAt.blk hb28, ?_⟩
  have hlen : (headS m.t m.c 0 m.r ++ data).length = 8 + m.n := by rw [List.length_append, headS_len, hl]
  have hoB := overS_bts (v := m.v) hs ht (hhB.append hB) (by omega)
  refine (parts_spec (v := m.v) (src := src) (dst := dst) (own_cells hown8) hlen (hhB.append hB) (by omega) hfam hs ht).mono ?_
  rintro _ w9 ⟨hE9, gp, pm, ps, rfl, hps, hpl, hpm, hgr⟩
  refine ⟨_, _, _, rfl, ?_⟩
  refine (refCheck_spec hps hpl (by omega)).mono ?_
  rintro _ w10 ⟨rfl, rfl⟩
  have hsb := sumS_bound hoB
  rw [hgr]
  have e : serS m src dst data = (headS m.t m.c (65535 - sumS (overS m.v src dst (headS m.t m.c 0 m.r ++ data))) m.r ++ data, 0) := by unfold serS; rw [if_neg he, if_neg (fun e => e.2 (hfam e.1))]
  rw [e]
  generalize sumS (overS m.v src dst (headS m.t m.c 0 m.r ++ data)) = s at hsb ⊢
  have e1 : IntKind.u8.wrap (IntKind.i64.wrap (Int.tdiv (65535 - s) 256)) = (65535 - s) / 256 := by rw [Int.tdiv_eq_ediv_of_nonneg (by omega), w64 (by omega) (by omega), wu8 (by omega) (by omega)]
  have e2 : IntKind.u8.wrap (Int.tmod (65535 - s) 256) = (65535 - s) % 256 := by rw [Int.tmod_eq_emod_of_nonneg (by omega), wu8 (by omega) (by omega)]
  have hown9 := own_ext hown8 hE9
  refine ⟨_, rfl, ?_⟩
  rw [e1, e2]
  refine IdxVC.own hown9 (by decide) (by omega) (by omega) fun a _ hset => hset _ _ rfl fun w12 hz12 hm12 hown12 => ?_
  refine IdxVC.own hown12 (by decide) (by omega) (by omega) fun a _ hset => hset _ _ rfl fun w13 hz13 hm13 hown13 => ?_
  have hE12 := Ext.own (hE08.ext hE9) hown9 hm12
  have hE13 := Ext.own hE12 hown12 hm13
  have el : (headS m.t m.c (65535 - s) m.r ++ data).length = 8 + m.n := by rw [List.length_append, headS_len, hl]
  simp only [el]
  exact ⟨hE13, W, wc, rfl, hown13⟩
end
end Go.Proofs.YtjngdcilnipjcaaDoor
