/- IcmpAgain: one turn of the loop. -/
import Derived.Test.YtjngdcilnipjcaaDoorAg1
namespace Go.Eng
open Go Go.RowKit
/-- A message whose data stand in a wide room. -/
def wideM (m : MsgV) (gm : Nat) (n : Nat) : MsgV := ⟨m.v, m.t, m.c, m.r, some ⟨gm, 0, none⟩, n, 2 * n + 70⟩
def TurnsIs (w : World) (A : Option Addr) (n : Nat) (l : List (Int × Int × Int)) : Prop := Recs w A 3 (l.map fun s => [.int .i64 s.1, .int .i64 s.2.1, .int .i64 s.2.2]) ∧ l.length = n
end Go.Eng
namespace Go.Proofs.YtjngdcilnipjcaaDoor
namespace Nd
open Go.Eng Go.RowKit
/-- What stands between two calls. -/
structure AgSt (w0 w : World) (g1 g2 g3 gw gm : Nat) (src dst : IPV) (m : MsgV) (Lw Lm : List Int) : Prop where
  ext : Ext w0 w
  b1 : Blk w g1 31 src.cells
  b2 : Blk w g2 31 dst.cells
  b3 : Blk w g3 24 (wideM m gm Lm.length).cells
  bw : Blk w gw 5 ((wideC Lw).map (.int .u8))
  bm : Blk w gm 5 ((wideC Lm).map (.int .u8))
  cw : Bts Lw
  cm : Bts Lm
  lw : Lw.length ≤ 66000
  lm : Lm.length ≤ 66000
section
variable {w0 w w' : World} {g1 g2 g3 g4 g5 g6 gw gm : Nat} {src dst : IPV} {m : MsgV} {Lw Lm : List Int}
theorem AgSt.to (h : AgSt w0 w g1 g2 g3 gw gm src dst m Lw Lm) (hE : Ext w w') : AgSt w0 w' g1 g2 g3 gw gm src dst m Lw Lm :=
  ⟨h.ext.ext hE, h.b1.ext hE, h.b2.ext hE, h.b3.ext hE, h.bw.ext hE, h.bm.ext hE, h.cw, h.cm, h.lw, h.lm⟩
theorem wide_cells {g : Nat} {L : List Int} (h : Blk w g 5 ((wideC L).map (.int .u8))) : Cells w (some ⟨g, 0, none⟩) (L.map (.int .u8)) := by
  have := (Cells.of_blk h 0).take L.length
  rw [List.drop_zero, ← List.map_take, wideC_take] at this
  exact this
set_option maxHeartbeats 2000000 in
set_option maxRecDepth 20000 in
theorem again_rest {R : Ending → World → Prop} {q : ParsedV} {A5 A6 DA BA : Option Addr} {k6 dk bk : Nat} {i : Nat} {tn : Nat} {tA : Option Addr} {l : List (Int × Int × Int)} {K250 : Int → World → Prop}
    (h : AgSt w0 w g1 g2 g3 gw gm src dst m Lw Lm) (hT : Tab w0) (hl : TurnsIs w0 tA tn l) (_ : tn ≤ 1048576) (hs : Bts src.bytes) (hd : Bts dst.bytes) (ne : gw ≠ gm) (hgw : w0.heap.size ≤ gw) (hgm : w0.heap.size ≤ gm)
    (hb5 : Blk w g5 24 (q.msg A5 q.data.length).cells) (hb6 : Blk w g6 24 (q.msg A6 k6).cells) (h5 : Cells w A5 (q.data.map (.int .u8))) (h6 : Cells w A6 (q.data.map (.int .u8))) (hq : q.data.length ≤ 66000)
    (hb4 : Blk w g4 24 (MsgV.cells ⟨m.v, m.t, m.c, m.r, DA, Lm.length, dk⟩)) (h4 : Cells w DA (Lm.map (.int .u8))) (hdk : Lm.length ≤ dk) (hB : Cells w BA (Lw.map (.int .u8)))
    (hK : ∀ w' Lw' Lm', Lw'.length = Lw.length → Lm'.length = Lm.length → AgSt w0 w' g1 g2 g3 gw gm src dst m Lw' Lm' → K250 (IntKind.i64.wrap ((i : Int) + 1)) w') :
    weirlaw8_IcmpAgain_D64078 R q.err q.err w g5 g6 g1 g2 g3 g4 (some ⟨gw, 0, none⟩) Lw.length (2 * Lw.length + 70) BA Lw.length bk (i : Int) tn tA K250 := by
  unfold weirlaw8_IcmpAgain_D64078
  have hcm : ∀ {w'' : World}, Ext w w'' → Cells w'' (some ⟨gm, 0, none⟩) (Lm.map (.int .u8)) := fun hE => wide_cells (h.to hE).bm
  refine Br.no (fun e => e rfl) ⟨_, _, _, _, _, _, _, CellsAt.blk hb5, _, _, _, _, _, _, _, CellsAt.blk hb6, ?_⟩
  refine (same8_spec (a := q.msg A5 q.data.length) (b := q.msg A6 k6) h5 h6 rfl rfl (by show q.data.length ≤ _; omega)).mono ?_
  rintro _ w1 ⟨hE1, rfl⟩
  have h1 := h.to hE1
  refine ⟨_, rfl, Br.f (by simp [ParsedV.msg]) ⟨_, _, _, _, _, _, _, _, _, _, _, _, _, _, _, _, _, CellsAt.blk h1.b1, _, _, _, _, _, _, _, _, _, _, _, _, _, _, _, _, _, CellsAt.blk h1.b2, _, _, _, _, _, _, _, CellsAt.blk h1.b3, ?_⟩⟩
  refine (serialise_spec (m := wideM m gm Lm.length) (src := src) (dst := dst) (data := Lm) (hcm hE1) rfl h.cm (by show Lm.length ≤ _; have := h.lm; omega) hs hd).mono ?_
  rintro _ w2 ⟨hE2, W, wc, rfl, hownW⟩
  have hE02 := hE1.ext hE2
  have h2 := h.to hE02
  refine ⟨_, _, _, _, rfl, _, _, _, _, _, _, _, _, _, _, _, _, _, _, _, _, _, CellsAt.blk h2.b1, _, _, _, _, _, _, _, _, _, _, _, _, _, _, _, _, _, CellsAt.blk h2.b2, _, _, _, _, _, _, _, CellsAt.blk (hb4.ext hE02), ?_⟩
  let dM : MsgV := ⟨m.v, m.t, m.c, m.r, DA, Lm.length, dk⟩
  refine (refSerialise_spec (m := dM) (src := src) (dst := dst) (data := Lm) (h4.ext hE02) rfl h.cm hs hd).mono ?_
  rintro _ w3 ⟨hE3, V, vc, rfl, hownV⟩
  have hser : serS dM src dst Lm = serS (wideM m gm Lm.length) src dst Lm := rfl
  rw [hser] at hownV ⊢
  have hE03 := hE02.ext hE3
  have hsl : (serS (wideM m gm Lm.length) src dst Lm).1.length ≤ 8 + Lm.length := serS_len
  have hlm := h.lm
  have hlw := h.lw
  generalize serS (wideM m gm Lm.length) src dst Lm = S at hownV hownW hsl ⊢
  refine ⟨_, _, _, _, rfl, DrawVC.of (fun w' => Ext w3 w') fun w4 hE4 _ => ⟨hE4, Br.no (fun e => e rfl) ?_⟩⟩
  refine (same_spec (own_cells (own_ext hownW (hE3.ext hE4))) (own_cells (own_ext hownV hE4)) rfl rfl (by omega)).mono ?_
  rintro _ w5 ⟨hE5, rfl⟩
  have hE35 := hE4.ext hE5
  refine ⟨_, rfl, hE35, Br.f (by simp) ⟨_, _, _, _, _, _, _, fun w' hw' => CellsAt.blk (h.to (hE03.ext hw')).b3, _, _, _, _, _, _, _, fun w' hw' => CellsAt.blk (hb4.ext (hE03.ext hw')), ?_⟩⟩
  refine (check_spec (wideM m gm Lm.length) (by show Lm.length ≤ _; omega)).mono ?_
  rintro _ w6 ⟨hE6, rfl⟩
  have hE36 := hE35.ext hE6
  refine ⟨_, rfl, hE36, ?_⟩
  refine (refCheck8_spec dM).mono ?_
  rintro _ w7 ⟨hE7, rfl⟩
  have hE37 := hE36.ext hE7
  have hE07 := hE03.ext hE37
  have h7 := h.to hE07
  refine ⟨_, rfl, hE37, Br.no (fun e => e rfl) ⟨_, _, _, _, _, _, _, CellsAt.blk h7.b3, ?_⟩⟩
  refine (ParseND_spec (m := wideM m gm Lm.length) (data := Lm) (hcm hE07) rfl h.cm (by show Lm.length ≤ 2 * Lm.length + 70; omega) (by show Lm.length ≤ _; omega) (hT.ext h7.ext)).mono ?_
  rintro _ w8 ⟨hE8, rfl⟩
  refine ⟨_, _, _, _, _, _, _, _, _, _, _, _, _, _, _, _, _, _, _, _, _, _, _, _, _, _, _, _, _, rfl, ?_⟩
  have s8 := hE8.size
  refine NewVC.blk fun g7 w9 hg7 hz9 hE9 hb9 => ?_
  refine setAll (parseND (wideM m gm Lm.length) Lm).1.cells 0 w9 _ _ hb9 rfl fun w10 hz10 hm10 hb10 => ?_
  have hb10 : Blk w10 g7 35 (parseND (wideM m gm Lm.length) Lm).1.cells := hb10
  have hE810 : Ext w8 w10 := hE9.set hm10 (by omega)
  have hE010 := (hE07.ext hE8).ext hE810
  refine ⟨_, _, _, _, _, _, _, CellsAt.blk (hb4.ext hE010), ?_⟩
  refine (refParseND_spec (m := dM) (data := Lm) (h4.ext hE010) rfl h.cm hdk (by show Lm.length ≤ _; omega)).mono ?_
  rintro _ w11 ⟨hE11, rfl⟩
  have hpn : parseND dM Lm = parseND (wideM m gm Lm.length) Lm := rfl
  rw [hpn]
  refine ⟨_, _, _, _, _, _, _, _, _, _, _, _, _, _, _, _, _, _, _, _, _, _, _, _, _, _, _, _, _, rfl, ?_⟩
  have s11 := hE11.size
  refine NewVC.blk fun g8 w12 hg8 hz12 hE12 hb12 => ?_
  refine setAll (parseND (wideM m gm Lm.length) Lm).1.cells 0 w12 _ _ hb12 rfl fun w13 hz13 hm13 hb13 => ?_
  have hb13 : Blk w13 g8 35 (parseND (wideM m gm Lm.length) Lm).1.cells := hb13
  have hE1013 : Ext w10 w13 := hE11.ext (hE12.set hm13 (by omega))
  have hE013 := hE010.ext hE1013
  have h13 := h.to hE013
  refine Br.no (fun e => e rfl) ⟨_, _, _, _, _, _, _, _, _, _, _, _, _, _, _, _, _, _, _, _, _, _, _, _, _, _, _, _, CellsAt.blk (hb10.ext hE1013), _, _, _, _, _, _, _, _, _, _, _, _, _, _, _, _, _, _, _, _, _, _, _, _, _, _, _, _, CellsAt.blk hb13, Br.f (by show (!(eqND _ _)) = false; rw [eqND_refl]; rfl) ?_⟩
  refine (WideStands_spec (L := Lw) h13.bw (hB.ext hE013) rfl h.lw).mono ?_
  rintro _ w14 ⟨hE14, rfl⟩
  have hE014 := hE013.ext hE14
  have h14 := h.to hE014
  refine ⟨_, rfl, Br.f rfl ⟨_, _, _, h14.b3.cell 4, _, _, _, (hb4.ext hE014).cell 4, ?_⟩⟩
  refine (WideStands_spec (L := Lm) h14.bm (h4.ext hE014) rfl h.lm).mono ?_
  rintro _ w15 ⟨hE15, rfl⟩
  have h15 := h.to (hE014.ext hE15)
  refine ⟨_, rfl, Br.f rfl (Br.dec (fun hlt => ?_) fun _ => hK w15 Lw Lm rfl rfl h15)⟩
  have hlt : i < tn := by omega
  have hrs : ∀ {w'' : World}, Ext w0 w'' → Recs w'' tA 3 (l.map fun s => [.int .i64 s.1, .int .i64 s.2.1, .int .i64 s.2.2]) := fun hE => hl.1.ext hE
  have hrl : (l.map fun s : Int × Int × Int => [Value.int .i64 s.1, .int .i64 s.2.1, .int .i64 s.2.2]).length = tn := by rw [List.length_map]; exact hl.2
  obtain ⟨s, hsAt⟩ : ∃ s : Int × Int × Int, (l.map fun s : Int × Int × Int => [Value.int .i64 s.1, .int .i64 s.2.1, .int .i64 s.2.2])[i]? = some [.int .i64 s.1, .int .i64 s.2.1, .int .i64 s.2.2] := by
    have hil : i < l.length := by rw [hl.2]; exact hlt
    exact ⟨l[i], by rw [List.getElem?_map, List.getElem?_eq_getElem hil]; rfl⟩
  obtain ⟨a, ha, -⟩ := hrs h15.ext i _ hsAt
  have turn : ∀ {w'' : World}, Ext w0 w'' → w''.cell? (a.add (i * 3)) = some (.int .i64 s.1) ∧ w''.cell? ((a.add (i * 3)).add 2) = some (.int .i64 s.2.2) := fun hE => by
    obtain ⟨a', ha', hc⟩ := hrs hE i _ hsAt
    rw [ha] at ha'
    cases ha'
    have c0 := hc.1
    have c2 := hc.2.2.1
    rw [add_zero] at c0
    exact ⟨c0, c2⟩
  have idx : ∀ {F : Addr → Prop}, F (a.add (i * 3)) → IdxVC tA tn 3 (i : Int) F := fun hF => ⟨a, ha, by omega, by omega, by rw [Int.toNat_natCast]; exact hF⟩
  refine DrawVC.of (fun w' => Ext w0 w') fun w16 hE16 _ => ⟨h15.ext.ext hE16, ?_⟩
  refine idx ⟨_, fun w' h => (turn h).1, idx ⟨_, fun w' h => (turn h).2, ?_⟩⟩
  have h16 := h15.to hE16
  refine (put_spec (L := Lw) h16.bw h16.cw h16.lw).mono ?_
  rintro _ w17 ⟨hm17, rfl, Lw', hlw', hcw', hbw'⟩
  have hne : ∀ {g t : Nat} {cs : List Value}, Blk w16 g t cs → t ≠ 5 → g ≠ gw := fun hb ht e => by
    subst e
    have h1 := h16.bw
    unfold Blk at h1 hb
    rw [hb] at h1
    injection h1 with h1
    injection h1 with _ h2
    exact ht h2
  have h17 : AgSt w0 w17 g1 g2 g3 gw gm src dst m Lw' Lm :=
    ⟨h16.ext.trans' hm17 fun k hk e => by omega, h16.b1.mod hm17 (hne h16.b1 (by decide)), h16.b2.mod hm17 (hne h16.b2 (by decide)), h16.b3.mod hm17 (hne h16.b3 (by decide)), hbw', h16.bm.mod hm17 (fun e => ne e.symm), hcw', h16.cm, by omega, h16.lm⟩
  refine ⟨rfl, DrawVC.of (fun w' => AgSt w0 w' g1 g2 g3 gw gm src dst m Lw' Lm) fun w18 hE18 _ => ⟨h17.to hE18, ?_⟩⟩
  refine ⟨_, _, _, fun w' h => h.b3.cell 4, idx ⟨_, fun w' h => (turn h.ext).1, idx ⟨_, fun w' h => (turn h.ext).2, ?_⟩⟩⟩
  have h18 := h17.to hE18
  refine (put_spec (L := Lm) h18.bm h18.cm h18.lm).mono ?_
  rintro _ w19 ⟨hm19, rfl, Lm', hlm', hcm', hbm'⟩
  have hne : ∀ {g t : Nat} {cs : List Value}, Blk w18 g t cs → t ≠ 5 → g ≠ gm := fun hb ht e => by
    subst e
    have h1 := h18.bm
    unfold Blk at h1 hb
    rw [hb] at h1
    injection h1 with h1
    injection h1 with _ h2
    exact ht h2
  have h19 : AgSt w0 w19 g1 g2 g3 gw gm src dst m Lw' Lm' :=
    ⟨h18.ext.trans' hm19 fun k hk e => by omega, h18.b1.mod hm19 (hne h18.b1 (by decide)), h18.b2.mod hm19 (hne h18.b2 (by decide)), by rw [hlm']; exact h18.b3.mod hm19 (hne h18.b3 (by decide)), h18.bw.mod hm19 ne, hbm', h18.cw, hcm', h18.lw, by omega⟩
  exact ⟨rfl, hK w19 Lw' Lm' hlw' hlm' h19⟩
end
end Nd
end Go.Proofs.YtjngdcilnipjcaaDoor
