/- Contract of the document's own answer for Pack (package weirref1). -/
import Derived.Test.YtdchpilghgnnoaaRef2
namespace Go.Proofs.Ytdchpilghgnnoaa
open Go.Eng Go.RowKit

/-- How a row of bits stands for the first values. -/
structure BitRow (ws vs row : List Int) (i : Nat) : Prop where
  bits : Row01 row
  len : (row.length : Int) = psum (ws.take i)
  vals : fieldsV (fun q => row.getD q 0) 0 (ws.take i) = vs.take i

theorem pack_tail {w0 w : World} {R : Ending → World → Prop} {RA : Option Addr} {row ws vs : List Int} (hE : Ext w0 w) (hrow : Cells w RA (row.map (.int .i64))) (hok : widthsOk ws) (hv : vs.length = ws.length) (hb : BitRow ws vs row ws.length)
    (h : ∀ w' A' c' ds, Ext w0 w' → Packed ws vs ds → w'.ownsRow w.heap.size 5 1 (.slice A' ds.length c') ds.length (ds.map (.int .u8)) → R (.returned (.tuple #[.slice A' ds.length c', .int .i64 0])) w') :
    LoopVC (S := (Option Addr × Nat × Nat) × Int) (fun s w10 K2042 => weirref1_Pack_L2042 R (psum ws) RA row.length s.1.1 s.1.2.1 s.1.2.2 s.2 w10 K2042) ((none, 0, 0), 0) w := by
  have hW := hok.2.1
  have hpb := psum_bound hW
  have h64 : ws.length ≤ 64 := hok.1
  have h8 := hok.2.2
  have hlen := hb.len
  have hvals := hb.vals
  rw [List.take_length] at hlen hvals
  rw [List.take_of_length_le (by omega)] at hvals
  refine LoopVC.of (fun s w' => ∃ (t : Nat) (A2 : Option Addr) (c2 : Nat), 8 * t ≤ row.length ∧ s = ((A2, t, c2), 8 * (t : Int)) ∧ Ext w w' ∧
    w'.ownsRow w.heap.size 5 1 (.slice A2 t c2) t (((List.range t).map fun q => fieldV (fun i => row.getD i 0) (8 * q) 8).map (.int .u8))) (fun s _ => (row.length - s.2).toNat) ⟨0, none, 0, by omega, by simp, Mod.refl _ _, World.ownsRow_nil _ _ _ _⟩ ?_
  rintro _ w1 ⟨t, A2, c2, ht, rfl, hE1, hown⟩
  show weirref1_Pack_L2042 R (psum ws) RA row.length A2 t c2 (8 * (t : Int)) w1 _
  unfold weirref1_Pack_L2042
  refine Br.dec (fun hlt => ?_) (fun hge => ?_)
  · refine LoopVC.of (fun s w' => w1 = w' ∧ ∃ j : Nat, j ≤ 8 ∧ s = (fieldV (fun i => row.getD i 0) (8 * t) j, 8 * (t : Int) + j)) (fun s _ => (8 * t + 8 - s.2).toNat) ⟨rfl, 0, by omega, by simp [fieldV]⟩ ?_
    rintro _ w2 ⟨rfl, j, hj, rfl⟩
    show weirref1_Pack_L522826 RA row.length A2 t c2 (8 * (t : Int)) _ (fieldV (fun i => row.getD i 0) (8 * t) j) (8 * (t : Int) + j) w1 _
    unfold weirref1_Pack_L522826
    have hfb := fieldV_bound hb.bits.at (8 * t) j
    have hp2 := pow2_32 (n := j) (by omega)
    rw [w64 (n := 8 * (t : Int) + 8) (by omega) (by omega)]
    refine Br.dec (fun hjl => ?_) (fun hjg => ?_)
    · refine IdxVC.int (hrow.ext hE1) (by omega) (by omega) rfl fun a hc => ⟨_, hc, ?_⟩
      have e1 : (8 * (t : Int) + j).toNat = 8 * t + j := by omega
      have h01 := hb.bits.at (8 * t + j)
      rw [e1, w64 (n := 2 * fieldV (fun i => row.getD i 0) (8 * t) j) (by omega) (by omega), w64 (n := 2 * fieldV (fun i => row.getD i 0) (8 * t) j + row.getD (8 * t + j) 0) (by omega) (by omega), w64 (n := 8 * (t : Int) + j + 1) (by omega) (by omega)]
      refine ⟨⟨rfl, j + 1, by omega, ?_⟩, by simp only; omega⟩
      simp only [fieldV]
      rw [Prod.mk.injEq]; constructor
      · rfl
      · omega
    · have hj8 : j = 8 := by omega
      subst hj8
      rw [wu8 hfb.1 (by have : (2 : Int) ^ 8 = 256 := by decide
                        omega)]
      refine AppVC.one Try.underlying22 tyByte rfl hown rfl (by omega) (by decide) hE1.size fun A3 c3 w7 hown7 hm7 hc7 => ?_
      refine ⟨⟨t + 1, A3, c3, by omega, ?_, Ext.own hE1 hown hm7, ?_⟩, ?_⟩
      · simp; omega
      · rw [List.range_succ, List.map_append, List.map_append]; exact hown7
      · simp only; omega
  · have hl : row.length = 8 * t := by omega
    have hpk : Packed ws vs ((List.range t).map fun q => fieldV (fun i => row.getD i 0) (8 * q) 8) := by
      refine ⟨by simp; omega, ?_, ?_⟩
      · intro x hx
        obtain ⟨q, _, rfl⟩ := List.mem_map.1 hx
        exact fieldV_bound hb.bits.at (8 * q) 8
      · rw [← hvals]
        refine fieldsV_congr ws 0 hW fun i hi => ?_
        rw [Nat.zero_add]
        exact bitAt_rows hb.bits rfl (by omega)
    have := h w1 A2 c2 _ (hE.ext hE1) hpk (by simpa using hown)
    simpa using this

theorem pack_bits {w0 w : World} {A RA : Option Addr} {n rc i : Nat} {wide v : Int} {row ws vs : List Int} {K : (Option Addr × Nat × Nat) × Int → World → Prop} (hE : Ext w0 w) (hvs : Cells w0 A (vs.map (.int .i64))) (hn : vs.length = n) (hi : i < n) (hv : vs.getD i 0 = v)
    (hw0 : 1 ≤ wide) (hw1 : wide ≤ 32) (hv0 : 0 ≤ v) (hv1 : v < 2 ^ wide.toNat) (hown : w.ownsRow w0.heap.size 3 1 (.slice RA row.length rc) row.length (row.map (.int .i64))) (hb : BitRow ws vs row i) (hW : W32 (ws.take i)) (hsz : row.length ≤ 4096)
    (hK : ∀ w' A' c' row', Ext w0 w' → w'.ownsRow w0.heap.size 3 1 (.slice A' row'.length c') row'.length (row'.map (.int .i64)) → Row01 row' → (row'.length : Int) = row.length + wide → fieldsV (fun q => row'.getD q 0) 0 (ws.take i) = vs.take i →
      fieldV (fun q => row'.getD q 0) row.length wide.toNat = v → K ((A', row'.length, c'), IntKind.i64.wrap ((i : Int) + 1)) w') :
    LoopVC (S := (Option Addr × Nat × Nat) × Int) (fun s w5 K64806 => weirref1_Pack_L64806 A n (i : Int) K s.1.1 s.1.2.1 s.1.2.2 s.2 w5 K64806) ((RA, row.length, rc), IntKind.i64.wrap (wide - 1)) w := by
  rw [w64 (n := wide - 1) (by omega) (by omega)]
  have hpsn := psum_bound hW
  have hbl := hb.len
  refine LoopVC.of (fun s w' => ∃ (j : Nat) (A2 : Option Addr) (c2 : Nat) (row2 : List Int), (j : Int) ≤ wide ∧ s = ((A2, row2.length, c2), wide - 1 - j) ∧ Ext w0 w' ∧ w'.ownsRow w0.heap.size 3 1 (.slice A2 row2.length c2) row2.length (row2.map (.int .i64)) ∧
    Row01 row2 ∧ row2.length = row.length + j ∧ fieldsV (fun q => row2.getD q 0) 0 (ws.take i) = vs.take i ∧ fieldV (fun q => row2.getD q 0) row.length j = v / 2 ^ (wide.toNat - j)) (fun s _ => (s.2 + 1).toNat) ?_ ?_
  · refine ⟨0, RA, rc, row, by omega, by simp, hE, hown, hb.bits, rfl, hb.vals, ?_⟩
    simp only [fieldV, Nat.sub_zero]
    rw [Int.ediv_eq_zero_of_lt hv0 hv1]
  rintro _ w1 ⟨j, A2, c2, row2, hj, rfl, hE1, hown1, h01, hlen, hvals, hfv⟩
  show weirref1_Pack_L64806 A n (i : Int) K A2 row2.length c2 (wide - 1 - j) w1 _
  unfold weirref1_Pack_L64806
  refine Br.dec (fun hk => ?_) (fun hk => ?_)
  · intro w2 hw2
    have hE2 : Ext w1 w2 := by subst hw2; exact Ext.drew w1
    have hE02 := hE1.ext hE2
    refine ⟨fun w' => Ext w0 w', hE02, ?_⟩
    refine IdxVC.draw (S := fun w' => Ext w0 w') hE02 (fun w' h => hvs.ext h) (by omega) (by omega) hn fun a hc => ⟨_, hc, ?_⟩
    rw [Int.toNat_natCast, hv]
    have ek : wide - 1 - (j : Int) = ((wide.toNat - (j + 1) : Nat) : Int) := by omega
    rw [ek]
    refine (power_spec (by omega)).mono ?_
    rintro _ w3 ⟨rfl, rfl⟩
    have hpw : (0 : Int) < 2 ^ (wide.toNat - (j + 1)) := Int.pow_pos (by decide)
    refine ⟨_, rfl, hE02, by omega, ?_⟩
    have hp := pow2_32 (n := wide.toNat) (by omega)
    have hdb : 0 ≤ v / 2 ^ (wide.toNat - (j + 1)) := Int.ediv_nonneg hv0 (Int.pow_nonneg (by decide))
    have hdb2 : v / 2 ^ (wide.toNat - (j + 1)) ≤ v := Int.ediv_le_self _ hv0
    rw [Int.tdiv_eq_ediv_of_nonneg hv0, w64 (n := v / 2 ^ (wide.toNat - (j + 1))) (by omega) (by omega), Int.tmod_eq_emod_of_nonneg hdb]
    obtain ⟨ti, hti, htz, hts, hty⟩ := tyInt
    refine NewVC.blk fun g w8 hg hz8 hE8 hb8 => ⟨hE02.ext hE8, ?_⟩
    have hown8 := own_ext hown1 (hE2.ext hE8)
    refine AppVC.own Try.underlying55 hti htz hts hty rfl (by decide) hown8 (by simpa using Cells.of_blk hb8 0) rfl (by simp [Value.oneCell']) (by omega) (by decide) (hE02.ext hE8).size fun A3 c3 w9 hown9 hm9 hc9 => ?_
    have hE9 := Ext.own (hE02.ext hE8) hown8 hm9
    refine ⟨hE9, ⟨j + 1, A3, c3, row2 ++ [(v / 2 ^ (wide.toNat - (j + 1))) % 2], by omega, ?_, hE9, ?_, h01.snoc (by omega) (by omega), by simp; omega, ?_, ?_⟩, ?_⟩
    · rw [w64 (by omega) (by omega)]
      simp; omega
    · simpa using hown9
    · rw [← hvals]
      refine fieldsV_congr _ _ hW fun q hq => ?_
      exact getD_append_left (by omega) _
    · simp only [fieldV]
      have e1 : (row2 ++ [(v / 2 ^ (wide.toNat - (j + 1))) % 2]).getD (row.length + j) 0 = (v / 2 ^ (wide.toNat - (j + 1))) % 2 := by
        rw [← hlen]; exact getD_snoc _ _
      have e2 : fieldV (fun q => (row2 ++ [(v / 2 ^ (wide.toNat - (j + 1))) % 2]).getD q 0) row.length j = fieldV (fun q => row2.getD q 0) row.length j :=
        fieldV_congr _ _ _ fun q hq => getD_append_left (by omega) _
      rw [e1, e2, hfv]
      have := half_join v (wide.toNat - (j + 1)) hv0
      rwa [show wide.toNat - (j + 1) + 1 = wide.toNat - j by omega] at this
    · simp only
      rw [w64 (by omega) (by omega)]; omega
  · have hjw : (j : Int) = wide := by omega
    have hj2 : j = wide.toNat := by omega
    refine hK w1 A2 c2 row2 hE1 hown1 h01 (by omega) hvals ?_
    rw [← hj2, hfv, ← hj2]; simp

theorem refPack_spec {A W : Option Addr} {n c m d : Nat} {ws vs : List Int} {w : World} (hws : Cells w W (ws.map (.int .i64))) (hm : ws.length = m) (hvs : Cells w A (vs.map (.int .i64))) (hn : vs.length = n) :
    Calls Try.prog 69 #[.slice W m d, .slice A n c] w fun e w' => Ext w w' ∧
      ((widthsOk ws ∧ n = m ∧ valuesOk ws vs ∧ ∃ A' c' ds, Packed ws vs ds ∧ e = .returned (.tuple #[.slice A' ds.length c', .int .i64 0]) ∧ w'.ownsRow w.heap.size 5 1 (.slice A' ds.length c') ds.length (ds.map (.int .u8))) ∨
       (widthsOk ws ∧ n = m ∧ ¬ valuesOk ws vs ∧ e = .returned (.tuple #[.slice none 0 0, .int .i64 12])) ∨
       (widthsOk ws ∧ n ≠ m ∧ e = .returned (.tuple #[.slice none 0 0, .int .i64 1])) ∨
       (¬ widthsOk ws ∧ e = .returned (.tuple #[.slice none 0 0, .int .i64 11]))) := by
  refine weirref1_Pack_of W m d A n c w _ ?_
  unfold weirref1_Pack_VC
  refine (refBits_spec hws hm).mono ?_
  rintro _ w1 ⟨rfl, ⟨hok, rfl⟩ | ⟨hok, rfl⟩⟩
  · refine ⟨_, rfl, ?_⟩
    have hW := hok.2.1
    have hpb := psum_bound hW
    have h64 : ws.length ≤ 64 := hok.1
    have h8 := hok.2.2
    refine Br.no (by omega) (Br.dec (fun hnm => ⟨Mod.refl _ _, .inr (.inr (.inl ⟨hok, by omega, rfl⟩))⟩) (fun hnm => ?_))
    have hnm : n = m := by omega
    refine LoopVC.of (fun s w' => ∃ (i : Nat) (A2 : Option Addr) (c2 : Nat) (row : List Int), i ≤ m ∧ s = ((A2, row.length, c2), (i : Int)) ∧ Ext w w' ∧ w'.ownsRow w.heap.size 3 1 (.slice A2 row.length c2) row.length (row.map (.int .i64)) ∧
      BitRow ws vs row i ∧ (∀ j, j < i → 0 ≤ vs.getD j 0 ∧ vs.getD j 0 < 2 ^ (ws.getD j 0).toNat)) (fun s _ => (m - s.2).toNat)
      ⟨0, none, 0, [], by omega, rfl, Mod.refl _ _, World.ownsRow_nil _ _ _ _, ⟨fun x hx => by simp at hx, by simp [psum], by simp [fieldsV]⟩, fun j hj => by omega⟩ ?_
    rintro _ w2 ⟨i, A2, c2, row, him, rfl, hE2, hown, hbr, hvok⟩
    show weirref1_Pack_L506 _ W m A n (psum ws) A2 row.length c2 (i : Int) w2 _
    unfold weirref1_Pack_L506
    refine Br.dec (fun hlt => ?_) (fun hge => ?_)
    · have hil : i < ws.length := by omega
      have hiv : i < vs.length := by omega
      have hwi := hW ws[i] (List.getElem_mem hil)
      have gw : ws.getD i 0 = ws[i] := by simp [hil]
      have gv : vs.getD i 0 = vs[i] := by simp [hiv]
      intro w3 hw3
      have hE3 : Ext w2 w3 := by subst hw3; exact Ext.drew w2
      have hE03 := hE2.ext hE3
      refine ⟨fun w' => Ext w w', hE03, ?_⟩
      refine IdxVC.draw (S := fun w' => Ext w w') hE03 (fun w' h => hvs.ext h) (by omega) (by omega) hn fun a hc => ⟨_, hc, ?_⟩
      rw [Int.toNat_natCast, gv]
      refine Br.dec (fun hneg => ⟨hE03, .inr (.inl ⟨hok, hnm, fun hv => ?_, rfl⟩)⟩) (fun hneg => ?_)
      · have := hv.2 i hil; omega
      refine IdxVC.draw (S := fun w' => Ext w w') hE03 (fun w' h => hvs.ext h) (by omega) (by omega) hn fun a1 hc1 => ⟨_, hc1, ?_⟩
      refine IdxVC.draw (S := fun w' => Ext w w') hE03 (fun w' h => hws.ext h) (by omega) (by omega) hm fun a2 hc2 => ⟨_, hc2, ?_⟩
      rw [Int.toNat_natCast, gw, gv]
      have ewi : ws[i] = (((ws[i]).toNat : Nat) : Int) := by omega
      have hpow : Calls Try.prog 78 #[.int .i64 ws[i]] w3 (fun e w' => w3 = w' ∧ e = .returned (.int .i64 (2 ^ (ws[i]).toNat))) := by
        have := power_spec (k := (ws[i]).toNat) (w := w3) (by omega)
        rwa [← ewi] at this
      refine hpow.mono ?_
      rintro _ w4 ⟨rfl, rfl⟩
      refine ⟨_, rfl, hE03, ?_⟩
      refine Br.dec (fun hbig => ⟨hE03, .inr (.inl ⟨hok, hnm, fun hv => ?_, rfl⟩)⟩) (fun hsm => ?_)
      · have := hv.2 i hil
        rw [gv, gw] at this; omega
      refine IdxVC.int (hws.ext hE03) (by omega) hlt hm fun a3 hc3 => ⟨_, hc3, ?_⟩
      rw [getD_cast _ _ hil]
      have hp0 := psum_bound (hW.take i)
      have hsn : psum (ws.take (i + 1)) = psum (ws.take i) + ws[i] := by rw [List.take_succ_eq_append_getElem hil, psum_snoc]
      have hle := psum_take_le hW (i + 1)
      have hbl := hbr.len
      refine pack_bits (ws := ws) (vs := vs) hE03 hvs hn (by omega) gv hwi.1 hwi.2 (by omega) (by omega) (own_ext hown hE3) hbr (hW.take i) (by omega) ?_
      intro w' A' c' row' hE' hown' h01' hlen' hvals' hfv'
      refine ⟨⟨i + 1, A', c', row', by omega, ?_, hE', hown', ⟨h01', by omega, ?_⟩, ?_⟩, ?_⟩
      · rw [w64 (by omega) (by omega)]; rfl
      · rw [List.take_succ_eq_append_getElem hil, fieldsV_snoc _ _ _ _ (hW.take i), hvals', List.take_succ_eq_append_getElem hiv]
        have e2 : (0 + (psum (ws.take i)).toNat) = row.length := by omega
        rw [e2, hfv']
      · intro j hj
        rcases Nat.lt_succ_iff_lt_or_eq.1 hj with hj | rfl
        · exact hvok j hj
        · rw [gv, gw]; exact ⟨by omega, by omega⟩
      · simp only
        rw [w64 (by omega) (by omega)]; omega
    · have him' : i = ws.length := by omega
      subst him'
      refine pack_tail hE2 (own_cells hown) hok (by omega) hbr fun w' A' c' ds hE' hpk hown' => ⟨hE', .inl ⟨hok, hnm, ⟨by omega, fun j hj => hvok j hj⟩, A', c', ds, hpk, rfl, own_base hown' hE2.size⟩⟩
  · exact ⟨_, rfl, Br.yes (by omega) ⟨Mod.refl _ _, .inr (.inr (.inr ⟨hok, rfl⟩))⟩⟩
theorem pack_spec {A W : Option Addr} {n c m d : Nat} {ws vs : List Int} {w : World} (hws : Cells w W (ws.map (.int .i64))) (hm : ws.length = m) (hvs : Cells w A (vs.map (.int .i64))) (hn : vs.length = n) :
    Calls Try.prog 33 #[.slice W m d, .slice A n c] w fun e w' => Ext w w' ∧
      ((widthsOk ws ∧ n = m ∧ valuesOk ws vs ∧ ∃ A' ds, Packed ws vs ds ∧ e = .returned (.tuple #[.slice A' ds.length ds.length, .int .i64 0]) ∧ w'.ownsRow w.heap.size 5 1 (.slice A' ds.length ds.length) ds.length (ds.map (.int .u8))) ∨
       (widthsOk ws ∧ n = m ∧ ¬ valuesOk ws vs ∧ e = .returned (.tuple #[.slice none 0 0, .int .i64 12])) ∨
       (widthsOk ws ∧ n ≠ m ∧ e = .returned (.tuple #[.slice none 0 0, .int .i64 1])) ∨
       (¬ widthsOk ws ∧ e = .returned (.tuple #[.slice none 0 0, .int .i64 11]))) := by
  by_cases hok : widthsOk ws
  · by_cases hnm : n = m
    · exact (pack_ok hws hm hvs hn hok hnm).mono fun e w' ⟨hE, h⟩ => ⟨hE, h.elim (fun h => .inl ⟨hok, hnm, h.1, h.2⟩) fun h => .inr (.inl ⟨hok, hnm, h.1, h.2⟩)⟩
    · exact (pack_no1 hws hm hok hnm).mono fun e w' ⟨h1, h⟩ => ⟨h1 ▸ Mod.refl _ _, .inr (.inr (.inl ⟨hok, hnm, h⟩))⟩
  · exact (pack_no11 hws hm hok).mono fun e w' ⟨h1, h⟩ => ⟨h1 ▸ Mod.refl _ _, .inr (.inr (.inr ⟨hok, h⟩))⟩
end Go.Proofs.Ytdchpilghgnnoaa
