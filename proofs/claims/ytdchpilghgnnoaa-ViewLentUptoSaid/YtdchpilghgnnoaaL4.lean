/- All looks of a script are as the document says, and leave what was handed in as it was. -/
import Derived.Test.YtdchpilghgnnoaaL3
namespace Go.Eng
open Go Go.RowKit
theorem Ext.set {w0 w w' : World} {g : Nat} (hE : Ext w0 w) (hm : Mod (fun k => k = g) w w') (hg : w0.heap.size ≤ g) : Ext w0 w' :=
  hE.trans' hm fun k hk e => by omega
theorem CellsAt.of {w : World} {a : Addr} : ∀ (cs : List Value) (i : Nat), (∀ j v, cs[j]? = some v → w.cell? (a.add (i + j)) = some v) → CellsAt w a i cs
  | [], _, _ => trivial
  | v :: r, i, h => ⟨by simpa using h 0 v rfl, CellsAt.of r (i + 1) fun j u hu => by
      have := h (j + 1) u (by simpa using hu)
      rwa [show i + 1 + j = i + (j + 1) by omega]⟩
theorem CellsAt.blk {w : World} {g : Nat} {t : TypeId} {cs : List Value} (h : Blk w g t cs) : CellsAt w ⟨g, 0, none⟩ 0 cs :=
  CellsAt.of cs 0 fun j v hv => by rw [addr_add, h.cell]; simpa using hv
/-- A row of structs: what each is, cell by cell. -/
def Recs (w : World) (A : Option Addr) (size : Nat) (rs : List (List Value)) : Prop := ∀ i cs, rs[i]? = some cs → ∃ a, A = some a ∧ CellsAt w (a.add (i * size)) 0 cs
theorem CellsAt.ext {w w' : World} {a : Addr} (hE : Ext w w') : ∀ {cs : List Value} {i : Nat}, CellsAt w a i cs → CellsAt w' a i cs
  | [], _, _ => trivial
  | _ :: _, _, h => ⟨Ext.cell hE h.1, CellsAt.ext hE h.2⟩
theorem Recs.ext {w w' : World} {A : Option Addr} {size : Nat} {rs : List (List Value)} (h : Recs w A size rs) (hE : Ext w w') : Recs w' A size rs := fun i cs hi => by
  obtain ⟨a, ha, hc⟩ := h i cs hi
  exact ⟨a, ha, hc.ext hE⟩
theorem IdxVC.rec {w : World} {A : Option Addr} {size n : Nat} {rs : List (List Value)} {i : Int} {F : Addr → Prop} (h : Recs w A size rs) (h0 : 0 ≤ i) (h1 : i < n) (hl : rs.length = n)
    (hF : ∀ a, CellsAt w a 0 (rs.getD i.toNat []) → F a) : IdxVC A n size i F := by
  have hlt : i.toNat < rs.length := by omega
  obtain ⟨a, ha, hc⟩ := h i.toNat _ (List.getElem?_eq_getElem hlt)
  refine ⟨a, ha, h0, h1, hF _ ?_⟩
  simpa [List.getD, hlt] using hc
theorem add_zero (a : Addr) : a.add 0 = a := by simp [Addr.add]
end Go.Eng
namespace Go.Proofs.Ytdchpilghgnnoaa
open Go.Eng Go.RowKit

theorem plays_spec {w : World} {o : OpV} {bs ws vs : List Int} (h : OpIs w o bs ws vs) (hs : o.Bn ≤ 1048576 ∧ o.Wn ≤ 1048576 ∧ o.Vn ≤ 1048576) :
    Calls Try.prog 66 #[.agg o.vals] w fun e w' => Ext w w' ∧ e = .returned (.bool true) := by
  refine weirlaw1_plays_of o.kind o.BA o.Bn o.Bc o.at_ o.n o.WA o.Wn o.Wc o.VA o.Vn o.Vc w _ ?_
  unfold weirlaw1_plays_VC
  have hbl := h.bl
  have hwl := h.wl
  have hvl := h.vl
  refine NewVC.blk fun g1 w1 hg1 hz1 hE1 hb1 => ?_
  have h := h.ext hE1
  refine ⟨_, _, _, hb1.cell 1, ?_⟩
  refine (roomy_spec h.cb h.bl (by omega)).mono ?_
  rintro _ w2 ⟨hE2, A1, c1, rfl, hc1, hown1⟩
  have h := h.ext hE2
  have hb1 := hb1.ext hE2
  refine ⟨_, _, _, rfl, _, _, _, hb1.cell 4, ?_⟩
  refine (roomyInts_spec h.cw h.wl (by omega)).mono ?_
  rintro _ w3 ⟨hE3, A2, c2, rfl, hc2, hown2⟩
  have h := h.ext hE3
  have hb1 := hb1.ext hE3
  have hown1 := own_ext hown1 hE3
  refine ⟨_, _, _, rfl, _, _, _, hb1.cell 5, ?_⟩
  refine (roomyInts_spec h.cv h.vl (by omega)).mono ?_
  rintro _ w4 ⟨hE4, A3, c3, rfl, hc3, hown3⟩
  have h := h.ext hE4
  have hb1 := hb1.ext hE4
  have hown1 := own_ext hown1 hE4
  have hown2 := own_ext hown2 hE4
  have hE04 := ((hE1.ext hE2).ext hE3).ext hE4
  refine ⟨_, _, _, rfl, _, _, _, _, _, _, _, _, _, _, _, _, CellsAt.blk hb1, ?_⟩
  refine NewVC.blk fun g2 w5 hg2 hz5 hE5 hb2 => ?_
  have hg : w4.heap.size ≤ g2 := by omega
  refine SetVC.blk hb2 (by simp) fun w6 hz6 hm6 hb2 => SetVC.blk hb2 (by simp) fun w7 hz7 hm7 hb2 => SetVC.blk hb2 (by simp) fun w8 hz8 hm8 hb2 =>
    SetVC.blk hb2 (by simp) fun w9 hz9 hm9 hb2 => SetVC.blk hb2 (by simp) fun w10 hz10 hm10 hb2 => SetVC.blk hb2 (by simp) fun w11 hz11 hm11 hb2 => ?_
  have hE11 : Ext w4 w11 := (((((hE5.set hm6 hg).set hm7 hg).set hm8 hg).set hm9 hg).set hm10 hg).set hm11 hg
  refine ⟨_, _, _, (hb1.ext hE11).cell 1, ⟨by omega, by omega, ?_⟩⟩
  refine SetVC.blk hb2 (by simp) fun w12 hz12 hm12 hb2 => ?_
  have hE12 := hE11.set hm12 hg
  refine ⟨_, _, _, (hb1.ext hE12).cell 4, ⟨by omega, by omega, ?_⟩⟩
  refine SetVC.blk hb2 (by simp) fun w13 hz13 hm13 hb2 => ?_
  have hE13 := hE12.set hm13 hg
  refine ⟨_, _, _, (hb1.ext hE13).cell 5, ⟨by omega, by omega, ?_⟩⟩
  refine SetVC.blk hb2 (by simp) fun w14 hz14 hm14 hb2 => ?_
  have hE14 := hE13.set hm14 hg
  refine ⟨_, _, _, _, _, _, _, _, _, _, _, _, CellsAt.blk hb2, ?_⟩
  have hop : OpIs w14 ⟨o.kind, A1, o.Bn, c1, o.at_, o.n, A2, o.Wn, c2, A3, o.Vn, c3⟩ bs ws vs := by
    have e1 : ((bs ++ wideTail 75).map (Value.int .u8)).take o.Bn = bs.map (.int .u8) := by rw [List.map_append, List.take_append_of_le_length (by simp; omega), List.take_of_length_le (by simp; omega)]
    have e2 : ((ws ++ wideTailI 70).map (Value.int .i64)).take o.Wn = ws.map (.int .i64) := by rw [List.map_append, List.take_append_of_le_length (by simp; omega), List.take_of_length_le (by simp; omega)]
    have e3 : ((vs ++ wideTailI 70).map (Value.int .i64)).take o.Vn = vs.map (.int .i64) := by rw [List.map_append, List.take_append_of_le_length (by simp; omega), List.take_of_length_le (by simp; omega)]
    refine ⟨?_, h.bl, h.bb, by simp only; omega, h.bn, ?_, h.wl, h.wn, ?_, h.vl, h.vn⟩
    · rw [← e1]; exact (own_cells (own_ext hown1 hE14)).take _
    · rw [← e2]; exact (own_cells (own_ext hown2 hE14)).take _
    · rw [← e3]; exact (own_cells (own_ext hown3 hE14)).take _
  refine (answered_spec hop).mono ?_
  rintro _ w15 ⟨hE15, rfl⟩
  have hE415 := hE14.ext hE15
  refine ⟨_, rfl, Br.t rfl ⟨_, _, _, (hb1.ext hE415).cell 1, ?_⟩⟩
  have h := h.ext hE415
  refine (roomy_spec h.cb h.bl (by omega)).mono ?_
  rintro _ w16 ⟨hE16, A4, c4, rfl, hc4, hown4⟩
  have hE416 := hE415.ext hE16
  have hbt : Bts (bs ++ wideTail 75) := bts_append h.bb (wideTail_bts 75)
  have hbl2 : (bs ++ wideTail 75).length = o.Bn + 75 := by simp [wideTail]; omega
  have hwl2 : (ws ++ wideTailI 70).length = o.Wn + 70 := by simp [wideTailI]; omega
  have hvl2 : (vs ++ wideTailI 70).length = o.Vn + 70 := by simp [wideTailI]; omega
  refine ⟨_, _, _, rfl, ?_⟩
  refine (same_spec (own_cells (own_ext hown1 hE416)) (own_cells hown4) hbl2 hbl2 hbt hbt).mono ?_
  rintro _ w17 ⟨rfl, rfl⟩
  refine ⟨_, rfl, Br.yes rfl ⟨_, _, _, (hb1.ext hE416).cell 4, ?_⟩⟩
  have h := h.ext hE16
  refine (roomyInts_spec h.cw h.wl (by omega)).mono ?_
  rintro _ w18 ⟨hE18, A5, c5, rfl, hc5, hown5⟩
  have hE418 := hE416.ext hE18
  refine ⟨_, _, _, rfl, ?_⟩
  refine (sameInts_spec (own_cells (own_ext hown2 hE418)) (own_cells hown5) hwl2 hwl2 (by omega)).mono ?_
  rintro _ w19 ⟨hE19, rfl⟩
  have hE419 := hE418.ext hE19
  refine ⟨_, rfl, Br.yes rfl ⟨_, _, _, (hb1.ext hE419).cell 5, ?_⟩⟩
  have h := (h.ext hE18).ext hE19
  refine (roomyInts_spec h.cv h.vl (by omega)).mono ?_
  rintro _ w20 ⟨hE20, A6, c6, rfl, hc6, hown6⟩
  refine ⟨_, _, _, rfl, ?_⟩
  refine (sameInts_spec (own_cells (own_ext hown3 (hE419.ext hE20))) (own_cells hown6) hvl2 hvl2 (by omega)).mono ?_
  rintro _ w21 ⟨hE21, rfl⟩
  exact ⟨_, rfl, ((hE04.ext hE419).ext hE20).ext hE21, by rw [decide_eq_true rfl]⟩

/-- A script of looks. -/
structure ScriptIs (w : World) (A : Option Addr) (n : Nat) (l : List OpV) : Prop where
  recs : Recs w A 6 (l.map fun o => o.vals.toList)
  len : l.length = n
  ok : ∀ o ∈ l, ∃ bs ws vs, OpIs w o bs ws vs ∧ o.Bn ≤ 1048576 ∧ o.Wn ≤ 1048576 ∧ o.Vn ≤ 1048576
theorem ScriptIs.ext {w w' : World} {A : Option Addr} {n : Nat} {l : List OpV} (h : ScriptIs w A n l) (hE : Ext w w') : ScriptIs w' A n l :=
  ⟨h.recs.ext hE, h.len, fun o ho => by obtain ⟨bs, ws, vs, h1, h2⟩ := h.ok o ho; exact ⟨bs, ws, vs, h1.ext hE, h2⟩⟩
theorem upTo_spec {w : World} {A : Option Addr} {n c : Nat} {l : List OpV} {lo up : Int} (h : ScriptIs w A n l) (hn : n ≤ 1048576) :
    Calls Try.prog 36 #[.slice A n c, .int .i64 lo, .int .i64 up] w fun e w' => Ext w w' ∧ e = .returned (.bool true) := by
  refine weirlaw1_upTo_of A n c lo up w _ ?_
  unfold weirlaw1_upTo_VC
  refine LoopVC.of (fun s w' => Ext w w' ∧ ∃ i : Nat, s = (i : Int) ∧ i ≤ n) (fun s _ => (n - s).toNat) ⟨Mod.refl _ _, 0, rfl, by omega⟩ ?_
  rintro _ w1 ⟨hE1, i, rfl, hi⟩
  show weirlaw1_upTo_L26 _ A n lo up (i : Int) w1 _
  unfold weirlaw1_upTo_L26
  have h1 := h.ext hE1
  have hlen := h.len
  refine Br.dec (fun hlt => ?_) (fun hge => ⟨hE1, rfl⟩)
  have hil : i < l.length := by omega
  have hrec : (l.map fun o => o.vals.toList).getD (i : Int).toNat [] = (l[i]).vals.toList := by rw [Int.toNat_natCast]; simp [hil]
  have hwr : IntKind.i64.wrap ((i : Int) + 1) = ((i + 1 : Nat) : Int) := by rw [w64 (by omega) (by omega)]; omega
  refine JoinVC.of (fun _ w' => Ext w w') ?_ ?_
  · refine IdxVC.rec h1.recs (by omega) hlt (by simpa using hlen) fun a hc => ?_
    rw [hrec] at hc
    have hc0 := hc.1
    rw [add_zero] at hc0
    refine ⟨_, hc0, Br.dec (fun _ => ?_) (fun _ => hE1)⟩
    refine IdxVC.rec h1.recs (by omega) hlt (by simpa using hlen) fun a hc => ?_
    rw [hrec] at hc
    have hc0 := hc.1
    rw [add_zero] at hc0
    exact ⟨_, hc0, hE1⟩
  rintro b w2 hE2
  unfold weirlaw1_upTo_J420
  have hnext : ∀ w', Ext w w' → (fun s' w' => (Ext w w' ∧ ∃ i : Nat, s' = (i : Int) ∧ i ≤ n) ∧ ((n : Int) - s').toNat < ((n : Int) - (i : Int)).toNat) (IntKind.i64.wrap ((i : Int) + 1)) w' := fun w' hE' => by
    rw [hwr]; exact ⟨⟨hE', i + 1, rfl, by omega⟩, by omega⟩
  refine Br.intro (fun _ => ?_) (fun _ => hnext w2 hE2)
  have h2 := h.ext hE2
  refine IdxVC.rec h2.recs (by omega) hlt (by simpa using hlen) fun a hc => ?_
  rw [hrec] at hc
  obtain ⟨bs, ws, vs, hop, hs⟩ := h2.ok l[i] (List.getElem_mem hil)
  refine ⟨_, _, _, _, _, _, _, _, _, _, _, _, hc, ?_⟩
  refine (plays_spec hop hs).mono ?_
  rintro _ w3 ⟨hE3, rfl⟩
  exact ⟨_, rfl, Br.f rfl (hnext w3 (hE2.ext hE3))⟩

section
variable {w : World} {A : Option Addr} {n c : Nat} {l : List OpV}
theorem looks_law (h : ScriptIs w A n l) (hn : n ≤ 1048576) : Calls Try.prog 9 #[.slice A n c] w fun e w' => e = .returned (.bool true) ∧ Ext w w' := by
  refine weirlaw1_ViewLooks_of A n c w _ ?_
  unfold weirlaw1_ViewLooks_VC
  refine (started_spec w).mono ?_
  rintro _ w1 ⟨hE1, rfl⟩
  refine ⟨_, rfl, Br.t rfl ?_⟩
  refine (upTo_spec (h.ext hE1) hn).mono ?_
  rintro _ w2 ⟨hE2, rfl⟩
  refine ⟨_, rfl, Br.t rfl ?_⟩
  refine (upTo_spec ((h.ext hE1).ext hE2) hn).mono ?_
  rintro _ w3 ⟨hE3, rfl⟩
  exact ⟨_, rfl, rfl, (hE1.ext hE2).ext hE3⟩
theorem fields_law (h : ScriptIs w A n l) (hn : n ≤ 1048576) : Calls Try.prog 10 #[.slice A n c] w fun e w' => e = .returned (.bool true) ∧ Ext w w' := by
  refine weirlaw1_ViewFields_of A n c w _ ?_
  unfold weirlaw1_ViewFields_VC
  refine (started_spec w).mono ?_
  rintro _ w1 ⟨hE1, rfl⟩
  refine ⟨_, rfl, Br.t rfl ?_⟩
  refine (upTo_spec (h.ext hE1) hn).mono ?_
  rintro _ w2 ⟨hE2, rfl⟩
  exact ⟨_, rfl, rfl, hE1.ext hE2⟩
theorem plays_law (h : ScriptIs w A n l) (hn : n ≤ 1048576) : Calls Try.prog 11 #[.slice A n c] w fun e w' => e = .returned (.bool true) ∧ Ext w w' := by
  refine weirlaw1_ViewPlays_of A n c w _ ?_
  unfold weirlaw1_ViewPlays_VC
  refine (started_spec w).mono ?_
  rintro _ w1 ⟨hE1, rfl⟩
  refine ⟨_, rfl, Br.t rfl ?_⟩
  refine (upTo_spec (h.ext hE1) hn).mono ?_
  rintro _ w2 ⟨hE2, rfl⟩
  exact ⟨_, rfl, rfl, hE1.ext hE2⟩
end
end Go.Proofs.Ytdchpilghgnnoaa
