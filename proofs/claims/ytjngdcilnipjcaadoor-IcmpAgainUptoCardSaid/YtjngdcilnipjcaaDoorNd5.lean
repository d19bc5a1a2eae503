/- Neighbour discovery: ParseND (the document's). -/
import Derived.Test.YtjngdcilnipjcaaDoorNd4
namespace Go.Eng
open Go Go.RowKit
def ipTake (l : List Int) (i : Nat) : IPV := ⟨6, if 0 < i then l.getD 0 0 else 0, if 1 < i then l.getD 1 0 else 0, if 2 < i then l.getD 2 0 else 0, if 3 < i then l.getD 3 0 else 0, if 4 < i then l.getD 4 0 else 0, if 5 < i then l.getD 5 0 else 0, if 6 < i then l.getD 6 0 else 0, if 7 < i then l.getD 7 0 else 0, if 8 < i then l.getD 8 0 else 0, if 9 < i then l.getD 9 0 else 0, if 10 < i then l.getD 10 0 else 0, if 11 < i then l.getD 11 0 else 0, if 12 < i then l.getD 12 0 else 0, if 13 < i then l.getD 13 0 else 0, if 14 < i then l.getD 14 0 else 0, if 15 < i then l.getD 15 0 else 0⟩
def macTake (n : NDV) (b : List Int) (i : Nat) : NDV := { n with h := true, m0 := if 0 < i then b.getD 2 0 else n.m0, m1 := if 1 < i then b.getD 3 0 else n.m1, m2 := if 2 < i then b.getD 4 0 else n.m2, m3 := if 3 < i then b.getD 5 0 else n.m3, m4 := if 4 < i then b.getD 6 0 else n.m4, m5 := if 5 < i then b.getD 7 0 else n.m5 }
theorem flag_div {r k : Int} (h0 : 0 ≤ r) (h1 : r < 9223372036854775808) (hk : 0 < k) : decide (Int.tmod (IntKind.i64.wrap (Int.tdiv r k)) 2 = 1) = flagS r k := by
  have hq : 0 ≤ r / k := Int.ediv_nonneg h0 (by omega)
  have hq2 : r / k ≤ r := Int.ediv_le_self k h0
  rw [Int.tdiv_eq_ediv_of_nonneg h0, w64 (by omega) (by omega), Int.tmod_eq_emod_of_nonneg hq]
  rfl
end Go.Eng
namespace Go.Proofs.YtjngdcilnipjcaaDoor
namespace Nd
open Go.Eng Go.RowKit
section
variable {w w0 : World} {m : MsgV} {data : List Int} {g1 g2 g3 g4 : Nat}
/-- The options are read. -/
theorem refParse_loop {cs2 : List Value} {res : NDV × Int} {A : Option Addr} {n c : Nat} {bs : List Int} (hE : Ext w0 w) (h2g : w0.heap.size ≤ g2) (h4g : w0.heap.size ≤ g4) (h24 : g2 ≠ g4) (h34 : g3 ≠ g4) (hb2 : Blk w g2 35 cs2) (hc2 : cs2.length = 28)
    (hb3 : Blk w g3 35 zeroND.cells) {N : NDV} (hb4 : Blk w g4 35 N.cells) (hd : Cells w A (bs.map (.int .u8))) (hl : bs.length = n) (hB : Bts bs) (hnc : n ≤ c) (hn : n ≤ 1048576) (hA : ∀ a, A = some a → 0 < n → a.block ≠ g4)
    {f : Nat} (hf : n ≤ f) (hres : optS f N bs = res) :
    LoopVC (S := (Option Addr × Nat × Nat)) (fun s_ w211 K16380 => weirref8_ParseND_L16380 (fun e w' => Ext w0 w' ∧ e = .returned (.tuple #[res.1.val, .int .i64 res.2])) g2 g3 g4 s_.1 s_.2.1 s_.2.2 w211 K16380) (A, n, c) w := by
  refine LoopVC.of (fun st w' => ∃ (bs : List Int) (f : Nat) (N : NDV), bs.length = st.2.1 ∧ st.2.1 ≤ f ∧ st.2.1 ≤ st.2.2 ∧ st.2.1 ≤ 1048576 ∧ Bts bs ∧ Cells w' st.1 (bs.map (.int .u8)) ∧ (∀ a, st.1 = some a → 0 < st.2.1 → a.block ≠ g4) ∧ Ext w0 w' ∧ Mod (fun k => k = g4) w w' ∧ Blk w' g4 35 N.cells ∧ optS f N bs = res)
    (fun st _ => st.2.1) ⟨bs, f, N, hl, hf, hnc, hn, hB, hd, hA, hE, Mod.refl _ _, hb4, hres⟩ ?_
  rintro ⟨A, n, c⟩ w1 ⟨bs, f, N, hl, hf, hnc, hn, hB, hd, hA, hE, hm, hb4, hres⟩
  simp only at hl hf hnc hn hd hA
  show weirref8_ParseND_L16380 _ g2 g3 g4 A n c w1 _
  unfold weirref8_ParseND_L16380
  have hb2 := hb2.mod hm h24
  have hb3 := hb3.mod hm h34
  refine Br.dec (fun hpos => ?pos) fun hend => ?fin
  case fin =>
    have hn0 : n = 0 := by omega
    subst hn0
    rw [List.eq_nil_of_length_eq_zero hl, optS_nil] at hres
    refine ⟨_, _, _, _, _, _, _, _, _, _, _, _, _, _, _, _, _, _, _, _, _, _, _, _, _, _, _, _, CellsAt.blk hb4, ?_⟩
    refine setAll N.cells 0 w1 _ _ hb2 (by simp [hc2, NDV.cells]) fun w3 hz3 hm3 hb => ?_
    refine ⟨_, _, _, _, _, _, _, _, _, _, _, _, _, _, _, _, _, _, _, _, _, _, _, _, _, _, _, _, CellsAt.blk hb, hE.set hm3 h2g, ?_⟩
    rw [← hres]; rfl
  obtain ⟨f, rfl⟩ : ∃ f', f = f' + 1 := ⟨f - 1, by omega⟩
  unfold optS at hres
  rw [hl, if_neg (by omega)] at hres
  have rd : ∀ {w' : World} {i : Nat} {F : Addr → Prop}, Cells w' A (bs.map (.int .u8)) → i < n → (∀ a, w'.cell? a = some (.int .u8 (bs.getD i 0)) → F a) → IdxVC A n 1 (i : Int) F := fun {w' i F} h hi hF => by
    refine IdxVC.int h (by omega) (by omega) hl fun a ha => hF a ?_
    rw [Int.toNat_natCast] at ha
    exact ha
  refine Br.dec (fun h1 => ⟨_, _, _, _, _, _, _, _, _, _, _, _, _, _, _, _, _, _, _, _, _, _, _, _, _, _, _, _, CellsAt.blk hb3, parse_fail hE h2g hb2 hc2 (by rw [if_pos (.inl (by omega))] at hres; exact hres.symm)⟩) fun h1 => ?_
  have h1n : 1 < n := by omega
  have hx0 := bts_getD hB 0
  have hx1 := bts_getD hB 1
  refine rd (i := 1) hd h1n fun a2 ha2 => ⟨_, ha2, Br.dec (fun hz => ⟨_, _, _, _, _, _, _, _, _, _, _, _, _, _, _, _, _, _, _, _, _, _, _, _, _, _, _, _, CellsAt.blk hb3, parse_fail hE h2g hb2 hc2 (by rw [if_pos (.inr (.inl hz))] at hres; exact hres.symm)⟩) fun hz => ?_⟩
  refine rd (i := 1) hd h1n fun a3 ha3 => ⟨_, ha3, ?_⟩
  have e8 : IntKind.i64.wrap (IntKind.i64.wrap (bs.getD 1 0) * 8) = 8 * bs.getD 1 0 := by
    rw [w64 (n := bs.getD 1 0) (by omega) (by omega), w64 (by omega) (by omega)]; omega
  rw [e8]
  refine Br.dec (fun h8 => ⟨_, _, _, _, _, _, _, _, _, _, _, _, _, _, _, _, _, _, _, _, _, _, _, _, _, _, _, _, CellsAt.blk hb3, parse_fail hE h2g hb2 hc2 (by rw [if_pos (.inr (.inr h8))] at hres; exact hres.symm)⟩) fun h8 => ?_
  rw [if_neg (by omega)] at hres
  obtain ⟨u, hu⟩ := Int.eq_ofNat_of_zero_le hx1.1
  /- one step on -/
  have step : ∀ {w' : World} {N' : NDV}, Cells w' A (bs.map (.int .u8)) → Ext w0 w' → Mod (fun k => k = g4) w w' → Blk w' g4 35 N'.cells → optS f N' (bs.drop (8 * bs.getD 1 0).toNat) = res →
      IdxVC A n 1 1 fun a8 => ∃ x160 : Int, w'.cell? a8 = some (.int .u8 x160) ∧ SliceVC A n c 1 (some (IntKind.i64.wrap (IntKind.i64.wrap x160 * 8))) none none fun sA sn sc =>
        (∃ (bs : List Int) (f : Nat) (N : NDV), bs.length = sn ∧ sn ≤ f ∧ sn ≤ sc ∧ sn ≤ 1048576 ∧ Bts bs ∧ Cells w' sA (bs.map (.int .u8)) ∧ (∀ a, sA = some a → 0 < sn → a.block ≠ g4) ∧ Ext w0 w' ∧ Mod (fun k => k = g4) w w' ∧ Blk w' g4 35 N.cells ∧ optS f N bs = res) ∧ sn < n := by
    intro w' N' hd' hE' hm' hb' hr'
    refine rd (i := 1) hd' h1n fun a8 ha8 => ⟨_, ha8, ?_⟩
    rw [e8]
    refine ⟨by omega, by omega, ?_⟩
    have hT : (8 * bs.getD 1 0).toNat = 8 * u := by omega
    rw [hT] at hr' ⊢
    refine ⟨⟨bs.drop (8 * u), f, N', by rw [List.length_drop]; omega, by omega, by omega, by omega, hB.drop _, ?_, ?_, hE', hm', hb', hr'⟩, by omega⟩
    · rw [List.map_drop]
      exact Cells.drop hd' (8 * u) (by simp; omega) 1 (.inl rfl)
    · intro a ha h0
      split at ha
      · exact hA a ha (by omega)
      · cases A with
        | none => cases ha
        | some b => simp at ha; subst ha; have := hA b rfl (by omega); unfold Addr.add; split <;> exact this
  refine DrawVC.of (fun w' => Ext w1 w') fun w2 hE2 hz2 => ⟨hE2, ?_⟩
  refine IdxVC.draw (S := fun w' => Ext w1 w') hE2 (xs := bs) (k := .u8) (fun w' h => hd.ext h) (by decide) (by omega) hl fun a4 ha4 => ⟨_, ha4, _, fun w' h => (hb4.ext h).cell 0, ?_⟩
  have e0 : IntKind.i64.wrap (bs.getD ((0 : Int).toNat) 0) = bs.getD 0 0 := w64 (by show _ ≤ bs.getD 0 0; omega) (by show bs.getD 0 0 ≤ _; omega)
  rw [e0]
  have hd2 := hd.ext hE2
  have hb42 := hb4.ext hE2
  have hb32 := hb3.ext hE2
  have hb22 := hb2.ext hE2
  have hE := hE.ext hE2
  have hm := hm.ext hE2
  refine Br.dec (fun heq => ?pos2) fun hne => ?fin2
  case fin2 =>
    rw [if_neg hne] at hres
    exact step hd2 hE hm hb42 hres
  rw [if_pos heq] at hres
  refine rd (i := 1) hd2 h1n fun a5 ha5 => ⟨_, ha5, Br.dec (fun h1 => ⟨_, _, _, _, _, _, _, _, _, _, _, _, _, _, _, _, _, _, _, _, _, _, _, _, _, _, _, _, CellsAt.blk hb32, parse_fail hE h2g hb22 hc2 (by rw [if_pos h1] at hres; exact hres.symm)⟩) fun h1' => ?_⟩
  rw [if_neg h1'] at hres
  have hu1 : u = 1 := by omega
  subst hu1
  have h88 : (8 * bs.getD 1 0).toNat = 8 := by omega
  refine ⟨_, hb42.cell 21, ?_⟩
  cases hh : N.h with
  | true =>
    rw [hh, if_pos rfl] at hres
    exact Br.f rfl (step hd2 hE hm hb42 (by rw [h88]; exact hres))
  | false =>
    rw [hh, if_neg (by decide)] at hres
    refine Br.t rfl (SetVC.blk (g := g4) (i := 21) hb42 (by simp [NDV.cells]) fun w3 hz3 hm3 hb43 => ?_)
    have hno : ∀ {wa wb : World}, Cells wa A (bs.map (.int .u8)) → Mod (fun k => k = g4) wa wb → Cells wb A (bs.map (.int .u8)) := fun h hm => h.mod hm fun a ha _ e => hA a ha (by omega) e
    refine LoopVC.of (fun st w' => ∃ i : Nat, st = (i : Int) ∧ i ≤ 6 ∧ Ext w0 w' ∧ Mod (fun k => k = g4) w w' ∧ Cells w' A (bs.map (.int .u8)) ∧ Blk w' g4 35 (macTake N bs i).cells) (fun st _ => ((6 : Int) - st).toNat) ⟨0, rfl, by decide, hE.set hm3 h4g, hm.trans hm3, hno hd2 hm3, hb43⟩ ?_
    rintro _ w4 ⟨i, rfl, hi, hE4, hm4, hd4, hb44⟩
    show weirref8_ParseND_L134187702 g4 A n c _ (i : Int) w4 _
    unfold weirref8_ParseND_L134187702
    refine Br.dec (fun hlt => ?_) fun hge => ?_
    · have hlt : i < 6 := by omega
      have e2 : IntKind.i64.wrap (2 + (i : Int)) = ((2 + i : Nat) : Int) := by rw [w64 (by omega) (by omega)]; omega
      rw [e2]
      refine rd (i := 2 + i) hd4 (by omega) fun a6 ha6 => ⟨_, ha6, ?_⟩
      refine ⟨_, rfl, by omega, by omega, ?_⟩
      rw [addr_add, Nat.mul_one, Int.toNat_natCast]
      refine SetVC.blk hb44 (by simp [NDV.cells]; omega) fun w5 hz5 hm5 hb45 => ?_
      have hb : Blk w5 g4 35 (macTake N bs (i + 1)).cells := by
        match i, hlt with
        | 0, _ => exact hb45
        | 1, _ => exact hb45
        | 2, _ => exact hb45
        | 3, _ => exact hb45
        | 4, _ => exact hb45
        | 5, _ => exact hb45
      have e3 : IntKind.i64.wrap ((i : Int) + 1) = ((i + 1 : Nat) : Int) := by rw [w64 (by omega) (by omega)]; omega
      rw [e3]
      exact ⟨⟨i + 1, rfl, by omega, hE4.set hm5 h4g, hm4.trans hm5, hno hd4 hm5, hb⟩, by omega⟩
    · have : i = 6 := by omega
      subst this
      exact step (N' := withMac N bs) hd4 hE4 hm4 hb44 (by rw [h88]; exact hres)
set_option maxHeartbeats 1000000 in
theorem refParseND_spec (hd : Cells w m.A (data.map (.int .u8))) (hl : data.length = m.n) (hB : Bts data) (_ : m.n ≤ m.k) (hn : m.n ≤ 1048576) :
    Calls Tryd.prog 17 #[m.val] w fun e w' => Ext w w' ∧ e = .returned (.tuple #[(parseND m data).1.val, .int .i64 (parseND m data).2]) := by
  refine weirref8_ParseND_of m.v m.t m.c m.r m.A m.n m.k w _ ?_
  unfold weirref8_ParseND_VC
  refine NewVC.blk fun g1 w1 hg1 hz1 hE1 hb1 => NewVC.blk fun g2 w2 hg2 hz2 hE2 hb2 => NewVC.blk fun g3 w3 hg3 hz3 hE3 hb3 => ?_
  have hb1 : Blk w3 g1 24 m.cells := (hb1.ext hE2).ext hE3
  have hb2 := hb2.ext hE3
  have hb3 : Blk w3 g3 35 zeroND.cells := hb3
  have hE := (hE1.ext hE2).ext hE3
  refine ⟨_, _, _, _, _, _, _, CellsAt.blk hb1, ?_⟩
  refine (refCheck8_spec m).mono ?_
  rintro _ w4 ⟨hE4, rfl⟩
  have s34 := hE4.size
  have hE := hE.ext hE4
  have hb1 := hb1.ext hE4
  have hb2 := hb2.ext hE4
  have hb3 := hb3.ext hE4
  refine ⟨_, rfl, Br.dec (fun hc => ⟨_, _, _, _, _, _, _, _, _, _, _, _, _, _, _, _, _, _, _, _, _, _, _, _, _, _, _, _, CellsAt.blk hb3, parse_fail hE (by omega) hb2 rfl (by unfold parseND; rw [if_pos hc])⟩) fun hc => ?_⟩
  have hck : checkS m = 0 := by omega
  have hok := checkS_ok hck
  refine JoinVC.of (fun _ w' => w4 = w' ∧ ¬ (m.v ≠ 6 ∨ (m.t ≠ 135 ∧ m.t ≠ 136) ∨ m.c ≠ 0)) ?_ ?_
  · have bad : (m.v ≠ 6 ∨ (m.t ≠ 135 ∧ m.t ≠ 136) ∨ m.c ≠ 0) → parseND m data = (zeroND, 83) := fun h => by unfold parseND; rw [if_neg (by omega), if_pos h]
    refine ⟨_, hb1.cell 0, Br.dec (fun h => ⟨_, _, _, _, _, _, _, _, _, _, _, _, _, _, _, _, _, _, _, _, _, _, _, _, _, _, _, _, CellsAt.blk hb3, parse_fail hE (by omega) hb2 rfl (bad (.inl h))⟩) fun h => ⟨_, hb1.cell 2, Br.dec (fun h3 => ⟨_, _, _, _, _, _, _, _, _, _, _, _, _, _, _, _, _, _, _, _, _, _, _, _, _, _, _, _, CellsAt.blk hb3, parse_fail hE (by omega) hb2 rfl (bad (.inr (.inr h3)))⟩) fun h3 => ⟨_, hb1.cell 1, Br.dec (fun h1 => ⟨_, hb1.cell 1, Br.dec (fun h2 => ⟨_, _, _, _, _, _, _, _, _, _, _, _, _, _, _, _, _, _, _, _, _, _, _, _, _, _, _, _, CellsAt.blk hb3, parse_fail hE (by omega) hb2 rfl (bad (.inr (.inl ⟨h1, h2⟩)))⟩) fun h2 => ⟨rfl, by omega⟩⟩) fun h1 => ⟨rfl, by omega⟩⟩⟩⟩
  rintro _ _ ⟨rfl, hkind⟩
  unfold weirref8_ParseND_J31
  refine ⟨_, _, _, hb1.cell 4, Br.dec (fun h => ⟨_, _, _, _, _, _, _, _, _, _, _, _, _, _, _, _, _, _, _, _, _, _, _, _, _, _, _, _, CellsAt.blk hb3, parse_fail hE (by omega) hb2 rfl (by unfold parseND; rw [if_neg (by omega), if_neg hkind, if_pos (by omega)])⟩) fun h16 => ⟨_, hb1.cell 1, ?_⟩⟩
  have ek : IntKind.i64.wrap (m.t - 134) = m.t - 134 := w64 (by omega) (by omega)
  rw [ek]
  have s4 := hE.size
  refine NewVC.blk fun g4 w5 hg4 hz5 hE5 hb4 => ?_
  refine setAll (NDV.cells ⟨m.t - 134, ipTake data 0, false, false, false, false, 0, 0, 0, 0, 0, 0⟩) 0 w5 _ _ hb4 rfl fun w6 hz6 hm6 hb4 => ?_
  have hb4 : Blk w6 g4 35 (NDV.cells ⟨m.t - 134, ipTake data 0, false, false, false, false, 0, 0, 0, 0, 0, 0⟩) := hb4
  have hE46 : Ext w4 w6 := hE5.set hm6 (by omega)
  have hE := hE.ext hE46
  have hb1 := hb1.ext hE46
  have hb2 := hb2.ext hE46
  have hb3 := hb3.ext hE46
  have l1 := hb1.lt
  have n14 : g1 ≠ g4 := by omega
  have n24 : g2 ≠ g4 := by omega
  have n34 : g3 ≠ g4 := by omega
  have hd6 := hd.ext hE
  have hblk : ∀ a, m.A = some a → a.block < w.heap.size := fun a ha => hd.lt (by simp; omega) ha
  refine LoopVC.of (fun st w' => ∃ i : Nat, st = (i : Int) ∧ i ≤ 16 ∧ Mod (fun k => k = g4) w6 w' ∧ Blk w' g4 35 (NDV.cells ⟨m.t - 134, ipTake data i, false, false, false, false, 0, 0, 0, 0, 0, 0⟩)) (fun st _ => ((16 : Int) - st).toNat) ⟨0, rfl, by decide, Mod.refl _ _, hb4⟩ ?_
  rintro _ w7 ⟨i, rfl, hi, hm7, hb4⟩
  show weirref8_ParseND_L2042 _ g1 g2 g3 g4 (i : Int) w7 _
  unfold weirref8_ParseND_L2042
  have hb1 := hb1.mod hm7 n14
  have hb2 := hb2.mod hm7 n24
  have hb3 := hb3.mod hm7 n34
  have hE := hE.set hm7 (by omega)
  have hd7 : Cells w7 m.A (data.map (.int .u8)) := hd.ext hE
  refine Br.dec (fun hlt => ?_) fun hge => ?_
  · have hlt : i < 16 := by omega
    refine ⟨_, _, _, hb1.cell 4, IdxVC.int hd7 (by omega) (by omega) hl fun a ha => ⟨_, ha, ?_⟩⟩
    refine ⟨_, rfl, by omega, by omega, ?_⟩
    rw [addr_add, Nat.mul_one, Int.toNat_natCast]
    refine SetVC.blk hb4 (by simp [NDV.cells]; omega) fun w8 hz8 hm8 hb8 => ?_
    have hb : Blk w8 g4 35 (NDV.cells ⟨m.t - 134, ipTake data (i + 1), false, false, false, false, 0, 0, 0, 0, 0, 0⟩) := by
      match i, hlt with
      | 0, _ => exact hb8
      | 1, _ => exact hb8
      | 2, _ => exact hb8
      | 3, _ => exact hb8
      | 4, _ => exact hb8
      | 5, _ => exact hb8
      | 6, _ => exact hb8
      | 7, _ => exact hb8
      | 8, _ => exact hb8
      | 9, _ => exact hb8
      | 10, _ => exact hb8
      | 11, _ => exact hb8
      | 12, _ => exact hb8
      | 13, _ => exact hb8
      | 14, _ => exact hb8
      | 15, _ => exact hb8
    have e3 : IntKind.i64.wrap ((i : Int) + 1) = ((i + 1 : Nat) : Int) := by rw [w64 (by omega) (by omega)]; omega
    rw [e3]
    exact ⟨⟨i + 1, rfl, by omega, hm7.trans hm8, hb⟩, by omega⟩
  have : i = 16 := by omega
  subst this
  have hb4 : Blk w7 g4 35 (NDV.cells ⟨m.t - 134, ipOf data, false, false, false, false, 0, 0, 0, 0, 0, 0⟩) := hb4
  refine ⟨_, _, _, _, _, _, _, _, _, _, _, _, _, _, _, _, _, CellsAt.part hb4 1 (ds := (ipOf data).cells) (es := [.bool false, .bool false, .bool false, .bool false, .int .u8 0, .int .u8 0, .int .u8 0, .int .u8 0, .int .u8 0, .int .u8 0]) rfl, ?_⟩
  refine (target_spec (ip := ipOf data) (ipOf_bts hB)).mono ?_
  rintro _ w8 ⟨hE8, rfl⟩
  have hE := hE.ext hE8
  have hb1 := hb1.ext hE8
  have hb2 := hb2.ext hE8
  have hb3 := hb3.ext hE8
  have hb4 := hb4.ext hE8
  refine ⟨_, rfl, ?_⟩
  have hp : parseND m data = if targetS (ipOf data) then optS data.length (headND m data) (data.drop 16) else (zeroND, 86) := by
    unfold parseND; rw [if_neg (by omega), if_neg hkind, if_neg (by omega)]
  cases ht : targetS (ipOf data) with
  | false => exact Br.t rfl ⟨_, _, _, _, _, _, _, _, _, _, _, _, _, _, _, _, _, _, _, _, _, _, _, _, _, _, _, _, CellsAt.blk hb3, parse_fail hE (by omega) hb2 rfl (by rw [hp, ht]; rfl)⟩
  | true =>
  rw [ht, if_pos rfl] at hp
  refine Br.f rfl (JoinVC.of (fun _ w' => Mod (fun k => k = g4) w8 w' ∧ Blk w' g4 35 (headND m data).cells) ?_ ?_)
  · refine ⟨_, hb4.cell 0, Br.dec (fun h2 => ?_) fun h2 => ⟨Mod.refl _ _, ?_⟩⟩
    · have h2 : m.t - 134 = 2 := h2
      have h136 : m.t = 136 := by omega
      have hh : headND m data = ⟨m.t - 134, ipOf data, flagS m.r 2147483648, flagS m.r 1073741824, flagS m.r 536870912, false, 0, 0, 0, 0, 0, 0⟩ := by
        unfold headND; rw [decide_eq_true h136]; simp
      refine ⟨_, hb1.cell 3, SetVC.blk (g := g4) (i := 18) hb4 (by simp [NDV.cells]) fun w9 hz9 hm9 hb9 => ?_⟩
      refine ⟨_, (hb1.mod hm9 n14).cell 3, SetVC.blk (g := g4) (i := 19) hb9 (by simp [NDV.cells]) fun w10 hz10 hm10 hb10 => ?_⟩
      refine ⟨_, ((hb1.mod hm9 n14).mod hm10 n14).cell 3, SetVC.blk (g := g4) (i := 20) hb10 (by simp [NDV.cells]) fun w11 hz11 hm11 hb11 => ?_⟩
      refine ⟨(hm9.trans hm10).trans hm11, ?_⟩
      rw [hh, ← flag_div (r := m.r) (k := 2147483648) (by omega) (by omega) (by decide), ← flag_div (r := m.r) (k := 1073741824) (by omega) (by omega) (by decide), ← flag_div (r := m.r) (k := 536870912) (by omega) (by omega) (by decide)]
      exact hb11
    · have h2 : ¬ m.t - 134 = 2 := h2
      have h135 : ¬ m.t = 136 := by omega
      have hh : headND m data = ⟨m.t - 134, ipOf data, false, false, false, false, 0, 0, 0, 0, 0, 0⟩ := by
        unfold headND; rw [decide_eq_false h135]; simp
      rw [hh]
      exact hb4
  rintro _ w9 ⟨hm9, hb4⟩
  have hE9 := hE.set hm9 (by omega)
  have hb1 := hb1.mod hm9 n14
  have hb2 := hb2.mod hm9 n24
  have hb3 := hb3.mod hm9 n34
  unfold weirref8_ParseND_J1023
  refine ⟨_, _, _, hb1.cell 4, _, _, _, hb1.cell 4, ?_⟩
  refine (part_spec (lo := 16) (hd.ext hE9) hl (by omega) (by omega)).mono ?_
  rintro _ w10 ⟨hE10, W, wc, rfl, hown⟩
  refine ⟨_, _, _, rfl, ?_⟩
  have l4 := hb4.lt
  have hnw : m.n - 16 ≤ wc := by
    obtain ⟨_, _, hv, hle, _⟩ := own_form hown
    injection hv with _ _ h3
    omega
  exact refParse_loop (hE9.ext hE10) (by omega) (by omega) n24 n34 (hb2.ext hE10) rfl (hb3.ext hE10) (hb4.ext hE10) (own_cells hown) (by rw [List.length_drop]; omega) (hB.drop _) hnw (by omega)
    (fun a ha h0 e => by
      obtain ⟨_, _, hv, _, hz, hq⟩ := own_form hown
      injection hv with h1 _ _
      rcases hz with hz | ⟨g, hg, hg1, hg2⟩
      · omega
      · rw [← h1] at hg; rw [ha] at hg; cases hg; simp at e; omega) (by omega) hp.symm
end
end Nd
end Go.Proofs.YtjngdcilnipjcaaDoor
