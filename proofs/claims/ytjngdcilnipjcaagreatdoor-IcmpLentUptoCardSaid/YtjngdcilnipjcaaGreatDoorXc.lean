/- Neighbour discovery: what ParseND (the program's) reads. -/
import Derived.Test.YtjngdcilnipjcaaGreatDoorXb
import Derived.Test.YtjngdcilnipjcaaGreatDoorXa
namespace Go.Eng
open Go Go.RowKit
def zeroND : NDV := ⟨0, zeroIP, false, false, false, false, 0, 0, 0, 0, 0, 0⟩
def withMac (n : NDV) (b : List Int) : NDV := { n with h := true, m0 := b.getD 2 0, m1 := b.getD 3 0, m2 := b.getD 4 0, m3 := b.getD 5 0, m4 := b.getD 6 0, m5 := b.getD 7 0 }
def optS : Nat → NDV → List Int → NDV × Int
 | 0, n, _ => (n, 0)
 | f + 1, n, b =>
  if b.length = 0 then (n, 0)
  else if b.length = 1 ∨ b.getD 1 0 = 0 ∨ (b.length : Int) < 8 * b.getD 1 0 then (zeroND, 85)
  else if b.getD 0 0 = n.kind then (if b.getD 1 0 ≠ 1 then (zeroND, 85) else optS f (if n.h then n else withMac n b) (b.drop 8))
  else optS f n (b.drop (8 * b.getD 1 0).toNat)
def ipOf (l : List Int) : IPV := ⟨6, l.getD 0 0, l.getD 1 0, l.getD 2 0, l.getD 3 0, l.getD 4 0, l.getD 5 0, l.getD 6 0, l.getD 7 0, l.getD 8 0, l.getD 9 0, l.getD 10 0, l.getD 11 0, l.getD 12 0, l.getD 13 0, l.getD 14 0, l.getD 15 0⟩
def flagS (r k : Int) : Bool := decide (r / k % 2 = 1)
def headND (m : MsgV) (data : List Int) : NDV := ⟨m.t - 134, ipOf data, decide (m.t = 136) && flagS m.r 2147483648, decide (m.t = 136) && flagS m.r 1073741824, decide (m.t = 136) && flagS m.r 536870912, false, 0, 0, 0, 0, 0, 0⟩
def parseND (m : MsgV) (data : List Int) : NDV × Int :=
 if checkS m ≠ 0 then (zeroND, checkS m)
 else if m.v ≠ 6 ∨ (m.t ≠ 135 ∧ m.t ≠ 136) ∨ m.c ≠ 0 then (zeroND, 83)
 else if data.length < 16 then (zeroND, 84)
 else if targetS (ipOf data) then optS data.length (headND m data) (data.drop 16) else (zeroND, 86)
theorem optS_nil (f : Nat) (n : NDV) : optS f n [] = (n, 0) := by
 cases f <;> rfl
theorem ipOf_bts {l : List Int} (h : Bts l) : Bts (ipOf l).bytes := by
 intro x hx
 have hg := fun i => bts_getD h i
 simp [ipOf, IPV.bytes] at hx
 rcases hx with rfl | rfl | rfl | rfl | rfl | rfl | rfl | rfl | rfl | rfl | rfl | rfl | rfl | rfl | rfl | rfl
 ·exact (by simpa using hg 0)
 ·exact (by simpa using hg 1)
 ·exact (by simpa using hg 2)
 ·exact (by simpa using hg 3)
 ·exact (by simpa using hg 4)
 ·exact (by simpa using hg 5)
 ·exact (by simpa using hg 6)
 ·exact (by simpa using hg 7)
 ·exact (by simpa using hg 8)
 ·exact (by simpa using hg 9)
 ·exact (by simpa using hg 10)
 ·exact (by simpa using hg 11)
 ·exact (by simpa using hg 12)
 ·exact (by simpa using hg 13)
 ·exact (by simpa using hg 14)
 ·exact (by simpa using hg 15)
theorem and_bit (k : Nat) (hk : k < 63) {r : Int} (h0 : 0 ≤ r) (h1 : r < 9223372036854775808) : (bitv .and .i64 r ((2 ^ k : Nat) : Int) ≠ 0) ↔ r / ((2 ^ k : Nat) : Int) % 2 = 1 := by
 obtain ⟨a, rfl⟩ := Int.eq_ofNat_of_zero_le h0
 have hp : (2 ^ k : Nat) < 2 ^ 63 := Nat.pow_lt_pow_right (by decide) hk
 have ha : a < 2 ^ 63 := by omega
 have e : bitv .and .i64 (a : Int) ((2 ^ k : Nat) : Int) = ((a &&& 2 ^ k : Nat) : Int) := by
  unfold bitv
  simp only
  rw [BitVec.toNat_and]
  simp only [BitVec.toNat_ofInt]
  have e1 : ((a : Int) % ((2 ^ IntKind.i64.bits : Nat) : Int)).toNat = a := by
   show ((a : Int) % (18446744073709551616 : Int)).toNat = a
   omega
  have e2 : (((2 ^ k : Nat) : Int) % ((2 ^ IntKind.i64.bits : Nat) : Int)).toNat = 2 ^ k := by
   show (((2 ^ k : Nat) : Int) % (18446744073709551616 : Int)).toNat = 2 ^ k
   generalize 2 ^ k = q at hp ⊢
   omega
  rw [e1, e2]
  have hle : a &&& 2 ^ k ≤ a := Nat.and_le_left
  rw [w64 (by omega) (by omega)]
 rw [e]
 have hd : (a : Int) / ((2 ^ k : Nat) : Int) % 2 = ((a / 2 ^ k % 2 : Nat) : Int) := by push_cast; rfl
 rw [hd]
 have ht : a.testBit k = decide (a / 2 ^ k % 2 = 1) := Nat.testBit_eq_decide_div_mod_eq
 by_cases h : a / 2 ^ k % 2 = 1
 ·rw [decide_eq_true h] at ht
  have hb : (a &&& 2 ^ k).testBit k = true := by rw [Nat.testBit_and, Nat.testBit_two_pow_self, ht]; rfl
  have hne : a &&& 2 ^ k ≠ 0 := fun e => by rw [e] at hb; simp at hb
  exact ⟨fun _ => by rw [h]; rfl, fun _ => by omega⟩
 ·rw [decide_eq_false h] at ht
  have hz : a &&& 2 ^ k = 0 := by
   apply Nat.eq_of_testBit_eq
   intro i
   rw [Nat.testBit_and, Nat.testBit_two_pow]
   by_cases hi : k = i
   ·subst hi; rw [ht]; simp
   ·simp [hi]
  rw [hz]
  exact ⟨fun h' => absurd rfl h', fun h' => absurd (by exact_mod_cast h') h⟩
theorem and_flag (k : Nat) (hk : k < 63) {r : Int} (h0 : 0 ≤ r) (h1 : r < 9223372036854775808) : decide (bitv .and .i64 r ((2 ^ k : Nat) : Int) ≠ 0) = flagS r ((2 ^ k : Nat) : Int) := by
 unfold flagS
 have := and_bit k hk h0 h1
 by_cases h : r / ((2 ^ k : Nat) : Int) % 2 = 1
 ·rw [decide_eq_true h, decide_eq_true (this.2 h)]
 ·rw [decide_eq_false h, decide_eq_false (fun h' => h (this.1 h'))]
theorem CellsAt.getD {w : World} {A : Option Addr} {a : Addr} {l : List Int} (hc : Cells w A (l.map (.int .u8))) {p : Nat} (ha : A = some a) : ∀ (k i : Nat), p + i + k ≤ l.length → CellsAt w (a.add p) i ((List.range' i k).map fun j => .int .u8 (l.getD (p + j) 0))
 | 0, _, _ => trivial
 | k + 1, i, h => by
  refine ⟨?_, CellsAt.getD hc ha k (i + 1) (by omega)⟩
  obtain ⟨a', ha', hx⟩ := hc.at (i := p + i) (by simp; omega)
  rw [ha] at ha'
  cases ha'
  rw [add_add, hx, List.getElem_map]
  show some _ = some (Value.int .u8 (l.getD (p + i) 0))
  rw [List.getD_eq_getElem?_getD, List.getElem?_eq_getElem (by omega)]
  rfl
def posAt (w : World) (g : Nat) : Int := match w.cell? ⟨g, 1, none⟩ with | some (.int _ p) => p | _ => 0
theorem posAt_blk {w : World} {g t : Nat} {x : Value} {p : Int} {r : List Value} (h : Blk w g t (x :: .int .i64 p :: r)) : posAt w g = p := by
 unfold posAt
 rw [h.cell 1]; rfl
theorem drop_getD (l : List Int) (p i : Nat) : (l.drop p).getD i 0 = l.getD (p + i) 0 := by
 simp [List.getD_eq_getElem?_getD, List.getElem?_drop]
end Go.Eng
namespace Go.Proofs.YtjngdcilnipjcaaGreatDoor
namespace Nd
open Go.Eng Go.RowKit
section
variable {w w0 : World} {m : MsgV} {data : List Int} {g1 g2 g3 gc : Nat}
theorem parse_fail {cs2 : List Value} {err : Int} {res : NDV × Int} (hE : Ext w0 w) (h2g : w0.heap.size ≤ g2) (hb2 : Blk w g2 41 cs2) (hc2 : cs2.length = 28) (he : res = (zeroND, err)) :
  setsVC g2 0 zeroND.cells w fun w' => ∃ (x0 x1 x2 x3 x4 x5 x6 x7 x8 x9 x10 x11 x12 x13 x14 x15 x16 x17 : Int) (b0 b1 b2 b3 : Bool) (y0 y1 y2 y3 y4 y5 : Int),
   CellsAt w' ⟨g2, 0, none⟩ 0 (NDV.cells ⟨x0, ⟨x1, x2, x3, x4, x5, x6, x7, x8, x9, x10, x11, x12, x13, x14, x15, x16, x17⟩, b0, b1, b2, b3, y0, y1, y2, y3, y4, y5⟩) ∧
   (Ext w0 w' ∧ Ending.returned (.tuple #[(NDV.val ⟨x0, ⟨x1, x2, x3, x4, x5, x6, x7, x8, x9, x10, x11, x12, x13, x14, x15, x16, x17⟩, b0, b1, b2, b3, y0, y1, y2, y3, y4, y5⟩), .int .i64 err]) = .returned (.tuple #[res.1.val, .int .i64 res.2])) := by
 refine setAll _ 0 w _ _ hb2 (by simp [hc2, NDV.cells]) fun w3 hz3 hm3 hb3 => ?_
 refine ⟨_, _, _, _, _, _, _, _, _, _, _, _, _, _, _, _, _, _, _, _, _, _, _, _, _, _, _, _, CellsAt.blk hb3, hE.set hm3 h2g, ?_⟩
 rw [he]; rfl
theorem parse_loop {cs2 : List Value} {res : NDV × Int} (hE : Ext w0 w) (h2g : w0.heap.size ≤ g2) (h3g : w0.heap.size ≤ g3) (hcg : w0.heap.size ≤ gc) (h23 : g2 ≠ g3) (h2c : g2 ≠ gc) (h3c : g3 ≠ gc) (hb2 : Blk w g2 41 cs2) (hc2 : cs2.length = 28)
  {N : NDV} (hb3 : Blk w g3 41 N.cells) (hbc : Blk w gc 129 [.slice m.A m.n m.k, .int .i64 (16 : Nat)]) (hd : Cells w m.A (data.map (.int .u8))) (hl : data.length = m.n) (hB : Bts data) (hnk : m.n ≤ m.k) (hn : m.n ≤ 1048576) (h16 : 16 ≤ m.n)
  (hA : ∀ a, m.A = some a → a.block ≠ g3 ∧ a.block ≠ gc) (hres : optS data.length N (data.drop 16) = res) :
  LoopVC (S := Unit) (fun _ w239 K4092 => icmp_ParseND_L4092 (fun e w' => Ext w0 w' ∧ e = .returned (.tuple #[res.1.val, .int .i64 res.2])) g2 g3 (some ⟨gc, 0, none⟩) w239 K4092) () w := by
 refine LoopVC.of (fun _ w' => ∃ (p f : Nat) (N : NDV), p ≤ m.n ∧ m.n - p ≤ f ∧ Ext w0 w' ∧ Mod (fun k => k = g3 ∨ k = gc) w w' ∧ Blk w' gc 129 [.slice m.A m.n m.k, .int .i64 (p : Int)] ∧ Blk w' g3 41 N.cells ∧ optS f N (data.drop p) = res)
  (fun _ w' => ((m.n : Int) - posAt w' gc).toNat) ⟨16, data.length, N, h16, by omega, hE, Mod.refl _ _, hbc, hb3, hres⟩ ?_
 rintro _ w1 ⟨p, f, N, hp, hf, hE, hm1, hbc, hb3, hres⟩
 show icmp_ParseND_L4092 _ g2 g3 (some ⟨gc, 0, none⟩) w1 _
 unfold icmp_ParseND_L4092
 have hnot : ∀ {w' : World}, Mod (fun k => k = g3 ∨ k = gc) w w' → Cells w' m.A (data.map (.int .u8)) ∧ Blk w' g2 41 cs2 := fun hm =>
  ⟨hd.mod hm fun a ha _ h => by have := hA a ha; rcases h with h | h <;> omega, hb2.mod hm fun h => by rcases h with h | h <;> omega⟩
 have hgl := hbc.lt
 refine (curLeft_spec hbc (by omega) (by omega) (by omega)).mono ?_
 rintro _ w2 ⟨hE2, rfl⟩
 have hm2 := hm1.ext hE2
 refine ⟨_, rfl, Br.dec (fun hpos => ?_) fun hend => ?_⟩
 ·have hbc2 := hbc.ext hE2
  have s1 := hE.size
  have s2 := hE2.size
  have go : ∀ {wa wb : World}, Mod (fun k => k = g3 ∨ k = gc) w wa → Ext w0 wa → Mod (fun k => k = gc) wa wb → Mod (fun k => k = g3 ∨ k = gc) w wb ∧ Ext w0 wb := fun h1 h2 h => ⟨h1.trans (h.mono fun _ _ e => .inr e), h2.set h hcg⟩
  refine (curUint_spec (k := 1) hbc2 (hnot hm2).1 hl hB (by omega) hnk).mono ?_
  rintro _ w3 ⟨hm3, rfl, hbc3⟩
  obtain ⟨hm3', hE3⟩ := go hm2 (hE.ext hE2) hm3
  have hu : ∀ q : Nat, q < m.n → uintS data (q : Int) 1 = (data.getD q 0, 0) := fun q hq => by
   unfold uintS
   rw [if_neg (by omega), if_pos ⟨by omega, by omega⟩]
   have : (data.drop ((q : Int)).toNat).take (1 : Int).toNat = [data.getD q 0] := by
    rw [Int.toNat_natCast, show (1 : Int).toNat = 1 by decide, List.drop_eq_getElem_cons (by omega), List.getD_eq_getElem?_getD, List.getElem?_eq_getElem (by omega)]
    rfl
   rw [this]; simp [beNum]
  have hp' : p < m.n := by omega
  rw [hu p hp'] at hbc3
  have hnx : nextAt ((data.getD p 0, (0 : Int)) : Int × Int).2 (p : Int) 1 = ((p + 1 : Nat) : Int) := by unfold nextAt; rw [if_pos rfl]; omega
  rw [hnx] at hbc3
  rw [hu p hp']
  refine ⟨_, _, rfl, ?_⟩
  refine (curUint_spec (k := 1) hbc3 (hnot hm3').1 hl hB (by omega) hnk).mono ?_
  rintro _ w4 ⟨hm4, rfl, hbc4⟩
  obtain ⟨hm4', hE4⟩ := go hm3' hE3 hm4
  refine ⟨_, _, rfl, ?_⟩
  obtain ⟨f, rfl⟩ : ∃ f', f = f' + 1 := ⟨f - 1, by omega⟩
  have hbl : (data.drop p).length = m.n - p := by rw [List.length_drop, hl]
  have hb0 : (data.drop p).getD 0 0 = data.getD p 0 := drop_getD data p 0
  have hb1 : (data.drop p).getD 1 0 = data.getD (p + 1) 0 := drop_getD data p 1
  unfold optS at hres
  rw [hbl, hb0, hb1, if_neg (by omega)] at hres
  by_cases h1 : p + 1 < m.n
  case neg =>
   rw [if_pos (.inl (by omega))] at hres
   have hu1 : uintS data ((p + 1 : Nat) : Int) 1 = (0, 10) := by
    unfold uintS; rw [if_neg (by omega), if_neg (by omega)]
   rw [hu1]
   exact Br.yes (by decide) (parse_fail hE4 h2g (hnot hm4').2 hc2 hres.symm)
  rw [hu (p + 1) h1] at hbc4
  have hnx : nextAt ((data.getD (p + 1) 0, (0 : Int)) : Int × Int).2 ((p + 1 : Nat) : Int) 1 = ((p + 2 : Nat) : Int) := by unfold nextAt; rw [if_pos rfl]; omega
  rw [hnx] at hbc4
  rw [hu (p + 1) h1]
  refine Br.no (A := False) (p := (0 : Int) ≠ 0) (by decide) ?_
  have hx0 := bts_getD hB p
  have hx1 := bts_getD hB (p + 1)
  show Br (decide (data.getD (p + 1) 0 = 0)) _ _
  refine Br.dec (fun hz => ?_) fun hz => ?_
  ·rw [if_pos (.inr (.inl hz))] at hres
   exact parse_fail hE4 h2g (hnot hm4').2 hc2 hres.symm
  obtain ⟨u, hu1⟩ := Int.eq_ofNat_of_zero_le hx1.1
  have e1 : IntKind.i64.wrap (IntKind.i64.wrap (8 * IntKind.i64.wrap (data.getD (p + 1) 0)) - 2) = 8 * data.getD (p + 1) 0 - 2 := by
   rw [w64 (n := data.getD (p + 1) 0) (by omega) (by omega), w64 (n := 8 * data.getD (p + 1) 0) (by omega) (by omega), w64 (by omega) (by omega)]
  show Calls _ _ #[.pointer _, .int .i64 (IntKind.i64.wrap (IntKind.i64.wrap (8 * IntKind.i64.wrap (data.getD (p + 1) 0)) - 2))] w4 _
  rw [e1]
  refine (curWindow_spec (k := 8 * data.getD (p + 1) 0 - 2) hbc4 (hnot hm4').1 hl (by omega) hnk).mono ?_
  rintro _ w5 ⟨hm5, ⟨A', c', rfl, hc', hA', hcw⟩, hbc5⟩
  obtain ⟨hm5', hE5⟩ := go hm4' hE4 hm5
  refine ⟨_, _, _, _, rfl, ?_⟩
  by_cases h8 : (((m.n - p : Nat) : Int) < 8 * data.getD (p + 1) 0)
  case pos =>
   rw [if_pos (.inr (.inr h8))] at hres
   have hw : winS data ((p + 2 : Nat) : Int) (8 * data.getD (p + 1) 0 - 2) = ([], 10) := by
    unfold winS; rw [if_neg (by omega), if_neg (by omega)]
   rw [hw]
   exact Br.yes (by decide) (parse_fail hE5 h2g (hnot hm5').2 hc2 hres.symm)
  rw [if_neg (by omega)] at hres
  have hw : winS data ((p + 2 : Nat) : Int) (8 * data.getD (p + 1) 0 - 2) = ((data.drop ((p + 2 : Nat) : Int).toNat).take (8 * data.getD (p + 1) 0 - 2).toNat, 0) := by
   unfold winS; rw [if_pos ⟨by omega, by omega, by omega⟩]
  rw [hw] at hbc5 hA' hcw hc' ⊢
  have hnx : nextAt (((data.drop ((p + 2 : Nat) : Int).toNat).take (8 * data.getD (p + 1) 0 - 2).toNat, (0 : Int)) : List Int × Int).2 ((p + 2 : Nat) : Int) (8 * data.getD (p + 1) 0 - 2) = ((p + 8 * u : Nat) : Int) := by
   unfold nextAt; rw [if_pos rfl]; omega
  rw [hnx] at hbc5
  refine Br.no (A := False) (p := (0 : Int) ≠ 0) (by decide) ?_
  have hb35 : Blk w5 g3 41 N.cells := (((hb3.ext hE2).mod hm3 h3c).mod hm4 h3c).mod hm5 h3c
  refine ⟨_, hb35.cell 0, ?_⟩
  have e2 : IntKind.i64.wrap (data.getD p 0) = data.getD p 0 := w64 (by omega) (by omega)
  show Br (decide (IntKind.i64.wrap (data.getD p 0) ≠ N.kind)) _ _
  rw [e2]
  have dec : ∀ {w' : World}, Blk w' gc 129 [.slice m.A m.n m.k, .int .i64 ((p + 8 * u : Nat) : Int)] → ((m.n : Int) - posAt w' gc).toNat < ((m.n : Int) - posAt w1 gc).toNat := fun h => by
   rw [posAt_blk h, posAt_blk hbc]; omega
  refine Br.dec (fun hne => ?_) fun heq => ?_
  ·rw [if_neg (fun h => hne h)] at hres
   refine ⟨⟨p + 8 * u, f, N, by omega, by omega, hE5, hm5', hbc5, hb35, ?_⟩, dec hbc5⟩
   rw [List.drop_drop] at hres
   rw [← hres]
   congr 2
   omega
  have heq : data.getD p 0 = N.kind := by omega
  rw [if_pos heq] at hres
  show Br (decide (data.getD (p + 1) 0 ≠ 1)) _ _
  refine Br.dec (fun hne => ?_) fun heq1 => ?_
  ·rw [if_pos hne] at hres
   exact parse_fail hE5 h2g (hnot hm5').2 hc2 hres.symm
  rw [if_neg heq1] at hres
  have hu1' : u = 1 := by omega
  subst hu1'
  rw [List.drop_drop] at hres
  refine ⟨_, hb35.cell 21, ?_⟩
  cases hh : N.h with
  | true =>
   refine Br.f rfl ⟨⟨p + 8, f, N, by omega, by omega, hE5, hm5', hbc5, hb35, ?_⟩, dec hbc5⟩
   rw [hh, if_pos rfl] at hres
   exact hres
  | false =>
   rw [hh, if_neg (by decide)] at hres
   have hlen6 : ((data.drop ((p + 2 : Nat) : Int).toNat).take (8 * data.getD (p + 1) 0 - 2).toNat).length = 6 := by
    rw [List.length_take, List.length_drop]; omega
   obtain ⟨a, ha, _⟩ := (hnot hm5').1.at (i := 0) (by simp; omega)
   have hAe := hA' (by show 0 < ((data.drop ((p + 2 : Nat) : Int).toNat).take (8 * data.getD (p + 1) 0 - 2).toNat).length; rw [hlen6]; decide)
   rw [ha] at hAe
   refine Br.t rfl (DrawVC.of (fun w' => Cells w' m.A (data.map (.int .u8))) fun w6 hE6 hz6 => ⟨((hnot hm5').1.ext hE6), ?_⟩)
   refine ⟨by rw [hlen6]; decide, _, hAe, ?_⟩
   refine ⟨_, _, _, _, _, _, fun w' h => CellsAt.getD (p := p + 2) h ha 6 0 (by omega), ?_⟩
   have hb36 := hb35.ext hE6
   refine SetVC.blk (g := g3) (i := 21) hb36 (by simp [NDV.cells]) fun w7 hz7 hm7 hb37 => ?_
   have hm57 : Mod (fun k => k = g3 ∨ k = gc) w w7 := (hm5'.ext hE6).trans (hm7.mono fun _ _ e => .inl e)
   refine ⟨(hnot hm57).1, ?_⟩
   refine SetVC.blk (g := g3) (i := 22) hb37 (by simp [NDV.cells]) fun w8 hz8 hm8 hb38 => ?_
   refine SetVC.blk (g := g3) (i := 23) hb38 (by simp [NDV.cells]) fun w9 hz9 hm9 hb39 => ?_
   refine SetVC.blk (g := g3) (i := 24) hb39 (by simp [NDV.cells]) fun w10 hz10 hm10 hb310 => ?_
   refine SetVC.blk (g := g3) (i := 25) hb310 (by simp [NDV.cells]) fun w11 hz11 hm11 hb311 => ?_
   refine SetVC.blk (g := g3) (i := 26) hb311 (by simp [NDV.cells]) fun w12 hz12 hm12 hb312 => ?_
   refine SetVC.blk (g := g3) (i := 27) hb312 (by simp [NDV.cells]) fun w13 hz13 hm13 hb313 => ?_
   have hma := ((((((hm7.trans hm8).trans hm9).trans hm10).trans hm11).trans hm12).trans hm13)
   have hbc13 := (hbc5.ext hE6).mod hma (fun e => h3c e.symm)
   have hwm : Blk w13 g3 41 (withMac N (data.drop p)).cells := by
    have e : ∀ i, (data.drop p).getD i 0 = data.getD (p + i) 0 := drop_getD data p
    unfold withMac
    simp only [e]
    exact hb313
   refine ⟨⟨p + 8, f, withMac N (data.drop p), by omega, by omega, (hE5.ext hE6).set hma h3g, (hm5'.ext hE6).trans (hma.mono fun _ _ e => .inl e), hbc13, hwm, hres⟩, dec hbc13⟩
 ·have : p = m.n := by omega
  subst this
  rw [List.drop_of_length_le (by omega), optS_nil] at hres
  have hb2' := (hnot hm2).2
  have hb3' := hb3.ext hE2
  refine ⟨_, _, _, _, _, _, _, _, _, _, _, _, _, _, _, _, _, _, _, _, _, _, _, _, _, _, _, _, CellsAt.blk hb3', ?_⟩
  refine setAll N.cells 0 w2 _ _ hb2' (by simp [hc2, NDV.cells]) fun w3 hz3 hm3 hb => ?_
  refine ⟨_, _, _, _, _, _, _, _, _, _, _, _, _, _, _, _, _, _, _, _, _, _, _, _, _, _, _, _, CellsAt.blk hb, (hE.ext hE2).set hm3 h2g, ?_⟩
  rw [← hres]; rfl
end
end Nd
end Go.Proofs.YtjngdcilnipjcaaGreatDoor
/- Neighbour discovery: ParseND (the program's). -/
namespace Go.Proofs.YtjngdcilnipjcaaGreatDoor
namespace Nd
open Go.Eng Go.RowKit
section
variable {w : World} {m : MsgV} {data : List Int}
set_option maxHeartbeats 1000000 in
theorem ParseND_spec (hd : Cells w m.A (data.map (.int .u8))) (hl : data.length = m.n) (hB : Bts data) (hnk : m.n ≤ m.k) (hn : m.n ≤ 1048576) (hT : Tab w) :
  Calls Tryz.prog 26 #[m.val] w fun e w' => Ext w w' ∧ e = .returned (.tuple #[(parseND m data).1.val, .int .i64 (parseND m data).2]) := by
 refine icmp_ParseND_of m.v m.t m.c m.r m.A m.n m.k w _ ?_
 unfold icmp_ParseND_VC
 refine NewVC.blk fun g1 w1 hg1 hz1 hE1 hb1 => NewVC.blk fun g2 w2 hg2 hz2 hE2 hb2 => ?_
 have hb1 : Blk w2 g1 27 m.cells := hb1.ext hE2
 have hE := hE1.ext hE2
 refine ⟨_, _, _, _, _, _, _, CellsAt.blk hb1, ?_⟩
 refine (check_spec m (by omega)).mono ?_
 rintro _ w3 ⟨hE3, rfl⟩
 have s23 := hE3.size
 have hE := hE.ext hE3
 have hb1 := hb1.ext hE3
 have hb2 := hb2.ext hE3
 have s3 := hE.size
 refine ⟨_, rfl, Br.dec (fun hc => parse_fail hE (by omega) hb2 rfl (by unfold parseND; rw [if_pos hc])) fun hc => ?_⟩
 have hck : checkS m = 0 := by omega
 have hok := checkS_ok hck
 refine JoinVC.of (fun _ w' => w3 = w' ∧ ¬ (m.v ≠ 6 ∨ (m.t ≠ 135 ∧ m.t ≠ 136) ∨ m.c ≠ 0)) ?_ ?_
 ·have bad : (m.v ≠ 6 ∨ (m.t ≠ 135 ∧ m.t ≠ 136) ∨ m.c ≠ 0) → parseND m data = (zeroND, 83) := fun h => by unfold parseND; rw [if_neg (by omega), if_pos h]
  refine ⟨_, hb1.cell 0, Br.dec (fun h => parse_fail hE (by omega) hb2 rfl (bad (.inl h))) fun h => ⟨_, hb1.cell 1, Br.dec (fun h1 => ⟨_, hb1.cell 1, Br.dec (fun h2 => parse_fail hE (by omega) hb2 rfl (bad (.inr (.inl ⟨h1, h2⟩)))) fun h2 => ⟨_, hb1.cell 2, Br.dec (fun h3 => parse_fail hE (by omega) hb2 rfl (bad (.inr (.inr h3)))) fun h3 => ⟨rfl, by omega⟩⟩⟩) fun h1 => ⟨_, hb1.cell 2, Br.dec (fun h3 => parse_fail hE (by omega) hb2 rfl (bad (.inr (.inr h3)))) fun h3 => ⟨rfl, by omega⟩⟩⟩⟩
 rintro _ _ ⟨rfl, hkind⟩
 unfold icmp_ParseND_J7
 refine ⟨_, _, _, hb1.cell 4, Br.dec (fun h => parse_fail hE (by omega) hb2 rfl (by unfold parseND; rw [if_neg (by omega), if_neg hkind, if_pos (by omega)])) fun h16 => ⟨_, _, _, hb1.cell 4, ?_⟩⟩
 refine ⟨by omega, by omega, ?_⟩
 have hd3 := hd.ext hE
 obtain ⟨a, ha, _⟩ := hd3.at (i := 0) (by simp; omega)
 have hc16 := CellsAt.getD (p := 0) hd3 ha 16 0 (by omega)
 rw [add_zero] at hc16
 refine ⟨by decide, a, ha, _, _, _, _, _, _, _, _, _, _, _, _, _, _, _, _, hc16, ?_⟩
 refine NewVC.blk fun g3 w4 hg3 hz4 hE4 hb3 => ?_
 refine setAll (NDV.cells ⟨1, ipOf data, false, false, false, false, 0, 0, 0, 0, 0, 0⟩) 0 w4 _ _ hb3 rfl fun w5 hz5 hm5 hb3 => ?_
 have hb3 : Blk w5 g3 41 (NDV.cells ⟨1, ipOf data, false, false, false, false, 0, 0, 0, 0, 0, 0⟩) := hb3
 have hE35 : Ext w3 w5 := hE4.set hm5 (by omega)
 have hE := hE.ext hE35
 have hb1 := hb1.ext hE35
 have hb2 := hb2.ext hE35
 have l1 := hb1.lt
 have l2 := hb2.lt
 have l3 := hb3.lt
 refine ⟨_, _, _, _, _, _, _, _, _, _, _, _, _, _, _, _, _, CellsAt.part hb3 1 (ds := (ipOf data).cells) (es := [.bool false, .bool false, .bool false, .bool false, .int .u8 0, .int .u8 0, .int .u8 0, .int .u8 0, .int .u8 0, .int .u8 0]) rfl, ?_⟩
 refine (noTarget_spec (ipOf data) (hT.ext hE)).mono ?_
 rintro _ w6 ⟨hE6, rfl⟩
 have hE := hE.ext hE6
 have hb1 := hb1.ext hE6
 have hb2 := hb2.ext hE6
 have hb3 := hb3.ext hE6
 have s6 := hE6.size
 rw [noTarget_eq rfl (ipOf_bts hB)]
 refine ⟨_, rfl, ?_⟩
 have hp : parseND m data = if targetS (ipOf data) then optS data.length (headND m data) (data.drop 16) else (zeroND, 86) := by
  unfold parseND; rw [if_neg (by omega), if_neg hkind, if_neg (by omega)]
 cases ht : targetS (ipOf data) with
 | false => exact Br.t rfl (parse_fail hE (by omega) hb2 rfl (by rw [hp, ht]; rfl))
 | true =>
 rw [ht, if_pos rfl] at hp
 have n13 : g1 ≠ g3 := by omega
 have n23 : g2 ≠ g3 := by omega
 refine Br.f rfl (JoinVC.of (fun _ w' => Mod (fun k => k = g3) w6 w' ∧ Blk w' g3 41 (headND m data).cells) ?_ ?_)
 ·refine ⟨_, hb1.cell 1, Br.dec (fun h136 => ?_) fun h136 => ⟨Mod.refl _ _, ?_⟩⟩
  ·have hh : headND m data = ⟨2, ipOf data, flagS m.r 2147483648, flagS m.r 1073741824, flagS m.r 536870912, false, 0, 0, 0, 0, 0, 0⟩ := by
    unfold headND; rw [h136]; simp
   refine SetVC.blk (g := g3) (i := 0) hb3 (by simp [NDV.cells]) fun w7 hz7 hm7 hb7 => ?_
   refine DrawVC.of (fun w' => Blk w' g1 27 m.cells) fun w8 hE8 hz8 => ⟨(hb1.mod hm7 n13).ext hE8, ?_⟩
   have hb18 := (hb1.mod hm7 n13).ext hE8
   refine ⟨_, fun w' h => h.cell 3, _, fun w' h => h.cell 3, _, fun w' h => h.cell 3, ?_⟩
   refine SetVC.blk (g := g3) (i := 18) (hb7.ext hE8) (by simp [NDV.cells]) fun w9 hz9 hm9 hb9 => ⟨hb18.mod hm9 n13, ?_⟩
   refine SetVC.blk (g := g3) (i := 19) hb9 (by simp [NDV.cells]) fun w10 hz10 hm10 hb10 => ⟨(hb18.mod hm9 n13).mod hm10 n13, ?_⟩
   refine SetVC.blk (g := g3) (i := 20) hb10 (by simp [NDV.cells]) fun w11 hz11 hm11 hb11 => ?_
   have f1 := and_flag 31 (by decide) (r := m.r) (by omega) (by omega)
   have f2 := and_flag 30 (by decide) (r := m.r) (by omega) (by omega)
   have f3 := and_flag 29 (by decide) (r := m.r) (by omega) (by omega)
   rw [show ((2 ^ 31 : Nat) : Int) = 2147483648 from rfl] at f1
   rw [show ((2 ^ 30 : Nat) : Int) = 1073741824 from rfl] at f2
   rw [show ((2 ^ 29 : Nat) : Int) = 536870912 from rfl] at f3
   refine ⟨((hm7.ext hE8).trans ((hm9.trans hm10).trans hm11)), ?_⟩
   rw [hh, ← f1, ← f2, ← f3]
   exact hb11
  ·have h135 : m.t = 135 := by omega
   have hh : headND m data = ⟨1, ipOf data, false, false, false, false, 0, 0, 0, 0, 0, 0⟩ := by
    unfold headND; rw [h135]; simp
   rw [hh]
   exact hb3
 rintro _ w7 ⟨hm7, hb3⟩
 have hE7 := hE.set hm7 (by omega)
 have hb1 := hb1.mod hm7 n13
 have hb2 := hb2.mod hm7 n23
 have s7 := hm7.size
 unfold icmp_ParseND_J127
 refine ⟨_, _, _, hb1.cell 4, ?_⟩
 refine At_spec.mono ?_
 rintro _ w8 ⟨hE8, rfl, hbc⟩
 have hd8 := hd.ext (hE7.ext hE8)
 have hblk : ∀ a, m.A = some a → a.block < w.heap.size := fun a ha => hd.lt (by simp; omega) ha
 refine ⟨_, rfl, ?_⟩
 refine (curSkip_spec (k := 16) hbc hd8 hl (by omega) hnk).mono ?_
 rintro _ w9 ⟨hm9, rfl, hbc9⟩
 refine ⟨_, rfl, ?_⟩
 have hw16 : (winS data 0 16).2 = 0 := by unfold winS; rw [if_pos ⟨by omega, by omega, by omega⟩]
 rw [hw16] at hbc9
 have hcn : w.heap.size ≤ w7.heap.size := hE7.size
 have l3' := hb3.lt
 have l2' := hb2.lt
 refine parse_loop (m := m) ((hE7.ext hE8).set hm9 hcn) (by omega) (by omega) hcn n23 (by omega) (by omega) ((hb2.ext hE8).mod hm9 (by show ¬ g2 = w7.heap.size; omega)) rfl ((hb3.ext hE8).mod hm9 (by show ¬ g3 = w7.heap.size; omega)) hbc9
  (hd8.mod hm9 fun a ha _ => by have := hblk a ha; show ¬ a.block = w7.heap.size; omega) hl hB hnk hn (by omega) (fun a ha => by have := hblk a ha; omega) hp.symm
end
end Nd
end Go.Proofs.YtjngdcilnipjcaaGreatDoor
/- Neighbour discovery: ParseND (the document's). -/
namespace Go.Eng
open Go Go.RowKit
end Go.Eng
namespace Go.Proofs.YtjngdcilnipjcaaGreatDoor
namespace Nd
open Go.Eng Go.RowKit
section
variable {w w0 : World} {m : MsgV} {data : List Int} {g1 g2 g3 g4 : Nat}
end
end Nd
end Go.Proofs.YtjngdcilnipjcaaGreatDoor
/- Neighbour discovery: IcmpNds, IcmpNdPuts. -/
namespace Go.Eng
open Go Go.RowKit
def eqND (a b : NDV) : Bool := ((decide (a.kind = b.kind)) && (((decide (a.p.v = b.p.v)) && (((decide (a.p.a0 = b.p.a0)) && ((decide (a.p.a1 = b.p.a1)) && ((decide (a.p.a2 = b.p.a2)) && ((decide (a.p.a3 = b.p.a3)) && ((decide (a.p.a4 = b.p.a4)) && ((decide (a.p.a5 = b.p.a5)) && ((decide (a.p.a6 = b.p.a6)) && ((decide (a.p.a7 = b.p.a7)) && ((decide (a.p.a8 = b.p.a8)) && ((decide (a.p.a9 = b.p.a9)) && ((decide (a.p.a10 = b.p.a10)) && ((decide (a.p.a11 = b.p.a11)) && ((decide (a.p.a12 = b.p.a12)) && ((decide (a.p.a13 = b.p.a13)) && ((decide (a.p.a14 = b.p.a14)) && ((decide (a.p.a15 = b.p.a15)) && true)))))))))))))))) && true)) && ((a.r == b.r) && ((a.s == b.s) && ((a.o == b.o) && ((a.h == b.h) && (((decide (a.m0 = b.m0)) && ((decide (a.m1 = b.m1)) && ((decide (a.m2 = b.m2)) && ((decide (a.m3 = b.m3)) && ((decide (a.m4 = b.m4)) && ((decide (a.m5 = b.m5)) && true)))))) && true)))))))
theorem eqND_iff (a b : NDV) : eqND a b = true ↔ a = b := by
 constructor
 ·intro h
  obtain ⟨k, ⟨v, a0, a1, a2, a3, a4, a5, a6, a7, a8, a9, a10, a11, a12, a13, a14, a15⟩, r, s, o, h', m0, m1, m2, m3, m4, m5⟩ := a
  obtain ⟨k', ⟨v', b0, b1, b2, b3, b4, b5, b6, b7, b8, b9, b10, b11, b12, b13, b14, b15⟩, r', s', o', h'', n0, n1, n2, n3, n4, n5⟩ := b
  simp only [eqND, Bool.and_eq_true, decide_eq_true_eq, beq_iff_eq, and_true] at h
  simp only [NDV.mk.injEq, IPV.mk.injEq]
  simp only [h, and_self]
 ·intro h
  subst h
  simp [eqND]
theorem eqND_refl (a : NDV) : eqND a a = true := (eqND_iff a a).2 rfl
def whomV : NDV := ⟨1, ⟨6, 32, 1, 0, 0, 0, 0, 0, 0, 0, 0, 0, 0, 0, 0, 0, 1⟩, false, false, false, true, 2, 0, 0, 0, 0, 1⟩
theorem parse_whom {A : Option Addr} {k : Nat} : parseND (putM whomV A k) (putD whomV) = (whomV, 0) := by rfl
end Go.Eng
namespace Go.Proofs.YtjngdcilnipjcaaGreatDoor
namespace Nd
open Go.Eng Go.RowKit
section
variable {w : World}
theorem whom_spec : Calls Tryz.prog 18 #[] w fun e w' => Ext w w' ∧ e = .returned whomV.val := by
 refine weirlaw8_whom_of w _ ?_
 unfold weirlaw8_whom_VC
 refine NewVC.blk fun g1 w1 hg1 hz1 hE1 hb1 => ?_
 refine setAll whomV.cells 0 w1 _ _ hb1 rfl fun w2 hz2 hm2 hb2 => ?_
 exact ⟨_, _, _, _, _, _, _, _, _, _, _, _, _, _, _, _, _, _, _, _, _, _, _, _, _, _, _, _, CellsAt.blk hb2, hE1.set hm2 (by omega), rfl⟩
theorem neighbours_spec (hT : Tab w) : Calls Tryz.prog 6 #[] w fun e w' => Ext w w' ∧ e = .returned (.bool true) := by
 refine weirlaw8_neighbours_of w _ ?_
 unfold weirlaw8_neighbours_VC
 refine whom_spec.mono ?_
 rintro _ w1 ⟨hE1, rfl⟩
 refine ⟨_, _, _, _, _, _, _, _, _, _, _, _, _, _, _, _, _, _, _, _, _, _, _, _, _, _, _, _, rfl, ?_⟩
 refine (PutND_spec (n := whomV) (by intro x hx; simp [whomV, IPV.bytes] at hx; omega) (by intro x hx; simp [whomV, NDV.mac] at hx; omega) (by decide) (hT.ext hE1)).mono ?_
 rintro _ w2 ⟨hE2, A, k, rfl, hown⟩
 have s2 := (hE1.ext hE2).size
 have hD : (putD whomV).length = 24 := rfl
 rw [hD] at hown
 refine ⟨_, _, _, _, _, _, _, _, rfl, ?_⟩
 refine NewVC.blk fun g1 w3 hg1 hz3 hE3 hb3 => ?_
 refine setAll (putM whomV A k).cells 0 w3 _ _ hb3 rfl fun w8 hz8 hm8 hb8 => ?_
 have hb8 : Blk w8 g1 27 (putM whomV A k).cells := hb8
 have hE8 : Ext w2 w8 := hE3.set hm8 (by omega)
 have hE08 := (hE1.ext hE2).ext hE8
 refine ⟨_, _, _, _, _, _, _, CellsAt.blk hb8, ?_⟩
 have hown8 := own_ext hown hE8
 have hk24 : 24 ≤ k := by
  obtain ⟨_, _, hv, hle, _⟩ := own_form hown
  injection hv with _ _ h3
  omega
 refine (ParseND_spec (m := putM whomV A k) (data := putD whomV) (own_cells hown8) rfl (by intro x hx; simp [putD, putE, badND, targetS, whomV, dataND, IPV.bytes, NDV.mac] at hx; omega) hk24 (show (24 : Nat) ≤ 1048576 by decide) (hT.ext hE08)).mono ?_
 rintro _ w9 ⟨hE9, rfl⟩
 rw [parse_whom]
 have s9 := hE9.size
 refine ⟨_, _, _, _, _, _, _, _, _, _, _, _, _, _, _, _, _, _, _, _, _, _, _, _, _, _, _, _, _, rfl, ?_⟩
 refine NewVC.blk fun g2 w10 hg2 hz10 hE10 hb10 => ?_
 refine setAll whomV.cells 0 w10 _ _ hb10 rfl fun w11 hz11 hm11 hb11 => ?_
 have hb11 : Blk w11 g2 41 whomV.cells := hb11
 have hE911 : Ext w9 w11 := hE10.set hm11 (by omega)
 have hb811 := (hb8.ext hE9).ext hE911
 have hE011 := (hE08.ext hE9).ext hE911
 refine DrawVC.of (fun w' => Ext w11 w') fun w12 hE12 _ => ⟨hE12, ?_⟩
 refine Br.yes (by decide) (Br.yes (by decide) ?_)
 refine ⟨_, _, _, _, _, _, _, _, _, _, _, _, _, _, _, _, _, _, _, _, _, _, _, _, _, _, _, _, fun w' h => CellsAt.blk (hb11.ext h), ?_⟩
 refine whom_spec.mono ?_
 rintro _ w13 ⟨hE13, rfl⟩
 refine ⟨_, _, _, _, _, _, _, _, _, _, _, _, _, _, _, _, _, _, _, _, _, _, _, _, _, _, _, _, rfl, hE12.ext hE13, Br.t (eqND_refl whomV) ?_⟩
 refine ⟨_, _, _, fun w' h => (hb811.ext h).cell 4, Br.yes rfl ⟨_, fun w' h => (hb811.ext h).cell 1, Br.yes rfl ⟨_, fun w' h => (hb811.ext h).cell 0, (hE011.ext hE12).ext hE13, ?_⟩⟩⟩
 rfl
end
end Nd
end Go.Proofs.YtjngdcilnipjcaaGreatDoor
