/- Two cursors beside one another: the law. -/
import Derived.Test.YtdchpilghgnnoaaL5
namespace Go.Proofs.Ytdchpilghgnnoaa
open Go.Eng Go.RowKit

def StepsIs (w : World) (A : Option Addr) (n : Nat) (l : List (Int × Int × Int)) : Prop := Recs w A 3 (l.map fun s => [.int .i64 s.1, .int .i64 s.2.1, .int .i64 s.2.2]) ∧ l.length = n
theorem Twin.grow {w0 w w' : World} {gc gr c d n : Nat} {A B : Option Addr} {xs : List Int} {p : Int} (T : Twin w w0.heap.size gc gr A c B d n xs p) (hc : w0.heap.size ≤ gc) (hr : w0.heap.size ≤ gr) (hE : Ext w0 w) (hm : Mod (Foot gc gr A c B d n) w w') : Ext w0 w' :=
  hE.trans' hm fun k hk e => by
    rcases e with rfl | rfl | e | e
    · omega
    · omega
    · have := own_new T.wide k e.symm; omega
    · have := own_new T.own k e.symm; omega
/-- A copy of bytes in memory of the call's own, behind an empty literal. -/
theorem copy_own {w : World} {A : Option Addr} {n c : Nat} {bs : List Int} {F : Option Addr → Nat → Nat → World → Prop} (hb : Cells w A (bs.map (.int .u8))) (hl : bs.length = n) (hn : n ≤ 1048700)
    (h : ∀ B d w', Ext w w' → w'.ownsRow w.heap.size 5 1 (.slice B n d) n (bs.map (.int .u8)) → (∀ k, some k = (Value.slice B n d).ownBlock → w.heap.size ≤ k ∧ k < w'.heap.size) → F B n d w') :
    NewVC w (.cells #[] 5) fun g2 w9 => AppVC Try.prog #[22, 22] 22 (.slice (some ⟨g2, 0, none⟩) 0 0) (.slice A n c) w9 F := by
  obtain ⟨ti, hti, htz, hts, hty⟩ := tyByte
  refine NewVC.blk fun g2 w9 hg2 hz9 hE9 hb2 => ?_
  have ho : w9.ownsRow w.heap.size 5 1 (.slice (some ⟨g2, 0, none⟩) 0 0) 0 [] := own_of_blk (n := 0) (c := 0) hb2 (by omega) rfl (Nat.le_refl _) (Nat.zero_le _)
  refine AppVC.own Try.underlying22 hti htz hts hty rfl (by decide) ho (hb.ext hE9) (by simpa using hl) (ints_one _ _) (by omega) (by decide) (by omega) fun B d w' hown hm hc => ?_
  rw [Nat.zero_add] at hown ⊢
  rw [List.nil_append] at hown
  refine h B d w' (hE9.trans' hm fun k hk e => ?_) hown fun k hk => hown.lt k hk.symm
  simp [Value.ownBlock] at e; omega

set_option maxHeartbeats 1000000 in
theorem cursors_law {A B S : Option Addr} {n c m d s f : Nat} {xs ys : List Int} {l : List (Int × Int × Int)} {w : World} (hx : Cells w A (xs.map (.int .u8))) (hn : xs.length = n) (bx : Bts xs) (hy : Cells w B (ys.map (.int .u8))) (hm : ys.length = m) (by_ : Bts ys)
    (hs : StepsIs w S s l) (b1 : n ≤ 1048576) (b2 : m ≤ 1048576) (b3 : s ≤ 1048576) :
    Calls Try.prog 3 #[.slice A n c, .slice B m d, .slice S s f] w fun e w' => e = .returned (.bool true) ∧ Ext w w' := by
  refine weirlaw1_ViewCursors_of A n c B m d S s f w _ ?_
  unfold weirlaw1_ViewCursors_VC
  refine (roomy_spec hx hn (by omega)).mono ?_
  rintro _ w1 ⟨hE1, A1, c1, rfl, hc1, hown1⟩
  have hlt1 : ∀ k, some k = (Value.slice A1 (n + 75) c1).ownBlock → w.heap.size ≤ k ∧ k < w1.heap.size := fun k hk => hown1.lt k hk.symm
  refine ⟨_, _, _, rfl, ?_⟩
  refine (roomy_spec (hy.ext hE1) hm (by omega)).mono ?_
  rintro _ w2 ⟨hE2, A2, c2, rfl, hc2, hown2⟩
  have hlt2 : ∀ k, some k = (Value.slice A2 (m + 75) c2).ownBlock → w1.heap.size ≤ k ∧ k < w2.heap.size := fun k hk => hown2.lt k hk.symm
  have hE12 := hE1.ext hE2
  refine ⟨_, _, _, rfl, by omega, by omega, ?_⟩
  rw [Int.toNat_natCast]
  refine (At_spec (w := w2)).mono ?_
  rintro _ w3 ⟨hE3, rfl, hbc⟩
  have s3 := hbc.lt
  have hE13 := hE12.ext hE3
  refine ⟨_, rfl, by omega, by omega, ?_⟩
  rw [Int.toNat_natCast]
  refine (At_spec (w := w3)).mono ?_
  rintro _ w4 ⟨hE4, rfl, hbd⟩
  have s4 := hbd.lt
  have hbc := hbc.ext hE4
  refine ⟨_, rfl, ?_⟩
  refine NewVC.blk fun g1 w5 hg1 hz5 hE5 hb1 => ?_
  refine (At_spec (w := w5)).mono ?_
  rintro _ w6 ⟨hE6, rfl, hbz⟩
  have s6 := hbz.lt
  refine ⟨_, rfl, Br.f rfl (Br.f rfl (Br.f rfl ?_))⟩
  have hz3 : Cells w6 (some ⟨g1, 0, none⟩) (([1, 2, 3] : List Int).map (.int .u8)) := by simpa using Cells.of_blk (hb1.ext hE6) 0
  refine (curUint_spec (k := 2) hbz hz3 rfl (by intro x hx; simp at hx; omega) (by decide) (by decide)).mono ?_
  rintro _ w7 ⟨hm7, rfl, hbz⟩
  have e1 : (uintS [1, 2, 3] 0 2).1 = 258 := by decide
  have e2 : (uintS [1, 2, 3] 0 2).2 = 0 := by decide
  have e3 : nextAt (uintS [1, 2, 3] 0 2).2 0 2 = 2 := by decide
  rw [e3] at hbz
  rw [e1, e2]
  refine ⟨_, _, rfl, Br.no (by decide) ?_⟩
  refine (num_spec 0 w7).mono ?_
  rintro _ w8 ⟨rfl, rfl⟩
  refine ⟨_, rfl, Br.no (by decide) ?_⟩
  have s1 := hE1.size
  have s2 := hE2.size
  have s7 := hm7.size
  have hE46 : Ext w4 w7 := (hE5.ext hE6).trans' hm7 fun k hk e => by omega
  have hE17 : Ext w w7 := (hE13.ext hE4).ext hE46
  refine copy_own (hx.ext hE17) hn (by omega) fun B1 d1 w10 hE10 hownB1 hltB1 => ?_
  refine NewVC.blk fun g3 w11 hg3 hz11 hE11 hb3 => ?_
  have hE711 := hE10.ext hE11
  refine copy_own (hy.ext (hE17.ext hE711)) hm (by omega) fun B2 d2 w13 hE13' hownB2 hltB2 => ?_
  refine NewVC.blk fun g5 w14 hg5 hz14 hE14 hb5 => ?_
  have s10 := hE10.size
  have s13 := hE13'.size
  have hE1114 := hE13'.ext hE14
  have hE714 := hE711.ext hE1114
  have hE0 : Ext w w14 := hE17.ext hE714
  have hE414 := hE46.ext hE714
  have hbz := hbz.ext hE714
  have T1 : Twin w14 w.heap.size w2.heap.size g3 A1 c1 B1 d1 n xs 0 := by
    refine ⟨hbc.ext hE414, hb3.ext hE1114, ?_, ?_, hn, bx, by omega, by omega, b1, hc1, by omega, ?_, ?_⟩
    · exact own_ext hown1 (((hE2.ext hE3).ext hE4).ext hE414)
    · exact own_base (own_ext hownB1 (hE11.ext hE1114)) (by omega)
    · intro k hk
      have h1 := hlt1 k hk
      refine ⟨by omega, by omega, fun e => ?_⟩
      have h2 := hltB1 k e
      omega
    · intro k hk
      have h2 := hltB1 k hk
      omega
  have T2 : Twin w14 w.heap.size w3.heap.size g5 A2 c2 B2 d2 m ys 0 := by
    refine ⟨hbd.ext hE414, hb5, ?_, ?_, hm, by_, by omega, by omega, b2, hc2, by omega, ?_, ?_⟩
    · exact own_base (own_ext hown2 ((hE3.ext hE4).ext hE414)) (by omega)
    · exact own_base (own_ext hownB2 hE14) (by omega)
    · intro k hk
      have h1 := hlt2 k hk
      refine ⟨by omega, by omega, fun e => ?_⟩
      have h2 := hltB2 k e
      omega
    · intro k hk
      have h2 := hltB2 k hk
      omega
  have hdis : ∀ k, Foot w2.heap.size g3 A1 c1 B1 d1 n k → ¬ Foot w3.heap.size g5 A2 c2 B2 d2 m k := by
    rintro k (rfl | rfl | h | h) (h' | h' | h' | h')
    all_goals (try have q1 := hlt1 _ h) <;> (try have q2 := hltB1 _ h) <;> (try have q3 := hlt2 _ h') <;> (try have q4 := hltB2 _ h') <;> omega
  have hz1 : ∀ k, Foot w2.heap.size g3 A1 c1 B1 d1 n k → ¬ k = w5.heap.size := by
    rintro k (rfl | rfl | h | h) h'
    all_goals (try have q1 := hlt1 _ h) <;> (try have q2 := hltB1 _ h) <;> omega
  have hz2 : ∀ k, Foot w3.heap.size g5 A2 c2 B2 d2 m k → ¬ k = w5.heap.size := by
    rintro k (rfl | rfl | h | h) h'
    all_goals (try have q1 := hlt2 _ h) <;> (try have q2 := hltB2 _ h) <;> omega
  have hsl := hs.2
  refine LoopVC.of (fun i w' => Ext w w' ∧ Blk w' w5.heap.size 94 [.slice (some ⟨g1, 0, none⟩) 3 3, .int .i64 2] ∧ (∃ xs' p', Twin w' w.heap.size w2.heap.size g3 A1 c1 B1 d1 n xs' p') ∧ (∃ ys' q', Twin w' w.heap.size w3.heap.size g5 A2 c2 B2 d2 m ys' q') ∧
    ∃ j : Nat, i = (j : Int) ∧ j ≤ s) (fun i _ => (s - i).toNat) ⟨hE0, hbz, ⟨_, _, T1⟩, ⟨_, _, T2⟩, 0, rfl, by omega⟩ ?_
  clear T1 T2 hbz
  rintro _ w15 ⟨hE15, hbz, ⟨xs1, p1, T1⟩, ⟨ys1, q1, T2⟩, j, rfl, hj⟩
  show weirlaw1_ViewCursors_L32762 _ S s A1 (n + 75) c1 A2 (m + 75) c2 _ _ _ g3 g5 (j : Int) w15 _
  unfold weirlaw1_ViewCursors_L32762
  refine Br.dec (fun hlt => ?_) (fun hge => ?_)
  · have hjl : j < l.length := by omega
    have hrec : (l.map fun s => ([.int .i64 s.1, .int .i64 s.2.1, .int .i64 s.2.2] : List Value)).getD (j : Int).toNat [] = [.int .i64 l[j].1, .int .i64 l[j].2.1, .int .i64 l[j].2.2] := by
      rw [Int.toNat_natCast]; simp [hjl]
    have hrs : Recs w15 S 3 (l.map fun s => [.int .i64 s.1, .int .i64 s.2.1, .int .i64 s.2.2]) := hs.1.ext hE15
    have hwr : IntKind.i64.wrap ((j : Int) + 1) = ((j + 1 : Nat) : Int) := by rw [w64 (by omega) (by omega)]; omega
    refine IdxVC.rec hrs (by omega) hlt (by simpa using hsl) fun a hc => ?_
    rw [hrec] at hc
    refine ⟨_, hc.2.1, Br.dec (fun _ => ?_) (fun _ => ?_)⟩
    · refine IdxVC.rec hrs (by omega) hlt (by simpa using hsl) fun a hc => ?_
      rw [hrec] at hc
      refine ⟨_, _, _, hc, ?_⟩
      refine (stepped_spec T2).mono ?_
      rintro _ w16 ⟨rfl, hm16, ys2, q2, T2'⟩
      refine ⟨_, rfl, Br.f rfl ?_⟩
      rw [hwr]
      refine ⟨⟨T2.grow (by omega) (by omega) hE15 hm16, hbz.mod hm16 (fun e => hz2 _ e rfl), ⟨_, _, T1.mod hm16 fun k hk e => hdis k hk e⟩, ⟨_, _, T2'⟩, j + 1, rfl, by omega⟩, by omega⟩
    · refine IdxVC.rec hrs (by omega) hlt (by simpa using hsl) fun a hc => ?_
      rw [hrec] at hc
      refine ⟨_, _, _, hc, ?_⟩
      refine (stepped_spec T1).mono ?_
      rintro _ w16 ⟨rfl, hm16, xs2, p2, T1'⟩
      refine ⟨_, rfl, Br.f rfl ?_⟩
      rw [hwr]
      refine ⟨⟨T1.grow (by omega) (by omega) hE15 hm16, hbz.mod hm16 (fun e => hz1 _ e rfl), ⟨_, _, T1'⟩, ⟨_, _, T2.mod hm16 fun k hk e => hdis k e hk⟩, j + 1, rfl, by omega⟩, by omega⟩
  · refine (curLeft_spec hbz (by omega) (by omega) (by omega)).mono ?_
    rintro _ w18 ⟨hE18, rfl⟩
    have T1 := T1.ext hE18
    have T2 := T2.ext hE18
    have h1n := T1.len
    have h2n := T2.len
    refine ⟨_, rfl, Br.yes (by omega) ⟨_, rfl, _, _, _, T1.ref.cell 0, ?_⟩⟩
    refine (roomy_spec (own_cells T1.own) h1n (by omega)).mono ?_
    rintro _ w19 ⟨hE19, A3, c3, rfl, hc3, hown3⟩
    have T1 := T1.ext hE19
    have T2 := T2.ext hE19
    refine ⟨_, _, _, rfl, ?_⟩
    have hl1 : (xs1 ++ wideTail 75).length = n + 75 := by simp [wideTail]; omega
    have hl2 : (ys1 ++ wideTail 75).length = m + 75 := by simp [wideTail]; omega
    have hB1 := bts_append T1.bts (wideTail_bts 75)
    have hB2 := bts_append T2.bts (wideTail_bts 75)
    refine (same_spec (own_cells T1.wide) (own_cells hown3) hl1 hl1 hB1 hB1).mono ?_
    rintro _ w20 ⟨rfl, rfl⟩
    refine ⟨_, rfl, Br.yes rfl ⟨_, rfl, _, _, _, T2.ref.cell 0, ?_⟩⟩
    refine (roomy_spec (own_cells T2.own) h2n (by omega)).mono ?_
    rintro _ w21 ⟨hE21, A4, c4, rfl, hc4, hown4⟩
    have T2 := T2.ext hE21
    refine ⟨_, _, _, rfl, ?_⟩
    refine (same_spec (own_cells T2.wide) (own_cells hown4) hl2 hl2 hB2 hB2).mono ?_
    rintro _ w22 ⟨rfl, rfl⟩
    exact ⟨_, rfl, by rw [decide_eq_true rfl], ((hE15.ext hE18).ext hE19).ext hE21⟩
end Go.Proofs.Ytdchpilghgnnoaa
