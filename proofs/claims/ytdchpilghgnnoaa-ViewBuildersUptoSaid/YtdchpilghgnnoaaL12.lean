/- Two builders of any bounds, any calls: the loop over the script. -/
import Derived.Test.YtdchpilghgnnoaaL11
namespace Go.Proofs.Ytdchpilghgnnoaa
open Go.Eng Go.RowKit

theorem PF.ge {w0 w : World} {gb gr c d n : Nat} {A B : Option Addr} {xs : List Int} {max : Int} (T : BP w w0.heap.size gb gr A c B d n xs max) (hgb : w0.heap.size ≤ gb) (hgr : w0.heap.size ≤ gr) : ∀ k, PF gb gr A c B d n k → w0.heap.size ≤ k := by
  rintro k ((rfl | e) | (rfl | e))
  · exact hgb
  · exact own_new T.b.own k e.symm
  · exact hgr
  · exact own_new T.r.own k e.symm

/-- Two pairs and the one that is left alone. -/
structure Trio (w : World) (base : Nat) (b1 r1 b2 r2 z : Nat) (m1 m2 : Int) (zA : Option Addr) (zc zn : Nat) (zs : List Int) (zm : Int) : Prop where
  p1 : ∃ A c B d n xs, BP w base b1 r1 A c B d n xs m1 ∧ ∃ A' c' B' d' n' xs', BP w base b2 r2 A' c' B' d' n' xs' m2 ∧ (∀ k, PF b1 r1 A c B d n k → ¬ PF b2 r2 A' c' B' d' n' k) ∧ (∀ k, PF b1 r1 A c B d n k → ¬ BF z zA zc zn k) ∧ (∀ k, PF b2 r2 A' c' B' d' n' k → ¬ BF z zA zc zn k)
  z : Bd w base z zA zc zn zs zm
/-- A pair that was not touched, beside one that was. -/
theorem apart_after {w : World} {F F' G : Nat → Prop} (hs : ∀ k, F' k → F k ∨ w.heap.size ≤ k) (hd : ∀ k, F k → ¬ G k) (hg : ∀ k, G k → k < w.heap.size) : ∀ k, F' k → ¬ G k := fun k hk hk2 => by
  rcases hs k hk with e | e
  · exact hd k e hk2
  · have := hg k hk2; omega

set_option maxHeartbeats 2000000 in
theorem builders_loop {w0 w : World} {b1 r1 b2 r2 z zc zn s : Nat} {m1 m2 zm : Int} {S zA : Option Addr} {zs : List Int} {l : List ActV} (hE : Ext w0 w) (hs : ActsIs w0 S s l) (hsn : s ≤ 1048700)
    (hb1 : w0.heap.size ≤ b1) (hr1 : w0.heap.size ≤ r1) (hb2 : w0.heap.size ≤ b2) (hr2 : w0.heap.size ≤ r2) (hT : Trio w w0.heap.size b1 r1 b2 r2 z m1 m2 zA zc zn zs zm) (hz : zs = [1, 2]) {R : Ending → World → Prop} (hR : ∀ w', Ext w0 w' → R (.returned (.bool true)) w') :
    LoopVC (S := Int) (fun s1 w18 K16378 => weirlaw1_ViewBuilders_L16378 R S s (some ⟨z, 0, none⟩) (some ⟨b1, 0, none⟩) (some ⟨b2, 0, none⟩) r1 r2 s1 w18 K16378) 0 w := by
  refine LoopVC.of (fun i w' => Ext w0 w' ∧ Trio w' w0.heap.size b1 r1 b2 r2 z m1 m2 zA zc zn zs zm ∧ ∃ j : Nat, i = (j : Int) ∧ j ≤ s) (fun i _ => ((s : Int) - i).toNat) ⟨hE, hT, 0, rfl, by omega⟩ ?_
  clear hT
  rintro _ w1 ⟨hE1, ⟨⟨A, c, B, d, n, xs, T1, A', c', B', d', n', xs', T2, h12, h1z, h2z⟩, hz1⟩, j, rfl, hj⟩
  show weirlaw1_ViewBuilders_L16378 R S s (some ⟨z, 0, none⟩) (some ⟨b1, 0, none⟩) (some ⟨b2, 0, none⟩) r1 r2 (j : Int) w1 _
  unfold weirlaw1_ViewBuilders_L16378
  have hlen := hs.len
  refine Br.dec (fun hlt => ?_) (fun hge => ?_)
  · have hjl : j < l.length := by omega
    have hs1 := hs.ext hE1
    have hrec : (l.map ActV.vals).getD (j : Int).toNat [] = (l[j]).vals := by rw [Int.toNat_natCast]; simp [hjl]
    have hwr : IntKind.i64.wrap ((j : Int) + 1) = ((j + 1 : Nat) : Int) := by rw [w64 (by omega) (by omega)]; omega
    obtain ⟨hv, ps, hps, hpm, hpm2⟩ := hs.ok _ (List.getElem_mem hjl)
    refine IdxVC.rec hs1.recs (by omega) hlt (by simpa using hlen) fun a hc => ?_
    rw [hrec] at hc
    refine ⟨_, hc.2.1, Br.dec (fun _ => ?_) (fun _ => ?_)⟩
    · refine IdxVC.rec hs1.recs (by omega) hlt (by simpa using hlen) fun a hc => ?_
      rw [hrec] at hc
      refine ⟨_, _, _, _, _, _, _, _, hc, ?_⟩
      refine (acted_spec T2 hE1 (fun w' hE' => hps.ext hE') hpm hpm2 hb2 hr2 hv).mono ?_
      rintro e w2 hA
      have hE2 := Acted.grow T2 hb2 hr2 hE1 hA
      obtain ⟨rfl, hM, C, cc, D, dd, n2, ys, T2', hsub⟩ := hA
      refine ⟨_, rfl, Br.f rfl ?_⟩
      rw [hwr]
      refine ⟨⟨hE2, ⟨⟨A, c, B, d, n, xs, T1.mod hM fun k hk e => h12 k hk e, C, cc, D, dd, n2, ys, T2', fun k hk hk2 => apart_after hsub (fun k e e' => h12 k e' e) T1.lt k hk2 hk, h1z, apart_after hsub h2z hz1.lt⟩, hz1.mod hM fun k hk e => h2z k e hk⟩, j + 1, rfl, by omega⟩, by omega⟩
    · refine IdxVC.rec hs1.recs (by omega) hlt (by simpa using hlen) fun a hc => ?_
      rw [hrec] at hc
      refine ⟨_, _, _, _, _, _, _, _, hc, ?_⟩
      refine (acted_spec T1 hE1 (fun w' hE' => hps.ext hE') hpm hpm2 hb1 hr1 hv).mono ?_
      rintro e w2 hA
      have hE2 := Acted.grow T1 hb1 hr1 hE1 hA
      obtain ⟨rfl, hM, C, cc, D, dd, n2, ys, T1', hsub⟩ := hA
      refine ⟨_, rfl, Br.f rfl ?_⟩
      rw [hwr]
      refine ⟨⟨hE2, ⟨⟨C, cc, D, dd, n2, ys, T1', A', c', B', d', n', xs', T2.mod hM fun k hk e => h12 k e hk, apart_after hsub h12 T2.lt, apart_after hsub h1z hz1.lt, h2z⟩, hz1.mod hM fun k hk e => h1z k e hk⟩, j + 1, rfl, by omega⟩, by omega⟩
  · intro w21 hw21
    have hE21 : Ext w1 w21 := by subst hw21; exact Ext.drew w1
    have hl1 := T1.b.len
    have hl2 := T2.b.len
    have hlz := hz1.len
    refine ⟨fun w' => Ext w1 w', hE21, _, rfl, _, _, _, fun w' h => (T1.r.cur.ext h).cell 1, ?_⟩
    refine (bdDone_spec (T1.b.ext hE21)).mono ?_
    rintro _ w22 ⟨hE22, g, -, rfl, hbg⟩
    have hE122 := hE21.ext hE22
    refine ⟨_, _, _, rfl, hE122, ?_⟩
    have hc : Cells w22 (some ⟨g, 0, none⟩) (xs.map (.int .u8)) := by simpa using Cells.of_blk hbg 0
    refine (same_spec hc (own_cells (T1.r.ext hE122).own) hl1 hl1 T1.b.bts T1.b.bts).mono ?_
    rintro _ w23 ⟨rfl, rfl⟩
    refine ⟨_, rfl, hE122, Br.yes rfl ⟨_, rfl, _, _, _, fun w' h => (T2.r.cur.ext h).cell 1, ?_⟩⟩
    refine (bdDone_spec (T2.b.ext hE122)).mono ?_
    rintro _ w24 ⟨hE24, g', -, rfl, hbg'⟩
    have hE124 := hE122.ext hE24
    refine ⟨_, _, _, rfl, hE124, ?_⟩
    have hc' : Cells w24 (some ⟨g', 0, none⟩) (xs'.map (.int .u8)) := by simpa using Cells.of_blk hbg' 0
    refine (same_spec hc' (own_cells (T2.r.ext hE124).own) hl2 hl2 T2.b.bts T2.b.bts).mono ?_
    rintro _ w25 ⟨rfl, rfl⟩
    refine ⟨_, rfl, hE124, Br.yes rfl ⟨?_, ?_⟩⟩
    · refine (bdDone_spec (hz1.ext hE124)).mono ?_
      rintro _ w30 ⟨hE30, g6, -, rfl, hb6⟩
      refine ⟨_, _, _, rfl, (hE124).ext hE30, ?_⟩
      have hc6 : Cells w30 (some ⟨g6, 0, none⟩) (zs.map (.int .u8)) := by simpa using Cells.of_blk hb6 0
      refine NewVC.blk fun g7 w27 hg7 hz27 hE27 hb7 => ⟨(hE124.ext hE30).ext hE27, ?_⟩
      refine (same_spec (ys := [1, 2]) (hc6.ext hE27) (by simpa using Cells.of_blk hb7 0) hlz rfl hz1.bts (by intro x hx; simp at hx; omega)).mono ?_
      rintro _ w31 ⟨rfl, rfl⟩
      refine ⟨_, rfl, ((hE124.ext hE30).ext hE27), ?_⟩
      rw [decide_eq_true hz]
      exact hR _ (hE1.ext ((hE124.ext hE30).ext hE27))
    · refine NewVC.blk fun g7 w29 hg7 hz29 hE29 hb7 => ⟨hE124.ext hE29, ?_⟩
      refine (bdDone_spec (hz1.ext (hE124.ext hE29))).mono ?_
      rintro _ w30 ⟨hE30, g6, -, rfl, hb6⟩
      refine ⟨_, _, _, rfl, ((hE124.ext hE29)).ext hE30, ?_⟩
      have hc6 : Cells w30 (some ⟨g6, 0, none⟩) (zs.map (.int .u8)) := by simpa using Cells.of_blk hb6 0
      refine (same_spec (ys := [1, 2]) hc6 (by simpa using Cells.of_blk (hb7.ext hE30) 0) hlz rfl hz1.bts (by intro x hx; simp at hx; omega)).mono ?_
      rintro _ w31 ⟨rfl, rfl⟩
      refine ⟨_, rfl, ((hE124.ext hE29).ext hE30), ?_⟩
      rw [decide_eq_true hz]
      exact hR _ (hE1.ext ((hE124.ext hE29).ext hE30))
end Go.Proofs.Ytdchpilghgnnoaa
