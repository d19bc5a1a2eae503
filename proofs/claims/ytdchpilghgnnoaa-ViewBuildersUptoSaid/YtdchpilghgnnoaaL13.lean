/- Two builders of any bounds, any calls: the law. -/
import Derived.Test.YtdchpilghgnnoaaL12
namespace Go.Proofs.Ytdchpilghgnnoaa
open Go.Eng Go.RowKit

theorem Bd.lower {w : World} {base base' gb c n : Nat} {A : Option Addr} {xs : List Int} {max : Int} (h : Bd w base gb A c n xs max) (hb : base' ≤ base) : Bd w base' gb A c n xs max :=
  { h with own := own_base h.own hb, base := Nat.le_trans hb h.base }
set_option maxHeartbeats 2000000 in
theorem builders_law {S : Option Addr} {s f : Nat} {m n : Int} {l : List ActV} {w : World} (hs : ActsIs w S s l) (hsn : s ≤ 1048576) :
    Calls Try.prog 4 #[.int .i64 m, .int .i64 n, .slice S s f] w fun e w' => e = .returned (.bool true) ∧ Ext w w' := by
  refine weirlaw1_ViewBuilders_of m n S s f w _ ?_
  unfold weirlaw1_ViewBuilders_VC
  refine (newBuilder_spec (w := w) (max := 3)).mono ?_
  rintro _ w1 ⟨hE1, ⟨hbad, rfl⟩ | ⟨_, rfl, hz⟩⟩
  · omega
  have sz := hz.cur.lt
  refine ⟨_, _, rfl, Br.f rfl ?_⟩
  refine (num_spec _ w1).mono ?_
  rintro _ w2 ⟨rfl, rfl⟩
  refine ⟨_, rfl, Br.no (by decide) ?_⟩
  refine (bdPut_spec (k := 2) (v := 258) hz ⟨by decide, by decide⟩).mono ?_
  rintro _ w3 ⟨rfl, hm3, zA, zc, hnz, hz⟩
  have hpe : putErr 2 258 0 3 = 0 := by decide
  have hpn : putN 2 258 0 3 = 2 := by unfold putN; rw [if_pos hpe]; rfl
  have hpl : putL 2 258 [] 0 3 = [1, 2] := by decide
  rw [hpn] at hnz hz
  rw [hpl] at hz
  rw [hpe]
  have hE3 : Ext w w3 := hE1.trans' hm3 fun k hk e => by
    rcases e with rfl | e
    · omega
    · simp [Value.ownBlock] at e
  refine ⟨_, rfl, ?_⟩
  refine (num_spec _ w3).mono ?_
  rintro _ w4 ⟨rfl, rfl⟩
  refine ⟨_, rfl, Br.no (by decide) ?_⟩
  refine (bdDone_spec hz).mono ?_
  rintro _ w5 ⟨hE5, g, -, rfl, hbg⟩
  refine ⟨_, _, _, rfl, ?_⟩
  refine NewVC.blk fun g1 w6 hg1 hz6 hE6 hb1 => ?_
  have hc : Cells w6 (some ⟨g, 0, none⟩) (([1, 2] : List Int).map (.int .u8)) := by simpa using Cells.of_blk (hbg.ext hE6) 0
  refine (same_spec (ys := [1, 2]) hc (by simpa using Cells.of_blk hb1 0) rfl rfl hz.bts hz.bts).mono ?_
  rintro _ w7 ⟨rfl, rfl⟩
  refine ⟨_, rfl, Br.f (by simp) ?_⟩
  have hE06 := (hE3.ext hE5).ext hE6
  have hz := (hz.ext hE5).ext hE6
  refine (newBuilder_spec (w := w6) (max := m)).mono ?_
  rintro _ w8 ⟨hE8, ⟨hmb, rfl⟩ | ⟨hmk, rfl, hb⟩⟩
  · refine ⟨_, _, rfl, ?_⟩
    refine (newBuilder_spec (w := w8) (max := n)).mono ?_
    rintro e9 w9 ⟨hE9, h9⟩
    have hE09 := (hE06.ext hE8).ext hE9
    have hfin : ∀ (x02 : Option Addr) (x12 : Int), JoinVC (S := Bool) (fun J126 => Br (decide (m < 0)) (J126 true w9) (J126 (decide ((65535 : Int) < m)) w9))
        (fun s1 w10 => weirlaw1_ViewBuilders_J126 (fun e w' => e = .returned (.bool true) ∧ Ext w w') m n S s (some ⟨w.heap.size, 0, none⟩) none 1 x02 x12 s1 w10) := fun x02 x12 => by
      refine JoinVC.of (fun b w' => w9 = w' ∧ b = true) (Br.dec (fun _ => ⟨rfl, rfl⟩) (fun h => ⟨rfl, decide_eq_true (by omega)⟩)) ?_
      rintro b w10 ⟨rfl, rfl⟩
      unfold weirlaw1_ViewBuilders_J126
      refine Br.t rfl (Br.t rfl ?_)
      refine (num_spec _ w9).mono ?_
      rintro _ w11 ⟨rfl, rfl⟩
      exact ⟨_, rfl, rfl, hE09⟩
    rcases h9 with ⟨_, rfl⟩ | ⟨_, rfl, _⟩
    · exact ⟨_, _, rfl, hfin _ _⟩
    · exact ⟨_, _, rfl, hfin _ _⟩
  have sb := hb.cur.lt
  refine ⟨_, _, rfl, ?_⟩
  refine (newBuilder_spec (w := w8) (max := n)).mono ?_
  rintro _ w9 ⟨hE9, ⟨hnb, rfl⟩ | ⟨hnk, rfl, hd⟩⟩
  · refine ⟨_, _, rfl, ?_⟩
    refine JoinVC.of (fun b w' => w9 = w' ∧ b = false) (Br.no (by omega) ⟨rfl, decide_eq_false (by omega)⟩) ?_
    rintro b w10 ⟨rfl, rfl⟩
    unfold weirlaw1_ViewBuilders_J126
    refine Br.f rfl ?_
    refine JoinVC.of (fun b w' => w9 = w' ∧ b = true) (Br.dec (fun _ => ⟨rfl, rfl⟩) (fun h => ⟨rfl, decide_eq_true (by omega)⟩)) ?_
    rintro b w12 ⟨rfl, rfl⟩
    unfold weirlaw1_ViewBuilders_J254
    refine Br.t rfl (Br.t rfl ?_)
    refine (num_spec _ w9).mono ?_
    rintro _ w13 ⟨rfl, rfl⟩
    exact ⟨_, rfl, rfl, (hE06.ext hE8).ext hE9⟩
  · have sd := hd.cur.lt
    refine ⟨_, _, rfl, ?_⟩
    refine JoinVC.of (fun b w' => w9 = w' ∧ b = false) (Br.no (by omega) ⟨rfl, decide_eq_false (by omega)⟩) ?_
    rintro b w10 ⟨rfl, rfl⟩
    unfold weirlaw1_ViewBuilders_J126
    refine Br.f rfl ?_
    refine JoinVC.of (fun b w' => w9 = w' ∧ b = false) (Br.no (by omega) ⟨rfl, decide_eq_false (by omega)⟩) ?_
    rintro b w12 ⟨rfl, rfl⟩
    unfold weirlaw1_ViewBuilders_J254
    refine Br.f rfl (Br.f rfl (Br.f rfl ?_))
    refine (num_spec _ w9).mono ?_
    rintro _ w14 ⟨rfl, rfl⟩
    refine ⟨_, rfl, Br.no (by decide) ?_⟩
    refine (num_spec _ w9).mono ?_
    rintro _ w15 ⟨rfl, rfl⟩
    refine ⟨_, rfl, Br.no (by decide) ?_⟩
    refine NewVC.blk fun g2 w16 hg2 hz16 hE16 hb2 => NewVC.blk fun g3 w17 hg3 hz17 hE17 hb3 => ?_
    have hE917 := hE16.ext hE17
    have s6 := hE06.size
    have s8 := hE8.size
    have s9 := hE9.size
    have hnone : ∀ gb k, BF gb none 0 0 k → k = gb := fun gb k hk => by
      rcases hk with rfl | hk
      · rfl
      · simp [Value.ownBlock] at hk
    have hzlt := hz.lt
    have hm0 := hb.m0
    have hn0 := hd.m0
    have hE017 : Ext w w17 := ((hE06.ext hE8).ext hE9).ext hE917
    refine builders_loop (zs := [1, 2]) hE017 hs (by omega) (by omega) (by omega) (by omega) (by omega) ⟨⟨none, 0, none, 0, 0, [], ⟨((hb.ext hE9).ext hE917).lower s6, ⟨hb2.ext hE17, World.ownsRow_nil _ _ _ _, rfl, fun x hx => by simp at hx, hm0, by omega, hE017.size, fun k hk => by simp [Value.ownBlock] at hk⟩, fun k hk hk' => ?_⟩,
      none, 0, none, 0, 0, [], ⟨(hd.ext hE917).lower (by omega), ⟨hb3, World.ownsRow_nil _ _ _ _, rfl, fun x hx => by simp at hx, hn0, by omega, hE017.size, fun k hk => by simp [Value.ownBlock] at hk⟩, fun k hk hk' => ?_⟩, fun k hk hk' => ?_, fun k hk hk' => ?_, fun k hk hk' => ?_⟩, ((hz.ext hE8).ext hE9).ext hE917⟩ rfl fun w' hE' => ⟨rfl, hE'⟩
    · have := hnone _ _ hk; have := hnone _ _ hk'; omega
    · have := hnone _ _ hk; have := hnone _ _ hk'; omega
    · rcases hk with e | e <;> rcases hk' with e' | e' <;> (have := hnone _ _ e; have := hnone _ _ e'; omega)
    · have := hzlt k hk'
      rcases hk with e | e <;> (have := hnone _ _ e; omega)
    · have := hzlt k hk'
      rcases hk with e | e <;> (have := hnone _ _ e; omega)
end Go.Proofs.Ytdchpilghgnnoaa
