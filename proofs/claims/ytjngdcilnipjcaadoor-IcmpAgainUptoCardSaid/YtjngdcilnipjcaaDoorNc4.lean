/- Layer 4's texts of version 6 (the document's): the sixteen bytes; ParseIP. -/
import Derived.Test.YtjngdcilnipjcaaDoorNc3
namespace Go.Eng
open Go Go.RowKit
theorem row_arr (p : IPV) : Value.agg p.row.toArray = p.arr := rfl
end Go.Eng
namespace Go.Proofs.YtjngdcilnipjcaaDoor
namespace Nd
open Go.Eng Go.RowKit
section
variable {w : World} {g : Nat} {s : ByteArray} {A : Option Addr} {n c p k : Nat} {gap at_ : Int}
/-- What has been read becomes sixteen bytes. -/
theorem sixes_end {w0 : World} {g1 g2 g3 : Nat} {gs : List Int} {P : IPV} {pp : Int} (hE : Ext w0 w) (h1g : w0.heap.size ≤ g1) (h2g : w0.heap.size ≤ g2) (h12 : g1 ≠ g2) (_ : g1 ≠ g3) (h23 : g2 ≠ g3)
    (hb1 : Blk w g1 29 (List.replicate 16 (.int .u8 0))) (hb2 : Blk w g2 29 (List.replicate 16 (.int .u8 0))) (hb3 : Blk w g3 203 (sixC s A n c gap pp at_))
    (hgap : 0 ≤ gap ∧ gap ≤ 1) (hg : Cells w A (gs.map (.int .i64))) (hA2 : ∀ a, A = some a → 0 < gs.length → a.block ≠ g2) (hl : gs.length = n)
    (hP : gs = [] ∧ P = noneIP ∨ ∃ v, 0 ≤ v ∧ v < 65536 ∧ gs = [v] ∧ P = if gap = 0 then tailIP v else headIP v) :
    weirref4_sixes_J255 (fun e w' => Ext w0 w' ∧ e = .returned (.tuple #[P.arr, .int .i64 0, .int .i64 0])) g1 g2 g3 w := by
  unfold weirref4_sixes_J255
  refine ⟨_, rfl, _, hb3.cell 4, Br.no (by decide) ?_⟩
  refine LoopVC.of (fun st w' => Mod (fun k => k = g2) w w' ∧ (st = 0 ∧ Blk w' g2 29 (List.replicate 16 (.int .u8 0)) ∧ 0 < gs.length ∨ st = n ∧ Blk w' g2 29 P.row)) (fun st _ => ((n : Int) - st).toNat) ?_ ?_
  · refine ⟨Mod.refl _ _, ?_⟩
    rcases hP with ⟨h, h'⟩ | ⟨v, _, _, h, _⟩
    · subst h; subst h'
      exact .inr ⟨by simp at hl; omega, hb2⟩
    · exact .inl ⟨rfl, hb2, by rw [h]; simp⟩
  rintro st w1 ⟨hm1, hst⟩
  have hb3' := hb3.mod hm1 (fun e => h23 e.symm)
  have hg' : Cells w1 A (gs.map (.int .i64)) := hg.mod hm1 fun a ha h0 => hA2 a ha (by simpa using h0)
  rcases hst with ⟨rfl, hz, hpos⟩ | ⟨rfl, hz⟩
  · obtain ⟨v, hv0, hv1, hgs, hPv⟩ : ∃ v, 0 ≤ v ∧ v < 65536 ∧ gs = [v] ∧ P = if gap = 0 then tailIP v else headIP v := by
      rcases hP with ⟨h, -⟩ | h
      · rw [h] at hpos; simp at hpos
      · exact h
    have hn : n = 1 := by rw [← hl, hgs]; rfl
    subst hn
    rw [hgs] at hg'
    show weirref4_sixes_L8186 _ g1 g2 g3 0 w1 _
    unfold weirref4_sixes_L8186
    refine ⟨_, rfl, _, _, _, hb3'.cell 1, Br.yes (by decide) ?_⟩
    refine JoinVC.of (fun st w' => w1 = w' ∧ st = if gap = 0 then 7 else 0) ?_ ?_
    · refine ⟨_, rfl, _, hb3'.cell 2, Br.yes (by omega) ⟨_, rfl, _, hb3'.cell 2, Br.dec (fun h => ⟨_, rfl, _, _, _, hb3'.cell 1, rfl, ?_⟩) fun h => ⟨rfl, ?_⟩⟩⟩
      · rw [if_pos (by omega)]; decide
      · rw [if_neg (by omega)]
    rintro _ _ ⟨rfl, rfl⟩
    unfold weirref4_sixes_J261961
    have d1 : IntKind.u8.wrap (IntKind.i64.wrap (Int.tdiv v 256)) = v / 256 := by
      rw [Int.tdiv_eq_ediv_of_nonneg hv0, w64 (by omega) (by omega), wu8 (by omega) (by omega)]
    have d2 : IntKind.u8.wrap (Int.tmod v 256) = v % 256 := by
      rw [Int.tmod_eq_emod_of_nonneg hv0, wu8 (by omega) (by omega)]
    refine ⟨_, rfl, _, _, _, hb3'.cell 1, ?_⟩
    refine IdxVC.int hg' (by decide) (by decide) rfl fun a ha => ⟨_, ha, ?_⟩
    have hk : (if gap = 0 then (7 : Int) else 0) = 7 ∧ gap = 0 ∨ (if gap = 0 then (7 : Int) else 0) = 0 ∧ gap = 1 := by
      by_cases h : gap = 0
      · exact .inl ⟨if_pos h, h⟩
      · exact .inr ⟨if_neg h, by omega⟩
    have rest : ∀ (q : Nat) (Q : IPV), Q = P → q + 1 < 16 → (((List.replicate 16 (Value.int .u8 0)).set q (.int .u8 (v / 256))).set (q + 1) (.int .u8 (v % 256))) = Q.row →
        IdxVC (some ⟨g2, 0, none⟩) 16 1 (q : Int) fun a1 => SetVC w1 a1 (.int .u8 (IntKind.u8.wrap (IntKind.i64.wrap (Int.tdiv v 256)))) fun w35 =>
          NilVC (some ⟨g3, 0, none⟩) fun p15 => ∃ (xA4 : Option Addr) (xn4 xc4 : Nat), w35.cell? (p15.add 1) = some (.slice xA4 xn4 xc4) ∧ IdxVC xA4 xn4 1 0 fun a2 => ∃ x22 : Int, w35.cell? a2 = some (.int .i64 x22) ∧
          IdxVC (some ⟨g2, 0, none⟩) 16 1 ((q + 1 : Nat) : Int) fun a3 => SetVC w35 a3 (.int .u8 (IntKind.u8.wrap (Int.tmod x22 256))) fun w36 =>
          (Mod (fun k => k = g2) w w36 ∧ ((IntKind.i64.wrap (0 + 1) : Int) = 0 ∧ Blk w36 g2 29 (List.replicate 16 (.int .u8 0)) ∧ 0 < gs.length ∨ IntKind.i64.wrap (0 + 1) = ((1 : Nat) : Int) ∧ Blk w36 g2 29 P.row)) ∧ (((1 : Nat) : Int) - IntKind.i64.wrap (0 + 1)).toNat < (((1 : Nat) : Int) - 0).toNat := by
      intro q Q hQ hq hset
      refine IdxVC.blk (by omega) (by omega) ?_
      rw [d1]
      refine SetVC.blk hz (by simp; omega) fun w2 hz2 hm2 hb22 => ?_
      refine ⟨_, rfl, _, _, _, (hb3'.mod hm2 (fun e => h23 e.symm)).cell 1, ?_⟩
      refine IdxVC.int (hg'.mod hm2 fun a ha h0 => hA2 a ha (by rw [hgs]; exact Nat.one_pos)) (by decide) (by decide) rfl fun a3 ha3 => ⟨_, ha3, ?_⟩
      refine IdxVC.blk (by omega) (by omega) ?_
      show SetVC w2 _ (.int .u8 (IntKind.u8.wrap (Int.tmod v 256))) _
      rw [d2]
      refine SetVC.blk hb22 (by simp; omega) fun w3 hz3 hm3 hb33 => ?_
      refine ⟨⟨hm1.trans (hm2.trans hm3), .inr ⟨by decide, ?_⟩⟩, by decide⟩
      simp only [Int.toNat_natCast] at hb33
      rw [hset] at hb33
      subst hQ
      exact hb33
    rcases hk with ⟨h7, hgp⟩ | ⟨h7, hgp⟩
    · rw [h7]
      have e1 : IntKind.i64.wrap (2 * 7) = ((14 : Nat) : Int) := by decide
      have e2 : IntKind.i64.wrap (((14 : Nat) : Int) + 1) = ((14 + 1 : Nat) : Int) := by decide
      rw [e1, e2]
      exact rest 14 (tailIP v) (by rw [hPv, if_pos hgp]) (by decide) rfl
    · rw [h7]
      have e1 : IntKind.i64.wrap (2 * 0) = ((0 : Nat) : Int) := by decide
      have e2 : IntKind.i64.wrap (((0 : Nat) : Int) + 1) = ((0 + 1 : Nat) : Int) := by decide
      rw [e1, e2]
      exact rest 0 (headIP v) (by rw [hPv, if_neg (by omega)]) (by decide) rfl
  · show weirref4_sixes_L8186 _ g1 g2 g3 (n : Int) w1 _
    unfold weirref4_sixes_L8186
    refine ⟨_, rfl, _, _, _, hb3'.cell 1, Br.no (by omega) ?_⟩
    refine ⟨_, _, _, _, _, _, _, _, _, _, _, _, _, _, _, _, CellsAt.blk hz, ?_⟩
    refine setAll P.row 0 w1 _ _ (hb1.mod hm1 h12) rfl fun w2 hz2 hm2 hb => ?_
    exact ⟨_, _, _, _, _, _, _, _, _, _, _, _, _, _, _, _, CellsAt.blk hb, (hE.set hm1 h2g).set hm2 h1g, rfl⟩
theorem worth58 : worthS 58 = -1 := by decide
theorem sixes_spec {P : IPV} (hz : s.size ≤ 1000)
    (h : (s.size = 2 ∧ ch s 0 = 58 ∧ ch s 1 = 58 ∧ P = noneIP) ∨
      (∃ k, s.size = 2 + k ∧ ch s 0 = 58 ∧ ch s 1 = 58 ∧ 0 < k ∧ k ≤ 4 ∧ (∀ i, i < k → 0 ≤ worthS (ch s (2 + i))) ∧ P = tailIP (hexN s 2 k)) ∨
      (∃ k, s.size = k + 2 ∧ 0 < k ∧ k ≤ 4 ∧ (∀ i, i < k → 0 ≤ worthS (ch s (0 + i))) ∧ ch s k = 58 ∧ ch s (k + 1) = 58 ∧ P = headIP (hexN s 0 k))) :
    Calls Tryd.prog 153 #[.string s] w fun e w' => Ext w w' ∧ e = .returned (.tuple #[P.arr, .int .i64 0, .int .i64 0]) := by
  refine weirref4_sixes_of s w _ ?_
  unfold weirref4_sixes_VC
  refine NewVC.blk fun g1 w1 hg1 hz1 hE1 hb1 => NewVC.blk fun g2 w2 hg2 hz2 hE2 hb2 => NewVC.blk fun g3 w3 hg3 hz3 hE3 hb3 => ?_
  have hb1 : Blk w3 g1 29 (List.replicate 16 (.int .u8 0)) := (hb1.ext hE2).ext hE3
  have hb2 : Blk w3 g2 29 (List.replicate 16 (.int .u8 0)) := hb2.ext hE3
  have hE := (hE1.ext hE2).ext hE3
  have hb3 : Blk w3 g3 203 (sixC s none 0 0 (-1) ((0 : Nat) : Int) 0) := hb3
  refine (two_spec s 0 hz (by decide)).mono ?_
  rintro _ _ ⟨rfl, rfl⟩
  refine ⟨_, rfl, ?_⟩
  /- what the loop hands on -/
  let J : World → Prop := fun w' => ∃ (A : Option Addr) (n c : Nat) (gap pp : Int) (gs : List Int), Ext w w' ∧ Mod (fun i => i = g3) w3 w' ∧ Blk w' g3 203 (sixC s A n c gap pp 0) ∧ (0 ≤ gap ∧ gap ≤ 1) ∧ Cells w' A (gs.map (.int .i64)) ∧ (∀ a, A = some a → 0 < gs.length → w3.heap.size ≤ a.block) ∧ gs.length = n ∧
    (gs = [] ∧ P = noneIP ∨ ∃ v, 0 ≤ v ∧ v < 65536 ∧ gs = [v] ∧ P = if gap = 0 then tailIP v else headIP v)
  have fin : ∀ w', J w' → weirref4_sixes_J127 (fun e w' => Ext w w' ∧ e = .returned (.tuple #[P.arr, .int .i64 0, .int .i64 0])) s g1 g2 g3 w' := by
    rintro w' ⟨A, n, c, gap, pp, gs, hE', hm, hb, hgap, hc, hA, hl, hP⟩
    unfold weirref4_sixes_J127
    refine JoinVC.of (fun _ w'' => w' = w'') ?_ ?_
    · refine JoinVC.of (fun st w'' => w' = w'' ∧ st = false) ⟨_, rfl, _, hb.cell 4, Br.yes rfl ⟨_, rfl, _, hb.cell 2, Br.no (by omega) ⟨rfl, rfl⟩⟩⟩ ?_
      rintro _ _ ⟨rfl, rfl⟩
      unfold weirref4_sixes_J510
      exact Br.f rfl rfl
    rintro _ _ rfl
    exact sixes_end hE' (by omega) (by omega) (by omega) (by omega) (by omega) (hb1.mod hm (by show ¬ g1 = g3; omega)) (hb2.mod hm (by show ¬ g2 = g3; omega)) hb hgap hc (fun a ha h0 => by have := hA a ha h0; omega) hl hP
  rcases h with ⟨hsz, hc0, hc1, hP⟩ | ⟨k, hsz, hc0, hc1, hk0, hk4, hd, hP⟩ | ⟨k, hsz, hk0, hk4, hd, hc0, hc1, hP⟩
  · refine JoinVC.of (fun st w' => st = true ∧ J w') ?_ ?_
    · refine Br.yes ⟨by omega, hc0, hc1⟩ ⟨_, rfl, SetVC.blk (g := g3) (i := 2) hb3 (by simp [sixC]) fun w4 hz4 hm4 hb4 => ⟨_, rfl, SetVC.blk (g := g3) (i := 3) hb4 (by simp [sixC]) fun w5 hz5 hm5 hb5 => ?_⟩⟩
      exact ⟨by rw [decide_eq_true (by omega)], none, 0, 0, 0, 2, [], hE.set (hm4.trans hm5) (by omega), hm4.trans hm5, hb5, by decide, Cells.nil _ _, fun a ha => (by cases ha), rfl, .inl ⟨rfl, hP⟩⟩
    rintro _ w' ⟨rfl, hJ⟩
    unfold weirref4_sixes_J63
    refine JoinVC.of (fun _ w'' => J w'') ?_ (fun _ w'' h => fin w'' h)
    refine LoopVC.of (fun st w'' => st = true ∧ J w'') (fun _ _ => 0) ⟨rfl, hJ⟩ ?_
    rintro _ w'' ⟨rfl, hJ⟩
    show weirref4_sixes_L508 _ g3 _ true w'' _
    unfold weirref4_sixes_L508
    exact Br.f rfl hJ
  · refine JoinVC.of (fun st w' => st = false ∧ Mod (fun i => i = g3) w3 w' ∧ w'.heap.size = w3.heap.size ∧ Blk w' g3 203 (sixC s none 0 0 0 ((2 : Nat) : Int) 0)) ?_ ?_
    · refine Br.yes ⟨by omega, hc0, hc1⟩ ⟨_, rfl, SetVC.blk (g := g3) (i := 2) hb3 (by simp [sixC]) fun w4 hz4 hm4 hb4 => ⟨_, rfl, SetVC.blk (g := g3) (i := 3) hb4 (by simp [sixC]) fun w5 hz5 hm5 hb5 => ?_⟩⟩
      exact ⟨by rw [decide_eq_false (by omega)], hm4.trans hm5, by omega, hb5⟩
    rintro _ w' ⟨rfl, hm, hsz', hb⟩
    unfold weirref4_sixes_J63
    refine JoinVC.of (fun _ w'' => J w'') ?_ (fun _ w'' h => fin w'' h)
    refine LoopVC.of (fun st w'' => st = false ∧ w' = w'' ∨ st = true ∧ J w'') (fun st _ => if st then 0 else 1) (.inl ⟨rfl, rfl⟩) ?_
    rintro _ w'' (⟨rfl, rfl⟩ | ⟨rfl, hJ⟩)
    · show weirref4_sixes_L508 _ g3 _ false w' _
      unfold weirref4_sixes_L508
      refine Br.t rfl ⟨_, rfl, _, hb.cell 4, Br.yes rfl ?_⟩
      refine (group_spec hb hz hk0 hk4 (by omega) hd (fun h => absurd h (by omega))).mono ?_
      rintro _ w4 ⟨hm4, rfl, A, c, hb4, hown⟩
      refine ⟨_, rfl, ?_⟩
      refine JoinVC.of (fun st w'' => st = false ∧ w4 = w'') (Br.f (by simp; omega) ⟨rfl, rfl⟩) ?_
      rintro _ _ ⟨rfl, rfl⟩
      unfold weirref4_sixes_J8133
      have hN := hexN_bound (s := s) (p := 2) k hd
      have hP4 := pow16_le hk4
      refine Br.f rfl ⟨.inr ⟨by rw [decide_eq_true (by omega)], A, 1, c, 0, _, [hexN s 2 k], hE.set (hm.trans hm4) (by omega), hm.trans hm4, hb4, by decide, own_cells hown, fun a ha _ => ?_, rfl, .inr ⟨_, hN.1, by omega, rfl, by rw [if_pos rfl]; exact hP⟩⟩, ?_⟩
      · have := own_new hown a.block (by rw [ha]; rfl)
        omega
      · simp; omega
    · show weirref4_sixes_L508 _ g3 _ true w'' _
      unfold weirref4_sixes_L508
      exact Br.f rfl hJ
  · have hne : ch s 0 ≠ 58 := fun e => by have := hd 0 hk0; rw [Nat.zero_add, e, worth58] at this; omega
    refine JoinVC.of (fun st w' => st = false ∧ w3 = w') (Br.no (fun h => hne h.2.1) ⟨rfl, rfl⟩) ?_
    rintro _ _ ⟨rfl, rfl⟩
    unfold weirref4_sixes_J63
    refine JoinVC.of (fun _ w'' => J w'') ?_ (fun _ w'' h => fin w'' h)
    refine LoopVC.of (fun st w'' => st = false ∧ w3 = w'' ∨ st = true ∧ J w'') (fun st _ => if st then 0 else 1) (.inl ⟨rfl, rfl⟩) ?_
    rintro _ w'' (⟨rfl, rfl⟩ | ⟨rfl, hJ⟩)
    · show weirref4_sixes_L508 _ g3 _ false w3 _
      unfold weirref4_sixes_L508
      refine Br.t rfl ⟨_, rfl, _, hb3.cell 4, Br.yes rfl ?_⟩
      refine (group_spec hb3 hz hk0 hk4 (by omega) hd (fun h => ?_)).mono ?_
      · rw [Nat.zero_add, hc0]; exact ⟨by decide, by decide⟩
      rintro _ w4 ⟨hm4, rfl, A, c, hb4, hown⟩
      refine ⟨_, rfl, ?_⟩
      refine JoinVC.of (fun st w'' => st = true ∧ w4 = w'') (Br.t (by simp; omega) ⟨_, rfl, _, hb4.cell 4, rfl, rfl⟩) ?_
      rintro _ _ ⟨rfl, rfl⟩
      unfold weirref4_sixes_J8133
      refine Br.t rfl ?_
      rw [Nat.zero_add] at hb4
      refine (between_spec hb4 hz (by omega) hc0 hc1).mono ?_
      rintro _ w5 ⟨hm5, rfl, hb5⟩
      have hN := hexN_bound (s := s) (p := 0) k hd
      have hP4 := pow16_le hk4
      have hsz4 := hm4.size
      have hE5 := hE.set (hm4.trans hm5) (by omega)
      have hnew : ∀ a, A = some a → w3.heap.size ≤ a.block := fun a ha => own_new hown a.block (by rw [ha]; rfl)
      refine ⟨_, rfl, .inr ⟨by rw [decide_eq_true (by omega)], A, 1, c, 1, _, [hexN s 0 k], hE5, hm4.trans hm5, hb5, by decide, (own_cells hown).mod hm5 (fun a ha _ => ?_), fun a ha _ => hnew a ha, rfl, .inr ⟨_, hN.1, by omega, rfl, by rw [if_neg (by decide)]; exact hP⟩⟩, ?_⟩
      · have := hnew a ha
        show ¬ a.block = g3
        omega
      · simp; omega
    · show weirref4_sixes_L508 _ g3 _ true w'' _
      unfold weirref4_sixes_L508
      exact Br.f rfl hJ
end
end Nd
end Go.Proofs.YtjngdcilnipjcaaDoor
