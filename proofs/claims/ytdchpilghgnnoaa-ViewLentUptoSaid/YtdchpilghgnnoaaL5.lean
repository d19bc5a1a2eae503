/- Two cursors beside one another, any calls. -/
import Derived.Test.YtdchpilghgnnoaaCur
namespace Go.Proofs.Ytdchpilghgnnoaa
open Go.Eng Go.RowKit

section
variable {w w' : World} {base gc gr c d n : Nat} {A B : Option Addr} {xs : List Int} {p k : Int}
theorem nextAt_uint (h0 : 0 ≤ p) (h1 : p ≤ n) (hl : xs.length = n) : 0 ≤ nextAt (uintS xs p k).2 p k ∧ nextAt (uintS xs p k).2 p k ≤ n := by
  unfold nextAt
  split
  · rename_i h
    have := uintS_range xs p k h
    omega
  · omega
theorem nextAt_win (h0 : 0 ≤ p) (h1 : p ≤ n) (hl : xs.length = n) : 0 ≤ nextAt (winS xs p k).2 p k ∧ nextAt (winS xs p k).2 p k ≤ n := by
  unfold nextAt
  split
  · rename_i h
    have := winS_range xs p k h
    omega
  · omega
theorem foot_cur (hE : Ext w w') {w2 w3 : World} (h1 : Mod (fun k => k = gc) w' w2) (h2 : Mod (fun k => k = gr) w2 w3) : Mod (Foot gc gr A c B d n) w w3 :=
  ((hE.to _).trans' h1 fun _ _ e => .inl e).trans' h2 fun _ _ e => .inr (.inl e)

theorem own_form' {e size : Nat} {l : List Value} (h : w.ownsRow base e size (.slice A n c) n l) : n ≤ c := by
  obtain ⟨A', c', hv, hc, _⟩ := own_form h
  injection hv with _ _ h3
  omega
theorem stepped_spec {kind obj N : Int} (T : Twin w base gc gr A c B d n xs p) :
    Calls Try.prog 20 #[.pointer (some ⟨gc, 0, none⟩), .pointer (some ⟨gr, 0, none⟩), .slice A (n + 75) c, .agg #[.int .i64 kind, .int .i64 obj, .int .i64 N]] w
      fun e w' => e = .returned (.bool true) ∧ Mod (Foot gc gr A c B d n) w w' ∧ ∃ xs' p', Twin w' base gc gr A c B d n xs' p' := by
  refine weirlaw1_stepped_of _ _ A (n + 75) c kind obj N w _ ?_
  unfold weirlaw1_stepped_VC
  have hlen := T.len
  have hsm := T.small
  have hcap := T.cap
  refine NewVC.blk fun g1 w1 hg1 hz1 hE1 hb1 => ?_
  have T1 := T.ext hE1
  have hgc := T.cur.lt
  have hgr := T.ref.lt
  refine ⟨_, hb1.cell 0, Br.dec (fun _ => ?_) (fun _ => Br.dec (fun _ => ?_) (fun _ => Br.dec (fun _ => ?_) (fun _ => Br.dec (fun _ => ?_) (fun _ => Br.dec (fun _ => ?_) (fun _ => Br.dec (fun _ => ?_) (fun _ => ⟨rfl, hE1.to _, xs, p, T1⟩))))))⟩
  · refine JoinVC.of (fun b w' => Ext w1 w' ∧ (b = true → 0 ≤ N ∧ N < n)) ?_ ?_
    · intro w2 hw2
      have hE2 : Ext w1 w2 := by subst hw2; exact Ext.drew w1
      refine ⟨fun w' => Ext w1 w', hE2, N, fun w' h => (hb1.ext h).cell 2, Br.dec (fun h0 => ?_) (fun h0 => ⟨hE2, fun h => by cases h⟩)⟩
      exact ⟨N, fun w' h => (hb1.ext h).cell 2, _, rfl, _, _, _, fun w' h => (T1.ref.ext h).cell 0, hE2, fun h => ⟨h0, by simpa using h⟩⟩
    rintro b w3 ⟨hE3, hN⟩
    unfold weirlaw1_stepped_J106
    refine Br.intro (fun hb => ?_) (fun hb => ⟨rfl, (hE1.ext hE3).to _, xs, p, T1.ext hE3⟩)
    obtain ⟨hN0, hN1⟩ := hN hb
    have hb1 := hb1.ext hE3
    have T3 := T1.ext hE3
    have hL : (xs ++ wideTail 75).length = n + 75 := by simp [wideTail]; omega
    intro w4 hw4
    have hE4 : Ext w3 w4 := by subst hw4; exact Ext.drew w3
    have T4 := T3.ext hE4
    refine ⟨fun w' => Ext w3 w', hE4, N, fun w' h => (hb1.ext h).cell 2, N, fun w' h => (hb1.ext h).cell 2, ?_⟩
    refine IdxVC.draw (S := fun w' => Ext w3 w') hE4 (fun w' h => (own_cells T3.wide).ext h) hN0 (by omega) hL fun a hc => ⟨_, hc, ?_⟩
    generalize hv : IntKind.u8.wrap ((xs ++ wideTail 75).getD N.toNat 0 + 1) = v
    have hv0 : 0 ≤ v ∧ v < 256 := by subst hv; rw [u8_eq]; omega
    refine IdxVC.own T4.wide hN0 (by omega) (by omega) fun a1 _ hset => ?_
    refine hset _ _ rfl fun w5 hz5 hm5 hwide5 => ?_
    rw [map_set] at hwide5
    have hset1 : (xs ++ wideTail 75).set N.toNat v = xs.set N.toNat v ++ wideTail 75 := List.set_append_left _ _ (by omega)
    rw [hset1] at hwide5
    have hr5 := T4.ref.mod hm5 (fun e => (T4.neA _ e).2.1 rfl)
    have hc5 := T4.cur.mod hm5 (fun e => (T4.neA _ e).1 rfl)
    have ho5 := own_mod T4.own hm5 (fun k hk e => (T4.neA _ e).2.2 hk.symm)
    have hb5 := (hb1.ext hE4).mod hm5 (fun e => by have := (T.wide.lt _ e.symm).2; omega)
    intro w6 hw6
    have hE6 : Ext w5 w6 := by subst hw6; exact Ext.drew w5
    have hL2 : (xs.set N.toNat v ++ wideTail 75).length = n + 75 := by simp [wideTail]; omega
    refine ⟨fun w' => Ext w5 w', hE6, _, rfl, _, _, _, fun w' h => (hr5.ext h).cell 0, N, fun w' h => (hb5.ext h).cell 2, N, fun w' h => (hb5.ext h).cell 2, ?_⟩
    refine IdxVC.draw (S := fun w' => Ext w5 w') hE6 (fun w' h => (own_cells hwide5).ext h) hN0 (by omega) hL2 fun a2 hc2 => ⟨_, hc2, ?_⟩
    have hgv : (xs.set N.toNat v ++ wideTail 75).getD N.toNat 0 = v := by
      have : N.toNat < xs.length := by omega
      simp [List.getElem?_append_left, this]
    rw [hgv]
    refine IdxVC.own (own_ext ho5 hE6) hN0 hN1 hN1 fun a3 _ hset3 => ?_
    refine hset3 _ _ rfl fun w7 hz7 hm7 hown7 => ?_
    rw [map_set] at hown7
    refine ⟨rfl, ?_, xs.set N.toNat v, p, ?_⟩
    · exact ((((hE1.ext hE3).ext hE4).to _).trans' hm5 fun k _ e => .inr (.inr (.inl e))).trans' ((hE6.to _).trans hm7) fun k _ e => .inr (.inr (.inr e))
    · refine { T with cur := ?_, ref := ?_, wide := ?_, own := hown7, len := by simpa using hlen, bts := T.bts.set _ hv0.1 hv0.2 }
      · exact (hc5.ext hE6).mod hm7 fun e => (T.neB _ e).1 rfl
      · exact (hr5.ext hE6).mod hm7 fun e => (T.neB _ e).2 rfl
      · exact own_mod (own_ext hwide5 hE6) hm7 fun k hk e => (T.neA k hk.symm).2.2 e
  · refine ⟨_, hb1.cell 2, ?_⟩
    refine (curUint_spec T1.cur T1.curCells T.len T.bts (by omega) (by omega)).mono ?_
    rintro _ w8 ⟨hm8, rfl, hb8⟩
    refine ⟨_, _, rfl, _, (hb1.mod hm8 (fun e => by omega)).cell 2, ?_⟩
    refine (refCUint_spec (T1.ref.mod hm8 (fun e => T.ne e.symm)) (own_cells (own_mod T1.own hm8 fun k hk => (T.neB k hk.symm).1)) T.len T.bts (by omega) (own_form' T.own)).mono ?_
    rintro _ w9 ⟨hm9, rfl, hb9⟩
    refine ⟨_, _, rfl, Br.yes rfl ?_⟩
    refine (num_spec _ w9).mono ?_
    rintro _ w10 ⟨rfl, rfl⟩
    have hr := nextAt_uint (k := N) T.p0 T.p1 T.len
    exact ⟨_, rfl, by rw [decide_eq_true rfl], foot_cur hE1 hm8 hm9, xs, _, T1.step hm8 hb8 hm9 hb9 hr.1 hr.2⟩
  · refine ⟨_, hb1.cell 2, ?_⟩
    refine (curWindow_spec T1.cur T1.curCells T.len (by omega) (by omega)).mono ?_
    rintro _ w8 ⟨hm8, ⟨A1, c1, rfl, -, hA1, hcw⟩, hb8⟩
    refine ⟨_, _, _, _, rfl, _, (hb1.mod hm8 (fun e => by omega)).cell 2, ?_⟩
    refine (refCWindow_spec (T1.ref.mod hm8 (fun e => T.ne e.symm)) (own_cells (own_mod T1.own hm8 fun k hk => (T.neB k hk.symm).1)) T.len (by omega) (own_form' T.own)).mono ?_
    rintro _ w9 ⟨hm9, ⟨A2, c2, rfl, hown2⟩, hb9⟩
    have hr := nextAt_win (k := N) T.p0 T.p1 T.len
    have T9 := T1.step hm8 hb8 hm9 hb9 hr.1 hr.2
    refine ⟨_, _, _, _, rfl, ?_⟩
    refine (same_spec (winCells T9.curCells hcw hA1) (own_cells hown2) rfl rfl (winS_bts T.bts _ _) (winS_bts T.bts _ _)).mono ?_
    rintro _ w10 ⟨rfl, rfl⟩
    refine ⟨_, rfl, Br.yes rfl ?_⟩
    refine (num_spec _ w9).mono ?_
    rintro _ w11 ⟨rfl, rfl⟩
    exact ⟨_, rfl, by rw [decide_eq_true rfl], foot_cur hE1 hm8 hm9, xs, _, T9⟩
  · refine ⟨_, hb1.cell 2, ?_⟩
    refine (curSkip_spec T1.cur T1.curCells T.len (by omega) (by omega)).mono ?_
    rintro _ w8 ⟨hm8, rfl, hb8⟩
    refine ⟨_, rfl, _, (hb1.mod hm8 (fun e => by omega)).cell 2, ?_⟩
    refine (refSkip_spec (T1.ref.mod hm8 (fun e => T.ne e.symm)) (own_cells (own_mod T1.own hm8 fun k hk => (T.neB k hk.symm).1)) T.len (by omega) (own_form' T.own)).mono ?_
    rintro _ w9 ⟨hm9, rfl, hb9⟩
    have hr := nextAt_win (k := N) T.p0 T.p1 T.len
    refine ⟨_, rfl, ?_⟩
    refine (num_spec _ w9).mono ?_
    rintro _ w11 ⟨rfl, rfl⟩
    exact ⟨_, rfl, by rw [decide_eq_true rfl], foot_cur hE1 hm8 hm9, xs, _, T1.step hm8 hb8 hm9 hb9 hr.1 hr.2⟩
  · refine (curLeft_spec T1.cur T.p0 T.p1 (by omega)).mono ?_
    rintro _ w8 ⟨hE8, rfl⟩
    refine ⟨_, rfl, ?_⟩
    intro w9 hw9
    have hE9 : Ext w8 w9 := by subst hw9; exact Ext.drew w8
    have T8 := T1.ext hE8
    have := T.p0
    have := T.p1
    refine ⟨fun w' => Ext w8 w', hE9, _, rfl, _, _, _, fun w' h => (T8.ref.ext h).cell 0, _, rfl, _, fun w' h => (T8.ref.ext h).cell 1, ?_, ((hE1.ext hE8).ext hE9).to _, xs, p, T8.ext hE9⟩
    rw [w64 (by omega) (by omega), decide_eq_true rfl]
  · refine (curPlace_spec T1.cur).mono ?_
    rintro _ w8 ⟨rfl, rfl⟩
    exact ⟨_, rfl, _, rfl, _, T1.ref.cell 1, by rw [decide_eq_true rfl], hE1.to _, xs, p, T1⟩
end
end Go.Proofs.Ytdchpilghgnnoaa
