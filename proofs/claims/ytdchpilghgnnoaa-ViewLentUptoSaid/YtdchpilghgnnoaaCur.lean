/- Cursors and their twins. -/
import Derived.Test.YtdchpilghgnnoaaL4
namespace Go.Eng
open Go Go.RowKit
theorem Mod.to {w w' : World} (h : Mod None w w') (M : Nat → Prop) : Mod M w w' := Ext.to h M
section
variable {w w' : World} {base e n c : Nat} {A : Option Addr} {xs : List Value}
/-- A place in a row of the call's own: what stands there, and that it may be written. -/
theorem IdxVC.own {m : Nat} {i : Int} {F : Addr → Prop} (hown : w.ownsRow base e 1 (.slice A n c) n xs) (h0 : 0 ≤ i) (h1 : i < n) (h2 : i < m)
    (hF : ∀ a, w.cell? a = xs[i.toNat]? → (∀ v K, v.oneCell' = true → (∀ w', w'.heap.size = w.heap.size → Mod (fun k => some k = (Value.slice A n c).ownBlock) w w' → w'.ownsRow base e 1 (.slice A n c) n (xs.set i.toNat v) → K w') → SetVC w a v K) → F a) :
    IdxVC A m 1 i F := by
  have hl := hown.1
  rcases hown.2 with ⟨hv, h0'⟩ | ⟨g, cap, cur, hv, hb, hg, hc, hm, hs, ht⟩
  · omega
  · injection hv with hA _ hcap
    subst hA; subst hcap
    have hcur : i.toNat < cur.size := by omega
    have hcell : w.cell? ⟨g, i.toNat, none⟩ = some cur[i.toNat] := by
      rw [cell_of_row w g i.toNat cur e (0, 0) hg]; simp [hcur]
    have hx : xs[i.toNat]? = some cur[i.toNat] := by
      rw [← ht, List.getElem?_take, if_pos (by omega)]; simp [hcur]
    refine ⟨_, rfl, h0, h2, ?_⟩
    rw [addr_add, Nat.zero_add, Nat.mul_one]
    refine hF _ (hcell.trans hx.symm) fun v K hv1 hK => ?_
    refine ⟨⟨_, hcell⟩, frozen_of_row w g i.toNat cur e hg, fun w' hw' => hK w' (by subst hw'; simp) ?_ ?_⟩
    · subst hw'
      exact (Mod.setCell w ⟨g, i.toNat, none⟩ v).mono fun k _ hk => by simp [Value.ownBlock]; exact hk
    · refine ⟨by simpa using hl, .inr ⟨g, c, cur.set! i.toNat v, rfl, hb, ?_, hc, hm, by simpa using hs, ?_⟩⟩
      · subst hw'
        simp [World.setCell, Array.getElem?_modify, hg]
      · rw [← ht]
        simp [List.take_set]
end
end Go.Eng
namespace Go.Proofs.Ytdchpilghgnnoaa
open Go.Eng Go.RowKit

section
variable {w : World} {g n c : Nat} {A : Option Addr} {xs : List Int} {p k : Int}
def nextAt (err p k : Int) : Int := if err = 0 then p + k else p
theorem uintS_range (xs : List Int) (p k : Int) (h : (uintS xs p k).2 = 0) : 1 ≤ k ∧ 0 ≤ p ∧ p + k ≤ xs.length := by
  unfold uintS at h
  split at h
  · simp at h
  · split at h
    · omega
    · simp at h
theorem winS_range (xs : List Int) (p k : Int) (h : (winS xs p k).2 = 0) : 0 ≤ k ∧ 0 ≤ p ∧ p + k ≤ xs.length := by
  unfold winS at h
  split at h
  · omega
  · simp only at h; split at h <;> omega
theorem At_spec : Calls Try.prog 17 #[.slice A n c] w fun e w' => Ext w w' ∧ e = .returned (.pointer (some ⟨w.heap.size, 0, none⟩)) ∧ Blk w' w.heap.size 94 [.slice A n c, .int .i64 0] := by
  refine view_At_of A n c w _ ?_
  unfold view_At_VC
  refine NewVC.blk fun g1 w1 hg1 hz1 hE1 hb1 => ?_
  subst hg1
  exact ⟨hE1, rfl, hb1⟩
theorem winCells {w1 : World} {A' : Option Addr} (hc : Cells w A (xs.map (.int .u8))) (hw : Cells w1 A' ((winS xs p k).1.map (.int .u8))) (hA : 0 < (winS xs p k).1.length → A' = A.map (·.add p.toNat)) : Cells w A' ((winS xs p k).1.map (.int .u8)) := by
  by_cases h0 : (winS xs p k).1.length = 0
  · rw [List.eq_nil_of_length_eq_zero h0]; exact Cells.nil _ _
  · rw [hA (by omega)]
    unfold winS at h0 ⊢
    split
    · rename_i hr
      rw [if_pos hr] at h0
      have := Cells.win hc (p := p) (k := k)
      rw [if_neg (by intro e; subst e; simp at h0)] at this
      rw [List.map_take, List.map_drop]; exact this
    · rename_i hr
      rw [if_neg hr] at h0; simp at h0
theorem curUint_spec (hb : Blk w g 94 [.slice A n c, .int .i64 p]) (hc : Cells w A (xs.map (.int .u8))) (hl : xs.length = n) (hB : Bts xs) (hn : n ≤ 1048700) (_hnc : n ≤ c) :
    Calls Try.prog 18 #[.pointer (some ⟨g, 0, none⟩), .int .i64 k] w fun e w' => Mod (fun k => k = g) w w' ∧ e = .returned (.tuple #[.int .u64 (uintS xs p k).1, .int .i64 (uintS xs p k).2]) ∧
      Blk w' g 94 [.slice A n c, .int .i64 (nextAt (uintS xs p k).2 p k)] := by
  refine view_Cursor_Uint_of _ k w _ ?_
  unfold view_Cursor_Uint_VC
  intro w1 hw1
  have hE : Ext w w1 := by subst hw1; exact Ext.drew w
  refine ⟨fun w' => Ext w w', hE, _, rfl, _, _, _, fun w' h => (hb.ext h).cell 0, _, rfl, _, fun w' h => (hb.ext h).cell 1, ?_⟩
  refine (uint_spec (hc.ext hE) hl hB (by omega)).mono ?_
  rintro _ w2 ⟨hE2, rfl⟩
  refine ⟨_, _, rfl, (hE.ext hE2), Br.dec (fun h0 => ?_) (fun h0 => ?_)⟩
  · have hr := uintS_range xs p k h0
    refine ⟨_, rfl, _, (hb.ext (hE.ext hE2)).cell 1, _, rfl, ?_⟩
    refine SetVC.blk (g := g) (i := 1) (hb.ext (hE.ext hE2)) (by simp) fun w3 hz3 hm3 hb3 => ?_
    rw [w64 (n := p + k) (by omega) (by omega)] at hb3
    refine ⟨(((hE.ext hE2)).to _).trans hm3, rfl, ?_⟩
    unfold nextAt
    rw [if_pos h0]
    exact hb3
  · refine ⟨((hE.ext hE2)).to _, rfl, ?_⟩
    unfold nextAt
    rw [if_neg h0]
    exact hb.ext (hE.ext hE2)
theorem refCUint_spec (hb : Blk w g 34 [.slice A n c, .int .i64 p]) (hc : Cells w A (xs.map (.int .u8))) (hl : xs.length = n) (hB : Bts xs) (hn : n ≤ 1048700) (_hnc : n ≤ c) :
    Calls Try.prog 47 #[.pointer (some ⟨g, 0, none⟩), .int .i64 k] w fun e w' => Mod (fun k => k = g) w w' ∧ e = .returned (.tuple #[.int .u64 (uintS xs p k).1, .int .i64 (uintS xs p k).2]) ∧
      Blk w' g 34 [.slice A n c, .int .i64 (nextAt (uintS xs p k).2 p k)] := by
  refine weirref1_Cursor_Uint_of _ k w _ ?_
  unfold weirref1_Cursor_Uint_VC
  intro w1 hw1
  have hE : Ext w w1 := by subst hw1; exact Ext.drew w
  refine ⟨fun w' => Ext w w', hE, _, rfl, _, _, _, fun w' h => (hb.ext h).cell 0, _, rfl, _, fun w' h => (hb.ext h).cell 1, ?_⟩
  refine (refUint_spec (hc.ext hE) hl hB (by omega)).mono ?_
  rintro _ w2 ⟨rfl, rfl⟩
  refine ⟨_, _, rfl, hE, Br.dec (fun h0 => ?_) (fun h0 => ?_)⟩
  · have hr := uintS_range xs p k h0
    refine ⟨_, rfl, _, (hb.ext hE).cell 1, _, rfl, ?_⟩
    refine SetVC.blk (g := g) (i := 1) (hb.ext hE) (by simp) fun w3 hz3 hm3 hb3 => ?_
    rw [w64 (n := p + k) (by omega) (by omega)] at hb3
    refine ⟨((hE).to _).trans hm3, rfl, ?_⟩
    unfold nextAt
    rw [if_pos h0]
    exact hb3
  · refine ⟨(hE).to _, rfl, ?_⟩
    unfold nextAt
    rw [if_neg h0]
    exact hb.ext hE
theorem curWindow_spec (hb : Blk w g 94 [.slice A n c, .int .i64 p]) (hc : Cells w A (xs.map (.int .u8))) (hl : xs.length = n) (hn : n ≤ 1048700) (hnc : n ≤ c) :
    Calls Try.prog 35 #[.pointer (some ⟨g, 0, none⟩), .int .i64 k] w fun e w' => Mod (fun k => k = g) w w' ∧ (∃ A' c', e = .returned (.tuple #[.slice A' (winS xs p k).1.length c', .int .i64 (winS xs p k).2]) ∧
      c' = (winS xs p k).1.length ∧ (0 < (winS xs p k).1.length → A' = A.map (·.add p.toNat)) ∧ Cells w A' ((winS xs p k).1.map (.int .u8))) ∧ Blk w' g 94 [.slice A n c, .int .i64 (nextAt (winS xs p k).2 p k)] := by
  refine view_Cursor_Window_of _ k w _ ?_
  unfold view_Cursor_Window_VC
  intro w1 hw1
  have hE : Ext w w1 := by subst hw1; exact Ext.drew w
  have hsz : w1.heap.size = w.heap.size := by subst hw1; rfl
  refine ⟨fun w' => Ext w w', hE, _, rfl, _, _, _, fun w' h => (hb.ext h).cell 0, _, rfl, _, fun w' h => (hb.ext h).cell 1, ?_⟩
  refine (window_fn (hc.ext hE) hl hnc (by omega)).mono ?_
  rintro _ w2 ⟨hE2, A', rfl, hw, hA⟩
  have hE2 := hE.ext hE2
  have hcw : Cells w A' ((winS xs p k).1.map (.int .u8)) := winCells hc hw hA
  refine ⟨_, _, _, _, rfl, hE2, Br.dec (fun h0 => ?_) (fun h0 => ?_)⟩
  · have hr := winS_range xs p k h0
    refine ⟨_, rfl, _, (hb.ext hE2).cell 1, _, rfl, ?_⟩
    refine SetVC.blk (g := g) (i := 1) (hb.ext hE2) (by simp) fun w3 hz3 hm3 hb3 => ?_
    rw [w64 (n := p + k) (by omega) (by omega)] at hb3
    refine ⟨(hE2.to _).trans hm3, ⟨A', _, rfl, rfl, hA, hcw⟩, ?_⟩
    unfold nextAt
    rw [if_pos h0]
    exact hb3
  · refine ⟨hE2.to _, ⟨A', _, rfl, rfl, hA, hcw⟩, ?_⟩
    unfold nextAt
    rw [if_neg h0]
    exact hb.ext hE2
theorem curSkip_spec (hb : Blk w g 94 [.slice A n c, .int .i64 p]) (hc : Cells w A (xs.map (.int .u8))) (hl : xs.length = n) (hn : n ≤ 1048700) (hnc : n ≤ c) :
    Calls Try.prog 34 #[.pointer (some ⟨g, 0, none⟩), .int .i64 k] w fun e w' => Mod (fun k => k = g) w w' ∧ e = .returned (.int .i64 (winS xs p k).2) ∧
      Blk w' g 94 [.slice A n c, .int .i64 (nextAt (winS xs p k).2 p k)] := by
  refine view_Cursor_Skip_of _ k w _ ?_
  unfold view_Cursor_Skip_VC
  refine (curWindow_spec hb hc hl hn hnc).mono ?_
  rintro _ w2 ⟨hm, ⟨A', c', rfl, -⟩, hb'⟩
  exact ⟨_, _, _, _, rfl, hm, rfl, hb'⟩
theorem refCWindow_spec (hb : Blk w g 34 [.slice A n c, .int .i64 p]) (hc : Cells w A (xs.map (.int .u8))) (hl : xs.length = n) (hn : n ≤ 1048700) (_hnc : n ≤ c) :
    Calls Try.prog 48 #[.pointer (some ⟨g, 0, none⟩), .int .i64 k] w fun e w' => Mod (fun k => k = g) w w' ∧ (∃ A' c', e = .returned (.tuple #[.slice A' (winS xs p k).1.length c', .int .i64 (winS xs p k).2]) ∧
      w'.ownsRow w.heap.size 5 1 (.slice A' (winS xs p k).1.length c') (winS xs p k).1.length ((winS xs p k).1.map (.int .u8))) ∧ Blk w' g 34 [.slice A n c, .int .i64 (nextAt (winS xs p k).2 p k)] := by
  refine weirref1_Cursor_Window_of _ k w _ ?_
  unfold weirref1_Cursor_Window_VC
  intro w1 hw1
  have hE : Ext w w1 := by subst hw1; exact Ext.drew w
  have hsz : w1.heap.size = w.heap.size := by subst hw1; rfl
  refine ⟨fun w' => Ext w w', hE, _, rfl, _, _, _, fun w' h => (hb.ext h).cell 0, _, rfl, _, fun w' h => (hb.ext h).cell 1, ?_⟩
  refine (refWindow_fn (hc.ext hE) hl (by omega)).mono ?_
  rintro _ w2 ⟨hE2, A', c', rfl, hw⟩
  have hE2 := hE.ext hE2
  rw [hsz] at hw
  refine ⟨_, _, _, _, rfl, hE2, Br.dec (fun h0 => ?_) (fun h0 => ?_)⟩
  · have hr := winS_range xs p k h0
    refine ⟨_, rfl, _, (hb.ext hE2).cell 1, _, rfl, ?_⟩
    refine SetVC.blk (g := g) (i := 1) (hb.ext hE2) (by simp) fun w3 hz3 hm3 hb3 => ?_
    rw [w64 (n := p + k) (by omega) (by omega)] at hb3
    refine ⟨(hE2.to _).trans hm3, ⟨A', _, rfl, own_mod hw hm3 fun k hk e => by have h1 := own_new hw k hk; have h2 := hb.lt; omega⟩, ?_⟩
    unfold nextAt
    rw [if_pos h0]
    exact hb3
  · refine ⟨hE2.to _, ⟨A', _, rfl, hw⟩, ?_⟩
    unfold nextAt
    rw [if_neg h0]
    exact hb.ext hE2
theorem refSkip_spec (hb : Blk w g 34 [.slice A n c, .int .i64 p]) (hc : Cells w A (xs.map (.int .u8))) (hl : xs.length = n) (hn : n ≤ 1048700) (hnc : n ≤ c) :
    Calls Try.prog 49 #[.pointer (some ⟨g, 0, none⟩), .int .i64 k] w fun e w' => Mod (fun k => k = g) w w' ∧ e = .returned (.int .i64 (winS xs p k).2) ∧
      Blk w' g 34 [.slice A n c, .int .i64 (nextAt (winS xs p k).2 p k)] := by
  refine weirref1_Cursor_Skip_of _ k w _ ?_
  unfold weirref1_Cursor_Skip_VC
  refine (refCWindow_spec hb hc hl hn hnc).mono ?_
  rintro _ w2 ⟨hm, ⟨A', c', rfl, -⟩, hb'⟩
  exact ⟨_, _, _, _, rfl, hm, rfl, hb'⟩
theorem curPlace_spec (hb : Blk w g 94 [.slice A n c, .int .i64 p]) : Calls Try.prog 46 #[.pointer (some ⟨g, 0, none⟩)] w fun e w' => w = w' ∧ e = .returned (.int .i64 p) := by
  refine view_Cursor_Place_of _ w _ ?_
  unfold view_Cursor_Place_VC
  exact ⟨_, rfl, _, hb.cell 1, rfl, rfl⟩
theorem curLeft_spec (hb : Blk w g 94 [.slice A n c, .int .i64 p]) (h0 : 0 ≤ p) (h1 : p ≤ n) (hn : n ≤ 140737488355328) :
    Calls Try.prog 21 #[.pointer (some ⟨g, 0, none⟩)] w fun e w' => Ext w w' ∧ e = .returned (.int .i64 (n - p)) := by
  refine view_Cursor_Left_of _ w _ ?_
  unfold view_Cursor_Left_VC
  intro w1 hw1
  have hE : Ext w w1 := by subst hw1; exact Ext.drew w
  refine ⟨fun w' => Ext w w', hE, _, rfl, _, _, _, fun w' h => (hb.ext h).cell 0, _, rfl, _, fun w' h => (hb.ext h).cell 1, hE, ?_⟩
  rw [w64 (by omega) (by omega)]
end

/-! ### A cursor over a wide room, and its twin over bytes of its own -/
structure Twin (w : World) (base gc gr : Nat) (A : Option Addr) (c : Nat) (B : Option Addr) (d n : Nat) (xs : List Int) (p : Int) : Prop where
  cur : Blk w gc 94 [.slice A n c, .int .i64 p]
  ref : Blk w gr 34 [.slice B n d, .int .i64 p]
  wide : w.ownsRow base 5 1 (.slice A (n + 75) c) (n + 75) ((xs ++ wideTail 75).map (.int .u8))
  own : w.ownsRow base 5 1 (.slice B n d) n (xs.map (.int .u8))
  len : xs.length = n
  bts : Bts xs
  p0 : 0 ≤ p
  p1 : p ≤ n
  small : n ≤ 1048576
  cap : n + 75 ≤ c
  ne : gc ≠ gr
  neA : ∀ k, some k = (Value.slice A (n + 75) c).ownBlock → k ≠ gc ∧ k ≠ gr ∧ some k ≠ (Value.slice B n d).ownBlock
  neB : ∀ k, some k = (Value.slice B n d).ownBlock → k ≠ gc ∧ k ≠ gr
def Foot (gc gr : Nat) (A : Option Addr) (c : Nat) (B : Option Addr) (d n : Nat) (k : Nat) : Prop :=
  k = gc ∨ k = gr ∨ some k = (Value.slice A (n + 75) c).ownBlock ∨ some k = (Value.slice B n d).ownBlock
section
variable {w w' : World} {base gc gr c d n : Nat} {A B : Option Addr} {xs : List Int} {p : Int}
theorem Twin.mod {M : Nat → Prop} (h : Twin w base gc gr A c B d n xs p) (hm : Mod M w w') (hn : ∀ k, Foot gc gr A c B d n k → ¬ M k) : Twin w' base gc gr A c B d n xs p :=
  { h with cur := h.cur.mod hm (hn _ (.inl rfl)), ref := h.ref.mod hm (hn _ (.inr (.inl rfl))), wide := own_mod h.wide hm (fun g hg => hn g (.inr (.inr (.inl hg.symm)))), own := own_mod h.own hm (fun g hg => hn g (.inr (.inr (.inr hg.symm)))) }
theorem Twin.ext (h : Twin w base gc gr A c B d n xs p) (hE : Ext w w') : Twin w' base gc gr A c B d n xs p := h.mod hE fun _ _ => id
theorem Twin.curCells (h : Twin w base gc gr A c B d n xs p) : Cells w A (xs.map (.int .u8)) := by
  have := (own_cells h.wide).take n
  rwa [List.map_append, List.take_append_of_le_length (by simp [h.len]), List.take_of_length_le (by simp [h.len])] at this
theorem Twin.foot_lt (h : Twin w base gc gr A c B d n xs p) : ∀ k, Foot gc gr A c B d n k → k < w.heap.size := by
  rintro k (rfl | rfl | hk | hk)
  · exact h.cur.lt
  · exact h.ref.lt
  · exact (h.wide.lt k hk.symm).2
  · exact (h.own.lt k hk.symm).2
/-- Both have gone on by as much. -/
theorem Twin.step {w1 w2 : World} {q : Int} (h : Twin w base gc gr A c B d n xs p) (h1 : Mod (fun k => k = gc) w w1) (b1 : Blk w1 gc 94 [.slice A n c, .int .i64 q])
    (h2 : Mod (fun k => k = gr) w1 w2) (b2 : Blk w2 gr 34 [.slice B n d, .int .i64 q]) (q0 : 0 ≤ q) (q1 : q ≤ n) : Twin w2 base gc gr A c B d n xs q := by
  have hs := h1.size
  refine { h with cur := b1.mod h2 h.ne, ref := b2, wide := ?_, own := ?_, p0 := q0, p1 := q1 }
  · exact own_mod (own_mod h.wide h1 fun k hk => (h.neA k hk.symm).1) h2 fun k hk => (h.neA k hk.symm).2.1
  · exact own_mod (own_mod h.own h1 fun k hk => (h.neB k hk.symm).1) h2 fun k hk => (h.neB k hk.symm).2
end
end Go.Proofs.Ytdchpilghgnnoaa
