/- Lists that are lengthened, and whether they stand. -/
import Derived.Test.YtdchpilghgnnoaaFil
namespace Go.Eng
open Go Go.RowKit
/-- append onto a slice that is full, from any slice that is not empty: new memory. -/
theorem AppVC.full' {P : Program} {w : World} {e n : Nat} {A A' : Option Addr} {xs : List Value} {t ty : TypeId} {z : Value} {bytes : Nat} (ht : P.underlying t = some (.slice e)) (hi : TypeIs P e z 1 bytes) (hzs : z.cells.size = 1)
    {m c' : Nat} {news : List Value} {F : Option Addr → Nat → Nat → World → Prop}
    (hd : Cells w A xs) (hl : xs.length = n) (hsrc : Cells w A' news) (hm : news.length = m) (h0 : 0 < m) (h1 : ∀ u ∈ news, u.oneCell' = true) (hbytes : (n + m) * bytes ≤ 140737488355328) (hb0 : 0 < bytes)
    (h : ∀ A2 c2 w', w'.ownsRow w.heap.size e 1 (.slice A2 (n + m) c2) (n + m) (xs ++ news) → Ext w w' → F A2 (n + m) c2 w') :
    AppVC P #[t, t] ty (.slice A n n) (.slice A' m c') w F := by
  obtain ⟨i, hi, hz, hs, hy⟩ := hi
  obtain ⟨a', ha', _⟩ := hsrc.at (i := 0) (by omega)
  subst ha'
  rcases A with _ | a
  · have hx : xs = [] := by
      rcases xs with _ | ⟨u, r⟩
      · rfl
      · obtain ⟨_, ha, _⟩ := hd 0 u rfl
        cases ha
    subst hx
    have hn0 : n = 0 := by simpa using hl.symm
    subst hn0
    refine AppVC.own ht hi hz hs hy hzs (by decide) (World.ownsRow_nil _ _ _ _) hsrc (by omega) h1 hbytes hb0 (Nat.le_refl _) fun A2 c2 w2 hown hm2 _ => ?_
    exact h A2 c2 w2 hown (hm2.mono fun k hk e => by simp [Value.ownBlock] at e)
  · have h63 : n + m ≤ maxLen := by
      have : (n + m) * 1 ≤ (n + m) * bytes := Nat.mul_le_mul_left _ hb0
      simp only [maxLen]; omega
    obtain ⟨v', w', hr, ho, hg⟩ := run_append_arg_grows (P := P) (w := w) t ty e i z 1 bytes ht hi hz hs hy hzs (by decide) a n n xs (by omega)
      (fun j u hu => by obtain ⟨a', ha, hc⟩ := hd j u hu; cases ha; exact hc) a' m c' news (by omega)
      (fun j u hu => by obtain ⟨b', ha, hc⟩ := hsrc j u hu; cases ha; exact hc) (by omega) h63 hbytes
    obtain ⟨A2, c2, rfl, _, _⟩ := own_form ho
    exact ⟨A2, n + m, c2, w', hr, h A2 c2 w' ho ((Mod.grown hg).mono fun k hk e => by cases e)⟩
theorem DrawVC.of {w : World} {B : (World → Prop) → World → Prop} (S : World → Prop) (h : ∀ w', Ext w w' → w'.heap.size = w.heap.size → S w' ∧ B S w') : DrawVC w B := fun w' hw => by
  subst hw
  exact ⟨S, h _ (Ext.drew w) rfl⟩
end Go.Eng
namespace Go.Proofs.Ytdchpilghgnnoaa
open Go.Eng Go.RowKit

def nOf (rows : List RowV) (i : Nat) : Nat := if h : i < rows.length then rows[i].n else 0
def contOf (rows : List RowV) (k : Nat) : List Int := List.replicate (nOf rows (k / 3)) (markOf (k / 3)) ++ List.replicate (moreBy k) (tailOf (k / 3))
def sv (p : Option Addr × Nat × Nat) : Value := .slice p.1 p.2.1 p.2.2
structure MoreAt (w : World) (base : Nat) (rows : List RowV) (MA : Option Addr) (mc i : Nat) (ms : List (Option Addr × Nat × Nat)) : Prop where
  len : ms.length = 3 * i
  own : w.ownsRow base 22 1 (.slice MA (3 * i) mc) (3 * i) (ms.map sv)
  each : ∀ k (h : k < ms.length), w.ownsRow base 5 1 (sv ms[k]) ms[k].2.1 ((contOf rows k).map (.int .u8))
  ne : ∀ k (h : k < ms.length), ∀ b, some b = (sv ms[k]).ownBlock → some b ≠ (Value.slice MA (3 * i) mc).ownBlock
/-- How the marked lists stand. -/
def Marked (w : World) (base : Nat) (PA : Option Addr) (rows : List RowV) : Prop := RowsAt w base PA rows fun i => List.replicate (nOf rows i) (markOf i)
theorem Marked.row {w : World} {base : Nat} {PA : Option Addr} {rows : List RowV} (h : Marked w base PA rows) {i : Nat} (hi : i < rows.length) : Cells w rows[i].A ((List.replicate rows[i].n (markOf i)).map (.int .u8)) := by
  have := h.own i hi
  simp only [nOf, dif_pos hi] at this
  exact own_cells this

set_option maxHeartbeats 2000000 in
theorem filled_more {w : World} {base m : Nat} {PA : Option Addr} {rows : List RowV} {R : Ending → World → Prop} (h : Marked w base PA rows) (hm : rows.length = m) (hm2 : m ≤ 1000) (hn : ∀ r ∈ rows, r.n ≤ 1048700)
    (hK : ∀ w' MA mc ms, Ext w w' → MoreAt w' w.heap.size rows MA mc m ms → R (.returned (.slice MA (3 * m) mc)) w') :
    LoopVC (S := (Option Addr × Nat × Nat) × Int) (fun s w4 K122 => weirlaw1_filled_L122 R PA m s.1.1 s.1.2.1 s.1.2.2 s.2 w4 K122) ((none, 0, 0), 0) w := by
  refine LoopVC.of (fun s w' => ∃ (i : Nat) (MA : Option Addr) (mc : Nat) (ms : List (Option Addr × Nat × Nat)), i ≤ m ∧ s = ((MA, 3 * i, mc), (i : Int)) ∧ Ext w w' ∧ MoreAt w' w.heap.size rows MA mc i ms) (fun s _ => ((m : Int) - s.2).toNat)
    ⟨0, none, 0, [], by omega, rfl, Mod.refl _ _, rfl, World.ownsRow_nil _ _ _ _, fun k hk => by simp at hk, fun k hk => by simp at hk⟩ ?_
  rintro _ w4 ⟨i, MA, mc, ms, hi, rfl, hE4, hM⟩
  show weirlaw1_filled_L122 R PA m MA (3 * i) mc (i : Int) w4 _
  unfold weirlaw1_filled_L122
  have hml := hM.len
  refine Br.dec (fun hlt => ?_) (fun hge => ?_)
  · have hil : i < rows.length := by omega
    have hni := hn _ (List.getElem_mem hil)
    have hcl : ∀ {w' : World}, Ext w w' → Cells w' PA (rows.map RowV.val) := fun hE => h.cells.ext hE
    have hrw : ∀ {w' : World}, Ext w w' → Cells w' rows[i].A ((List.replicate rows[i].n (markOf i)).map (.int .u8)) := fun hE => (h.row hil).ext hE
    have hread : ∀ {F : Addr → Prop}, (∀ a, (∀ w', Ext w w' → w'.cell? a = some (.slice rows[i].A rows[i].n rows[i].n)) → F a) → IdxVC PA m 1 (i : Int) F := fun {F} hF => by
      obtain ⟨a, ha, _⟩ := (hcl (Mod.refl None w)).at (i := i) (by simpa using hil)
      refine ⟨a, ha, by omega, hlt, hF _ fun w' hE => ?_⟩
      obtain ⟨a', ha', hc⟩ := (hcl hE).at (i := i) (by simpa using hil)
      rw [ha] at ha'; cases ha'
      rw [Int.toNat_natCast, Nat.mul_one, hc]; simp [RowV.val]
    refine DrawVC.of (fun w' => Ext w w') fun w5 hE5 hz5 => ⟨hE4.ext hE5, ?_⟩
    have hE05 := hE4.ext hE5
    refine hread fun a ha => ⟨_, _, _, ha, ?_⟩
    refine (tail_spec (i := i) (k := 1) (by omega) (by omega)).mono ?_
    rintro _ w6 ⟨hE6, TA, tc, rfl, htown⟩
    have hE06 := hE05.ext hE6
    refine ⟨_, _, _, rfl, hE06, ?_⟩
    refine AppVC.full' Try.underlying22 tyByte rfl (hrw hE06) (by simp) (own_cells htown) (by simp) (by omega) (ints_one _ _) (by omega) (by decide) fun G1 c1 w7 hg1 hE7 => ?_
    have hE07 := hE06.ext hE7
    refine ⟨hE07, DrawVC.of (fun w' => Ext w w') fun w8 hE8 hz8 => ⟨hE07.ext hE8, ?_⟩⟩
    have hE08 := hE07.ext hE8
    refine hread fun a ha => ⟨_, _, _, ha, ?_⟩
    refine (tail_spec (i := i) (k := 2) (by omega) (by omega)).mono ?_
    rintro _ w9 ⟨hE9, TA2, tc2, rfl, htown2⟩
    have hE09 := hE08.ext hE9
    refine ⟨_, _, _, rfl, hE09, ?_⟩
    refine AppVC.full' Try.underlying22 tyByte rfl (hrw hE09) (by simp) (own_cells htown2) (by simp) (by omega) (ints_one _ _) (by omega) (by decide) fun G2 c2 w10 hg2 hE10 => ?_
    have hE010 := hE09.ext hE10
    refine ⟨hE010, hread fun a ha => ⟨_, _, _, ha w10 hE010, ?_⟩⟩
    refine LoopVC.of (fun s w' => ∃ j : Nat, j ≤ 70 ∧ s.2 = (j : Int) ∧ s.1.2.1 = rows[i].n + j ∧ Ext w10 w' ∧ ((j = 0 ∧ s.1 = (rows[i].A, rows[i].n, rows[i].n)) ∨
      (0 < j ∧ w'.ownsRow w10.heap.size 5 1 (.slice s.1.1 s.1.2.1 s.1.2.2) s.1.2.1 ((List.replicate rows[i].n (markOf i) ++ List.replicate j (tailOf i)).map (.int .u8))))) (fun s _ => (70 - s.2).toNat)
      ⟨0, by omega, rfl, rfl, Mod.refl _ _, .inl ⟨rfl, rfl⟩⟩ ?_
    rintro ⟨⟨GA, gn, gc⟩, js⟩ w11 ⟨j, hj, hjs, hgn, hE11, hg⟩
    simp only at hjs hgn hg
    subst hjs; subst hgn
    show weirlaw1_filled_L125242 R MA (3 * i) mc (i : Int) _ G1 (rows[i].n + 1) c1 G2 (rows[i].n + 2) c2 GA (rows[i].n + j) gc (j : Int) w11 _
    unfold weirlaw1_filled_L125242
    have hE011 := hE010.ext hE11
    refine Br.dec (fun hjl => ?_) (fun hjg => ?_)
    · refine (tail_spec (i := i) (k := 1) (by omega) (by omega)).mono ?_
      rintro _ w12 ⟨hE12, TA3, tc3, rfl, htown3⟩
      refine ⟨_, _, _, rfl, ?_⟩
      rw [w64 (n := (j : Int) + 1) (by omega) (by omega)]
      rcases hg with ⟨rfl, hge⟩ | ⟨hj0, hown⟩
      · simp only [Prod.mk.injEq] at hge
        obtain ⟨rfl, -, rfl⟩ := hge
        refine AppVC.full' Try.underlying22 tyByte rfl (hrw (hE011.ext hE12)) (by simp) (own_cells htown3) (by simp) (by omega) (ints_one _ _) (by omega) (by decide) fun G3 c3 w13 hg3 hE13 => ?_
        refine ⟨⟨1, by omega, rfl, rfl, (hE11.ext hE12).ext hE13, .inr ⟨by omega, ?_⟩⟩, by simp only; omega⟩
        have hs := (hE11.ext hE12).size
        rw [List.map_append]
        exact own_base hg3 hs
      · have hs := (hE11.ext hE12).size
        refine AppVC.own (i := Classical.choose tyByte) Try.underlying22 (Classical.choose_spec tyByte).1 (Classical.choose_spec tyByte).2.1 (Classical.choose_spec tyByte).2.2.1 (Classical.choose_spec tyByte).2.2.2 rfl (by decide)
          (own_ext hown hE12) (own_cells htown3) (by simp) (ints_one _ _) (by omega) (by decide) hs fun G3 c3 w13 hg3 hm13 hc13 => ?_
        refine ⟨⟨j + 1, by omega, by simp only; omega, by simp only; omega, Ext.own (hE11.ext hE12) (own_ext hown hE12) hm13, .inr ⟨by omega, ?_⟩⟩, by simp only; omega⟩
        have e : (List.replicate rows[i].n (markOf i) ++ List.replicate (j + 1) (tailOf i)).map (Value.int .u8) = (List.replicate rows[i].n (markOf i) ++ List.replicate j (tailOf i)).map (Value.int .u8) ++ (List.replicate 1 (tailOf i)).map (Value.int .u8) := by
          rw [List.replicate_succ', ← List.append_assoc, List.map_append]; rfl
        rw [e]; exact hg3
    · have hj70 : j = 70 := by omega
      subst hj70
      rcases hg with ⟨h70, -⟩ | ⟨-, hown⟩
      · omega
      have s4 := hE4.size
      have s6 := hE06.size
      have hw4w6 : w4.heap.size ≤ w6.heap.size := (hE5.ext hE6).size
      have hw4w9 : w4.heap.size ≤ w9.heap.size := (((hE5.ext hE6).ext hE7).ext (hE8.ext hE9)).size
      have hw4w10 : w4.heap.size ≤ w10.heap.size := ((((hE5.ext hE6).ext hE7).ext (hE8.ext hE9)).ext hE10).size
      have hE411 : Ext w4 w11 := ((((hE5.ext hE6).ext hE7).ext (hE8.ext hE9)).ext hE10).ext hE11
      refine NewVC.blk fun g1 w14 hg1' hz14 hE14 hb14 => ?_
      have hE414 := hE411.ext hE14
      have hltM : ∀ b, some b = (Value.slice MA (3 * i) mc).ownBlock → b < w4.heap.size := fun b hb => (hM.own.lt b hb.symm).2
      refine AppVC.at Try.underlying50 tySlice rfl (own_ext hM.own hE414) (by simpa using Cells.of_blk hb14 0) (m := 3) rfl (by simp [Value.oneCell']) (by omega) (by decide) (by have := (hE4.ext hE414).size; omega) fun MA' mc' w15 hmo hm15 hmc hn15 => ?_
      rw [w64 (n := (i : Int) + 1) (by omega) (by omega)]
      have hE1015 : ∀ {v : Value} {nn : Nat} {xs : List Value} {b0 : Nat}, w14.ownsRow b0 5 1 v nn xs → w4.heap.size ≤ b0 → w15.ownsRow b0 5 1 v nn xs := fun {v nn xs b0} ho hb0 => own_mod ho hm15 fun k hk e => by
        have := hltM k e
        have := own_new ho k hk
        omega
      have hG1 := hE1015 (own_ext hg1 (((hE8.ext hE9).ext hE10).ext (hE11.ext hE14))) hw4w6
      have hG2 := hE1015 (own_ext hg2 (hE11.ext hE14)) hw4w9
      have hG3 := hE1015 (own_ext hown hE14) hw4w10
      rw [← List.map_append] at hG1 hG2
      have hfresh : ∀ {v : Value} {nn : Nat} {xs : List Value} {b0 : Nat}, w14.ownsRow b0 5 1 v nn xs → w4.heap.size ≤ b0 → ∀ b, some b = v.ownBlock → some b ≠ (Value.slice MA' (3 * i + 3) mc').ownBlock := fun {v nn xs b0} ho hb0 b hb e => by
        have h1 := ho.lt b hb.symm
        rcases hn15 b e with e' | e'
        · have := hltM b e'; omega
        · omega
      have e3 : 3 * (i + 1) = 3 * i + 3 := by omega
      refine ⟨⟨i + 1, MA', mc', ms ++ [(G1, rows[i].n + 1, c1), (G2, rows[i].n + 2, c2), (GA, rows[i].n + 70, gc)], by omega, by rw [e3, show ((i + 1 : Nat) : Int) = (i : Int) + 1 by omega], ?_, by simp; omega, ?_, fun k hk => ?_, fun k hk b hb => ?_⟩, by simp only; omega⟩
      · exact (hE4.ext hE414).trans' hm15 fun k hk e => by have := own_new hM.own k e.symm; omega
      · rw [e3, List.map_append]; exact hmo
      · have hnr : nOf rows i = rows[i].n := by unfold nOf; rw [dif_pos hil]
        by_cases hkl : k < ms.length
        · simp only [List.getElem_append_left hkl]
          exact own_mod (own_ext (hM.each k hkl) hE414) hm15 fun b hb e => hM.ne k hkl b hb.symm e
        · have hk3 : k = 3 * i ∨ k = 3 * i + 1 ∨ k = 3 * i + 2 := by simp at hk; omega
          have hdv : k / 3 = i := by omega
          have hge : ms.length ≤ k := by omega
          simp only [List.getElem_append_right hge]
          unfold contOf
          rw [hdv, hnr]
          rcases hk3 with rfl | rfl | rfl
          · have ek : 3 * i - ms.length = 0 := by omega
            have em : moreBy (3 * i) = 1 := by unfold moreBy; rw [if_pos (by omega)]
            simp only [ek, em, List.getElem_cons_zero, sv]
            exact own_base hG1 (by omega)
          · have ek : 3 * i + 1 - ms.length = 1 := by omega
            have em : moreBy (3 * i + 1) = 2 := by unfold moreBy; rw [if_neg (by omega), if_pos (by omega)]
            simp only [ek, em, List.getElem_cons_succ, List.getElem_cons_zero, sv]
            exact own_base hG2 (by omega)
          · have ek : 3 * i + 2 - ms.length = 2 := by omega
            have em : moreBy (3 * i + 2) = 70 := by unfold moreBy; rw [if_neg (by omega), if_neg (by omega)]
            simp only [ek, em, List.getElem_cons_succ, List.getElem_cons_zero, sv]
            exact own_base hG3 (by omega)
      · rw [e3]
        by_cases hkl : k < ms.length
        · simp only [List.getElem_append_left hkl] at hb
          intro e
          have hlt' := (hM.each k hkl).lt b hb.symm
          rcases hn15 b e with e' | e'
          · exact hM.ne k hkl b hb e'
          · have := hE414.size; omega
        · have hk3 : k = 3 * i ∨ k = 3 * i + 1 ∨ k = 3 * i + 2 := by simp at hk; omega
          have hge : ms.length ≤ k := by omega
          simp only [List.getElem_append_right hge] at hb
          rcases hk3 with rfl | rfl | rfl
          · have ek : 3 * i - ms.length = 0 := by omega
            simp only [ek, List.getElem_cons_zero, sv] at hb
            exact hfresh (own_ext hg1 (((hE8.ext hE9).ext hE10).ext (hE11.ext hE14))) hw4w6 b hb
          · have ek : 3 * i + 1 - ms.length = 1 := by omega
            simp only [ek, List.getElem_cons_succ, List.getElem_cons_zero, sv] at hb
            exact hfresh (own_ext hg2 (hE11.ext hE14)) hw4w9 b hb
          · have ek : 3 * i + 2 - ms.length = 2 := by omega
            simp only [ek, List.getElem_cons_succ, List.getElem_cons_zero, sv] at hb
            exact hfresh (own_ext hown hE14) hw4w10 b hb
  · have him : i = m := by omega
    subst him
    exact hK w4 MA mc ms hE4 hM
end Go.Proofs.Ytdchpilghgnnoaa
