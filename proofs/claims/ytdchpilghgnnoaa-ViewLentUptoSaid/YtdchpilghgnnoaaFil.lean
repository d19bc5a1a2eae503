/- Lists that are written full and lengthened (filled), and whether they stand. -/
import Derived.Test.YtdchpilghgnnoaaBld4
namespace Go.Eng
open Go Go.RowKit
/-- One list: where it lies, how long it is. -/
structure RowV where
  A : Option Addr
  n : Nat
def RowV.val (r : RowV) : Value := .slice r.A r.n r.n
def RF (rows : List RowV) (k : Nat) : Prop := ∃ r ∈ rows, some k = r.val.ownBlock
def markOf (i : Nat) : Int := 1 + ((i % 250 : Nat) : Int)
def tailOf (i : Nat) : Int := 251 + ((i % 5 : Nat) : Int)
/-- How many stand behind the k-th of the lengthened ones. -/
def moreBy (k : Nat) : Nat := if k % 3 = 0 then 1 else if k % 3 = 1 then 2 else 70
end Go.Eng
namespace Go.Proofs.Ytdchpilghgnnoaa
open Go.Eng Go.RowKit

theorem tySlice : TypeIs Try.prog 22 (.slice none 0 0) 1 24 := .of (by kernel_rfl)
theorem tail_spec {i k : Nat} {w : World} (hi : i ≤ 1048576) (hk : k ≤ 100) :
    Calls Try.prog 71 #[.int .i64 (i : Int), .int .i64 (k : Int)] w fun e w' => Ext w w' ∧ ∃ A c, e = .returned (.slice A k c) ∧ w'.ownsRow w.heap.size 5 1 (.slice A k c) k ((List.replicate k (tailOf i)).map (.int .u8)) := by
  refine weirlaw1_tail_of _ _ w _ ?_
  unfold weirlaw1_tail_VC
  refine LoopVC.of (fun s w' => ∃ j : Nat, j ≤ k ∧ s.2.1 = j ∧ Ext w w' ∧ w'.ownsRow w.heap.size 5 1 (.slice s.1 j s.2.2) j ((List.replicate j (tailOf i)).map (.int .u8))) (fun s _ => k - s.2.1) ⟨0, by omega, rfl, Mod.refl _ _, World.ownsRow_nil _ _ _ _⟩ ?_
  rintro ⟨A, ln, c⟩ w1 ⟨j, hj, hjl, hE, hown⟩
  simp only at hjl hown
  subst hjl
  show weirlaw1_tail_L28 _ (i : Int) (k : Int) A ln c w1 _
  unfold weirlaw1_tail_L28
  have em : Int.tmod (i : Int) 5 = ((i % 5 : Nat) : Int) := by rw [Int.tmod_eq_emod_of_nonneg (by omega)]; omega
  refine Br.dec (fun hlt => ?_) (fun hge => ?_)
  · rw [em, w64 (n := 251 + ((i % 5 : Nat) : Int)) (by omega) (by omega), wu8 (by omega) (by omega)]
    refine AppVC.one Try.underlying22 tyByte rfl hown rfl (by omega) (by decide) hE.size fun A2 c2 w2 hown2 hm2 _ => ?_
    refine ⟨⟨ln + 1, by omega, rfl, Ext.own hE hown hm2, ?_⟩, by simp only; omega⟩
    rw [List.replicate_succ', List.map_append]; exact hown2
  · have : ln = k := by omega
    subst this
    exact ⟨hE, A, c, rfl, hown⟩

/-- The lists as they are handed over: each a full row of the call's own, no two in one block. -/
structure RowsAt (w : World) (base : Nat) (PA : Option Addr) (rows : List RowV) (Ls : Nat → List Int) : Prop where
  own : ∀ i (h : i < rows.length), w.ownsRow base 5 1 rows[i].val rows[i].n ((Ls i).map (.int .u8))
  dis : ∀ i j (h : i < rows.length) (h' : j < rows.length), i ≠ j → ∀ k, some k = rows[i].val.ownBlock → some k ≠ rows[j].val.ownBlock
  cells : Cells w PA (rows.map RowV.val)
  apart : ∀ a, PA = some a → ∀ k, RF rows k → k ≠ a.block
theorem RowsAt.len {w : World} {base : Nat} {PA : Option Addr} {rows : List RowV} {Ls : Nat → List Int} (h : RowsAt w base PA rows Ls) {i : Nat} (hi : i < rows.length) : (Ls i).length = rows[i].n := by
  have := (h.own i hi).1
  simpa using this
theorem RowsAt.ext {w w' : World} {base : Nat} {PA : Option Addr} {rows : List RowV} {Ls : Nat → List Int} (h : RowsAt w base PA rows Ls) (hE : Ext w w') : RowsAt w' base PA rows Ls :=
  ⟨fun i hi => own_ext (h.own i hi) hE, h.dis, h.cells.ext hE, h.apart⟩

set_option maxHeartbeats 1000000 in
/-- The first part of filled: every list holds its mark. -/
theorem filled_marks {w : World} {base m : Nat} {PA : Option Addr} {rows : List RowV} {Ls : Nat → List Int} {R : Ending → World → Prop} (h : RowsAt w base PA rows Ls) (hm : rows.length = m) (hm2 : m ≤ 1000) (hn : ∀ r ∈ rows, r.n ≤ 1048700)
    (hK : ∀ w', Mod (RF rows) w w' → w'.heap.size = w.heap.size → RowsAt w' base PA rows (fun i => List.replicate (if h : i < rows.length then rows[i].n else 0) (markOf i)) →
      LoopVC (S := (Option Addr × Nat × Nat) × Int) (fun s w4 K122 => weirlaw1_filled_L122 R PA m s.1.1 s.1.2.1 s.1.2.2 s.2 w4 K122) ((none, 0, 0), 0) w') :
    LoopVC (S := Int) (fun s w1 K26 => weirlaw1_filled_L26 R PA m s w1 K26) 0 w := by
  refine LoopVC.of (fun s w' => ∃ i : Nat, i ≤ m ∧ s = (i : Int) ∧ Mod (RF rows) w w' ∧ w'.heap.size = w.heap.size ∧
    RowsAt w' base PA rows (fun j => if j < i then List.replicate (if h : j < rows.length then rows[j].n else 0) (markOf j) else Ls j)) (fun s _ => ((m : Int) - s).toNat)
    ⟨0, by omega, rfl, Mod.refl _ _, rfl, by simpa using h⟩ ?_
  rintro _ w1 ⟨i, hi, rfl, hM, hsz, h1⟩
  show weirlaw1_filled_L26 R PA m (i : Int) w1 _
  unfold weirlaw1_filled_L26
  refine Br.dec (fun hlt => ?_) (fun hge => ?_)
  · have hil : i < rows.length := by omega
    have hni := hn _ (List.getElem_mem hil)
    have hmark : IntKind.u8.wrap (IntKind.i64.wrap (1 + Int.tmod (i : Int) 250)) = markOf i := by
      have em : Int.tmod (i : Int) 250 = ((i % 250 : Nat) : Int) := by rw [Int.tmod_eq_emod_of_nonneg (by omega)]; omega
      rw [em, w64 (by omega) (by omega), wu8 (by omega) (by omega)]; rfl
    refine LoopVC.of (fun s w' => ∃ (j : Nat) (L : List Int), j ≤ rows[i].n ∧ s = (j : Int) ∧ Mod (RF rows) w w' ∧ w'.heap.size = w.heap.size ∧ (∀ q, q < j → L.getD q 0 = markOf i) ∧ L.length = rows[i].n ∧
      RowsAt w' base PA rows (fun q => if q < i then List.replicate (if h : q < rows.length then rows[q].n else 0) (markOf q) else if q = i then L else Ls q)) (fun s _ => ((rows[i].n : Int) - s).toNat) ?_ ?_
    · refine ⟨0, Ls i, by omega, rfl, hM, hsz, fun q hq => by omega, h.len hil, ?_⟩
      have e : (fun q => if q < i then List.replicate (if h : q < rows.length then rows[q].n else 0) (markOf q) else if q = i then Ls i else Ls q) = (fun j => if j < i then List.replicate (if h : j < rows.length then rows[j].n else 0) (markOf j) else Ls j) := by
        funext q
        split
        · rfl
        · split
          · rename_i _ e; rw [e]
          · rfl
      rw [e]; exact h1
    rintro _ w2 ⟨j, L, hj, rfl, hM2, hsz2, hL, hLl, h2⟩
    show weirlaw1_filled_L1682 PA m (i : Int) _ (j : Int) w2 _
    unfold weirlaw1_filled_L1682
    have hown := h2.own i hil
    simp only [Nat.lt_irrefl, if_false, if_true] at hown
    refine IdxVC.of h2.cells (by omega) hlt (by simpa using hm) fun a _ ha => ⟨rows[i].A, rows[i].n, rows[i].n, by rw [ha]; simp [RowV.val], ?_⟩
    refine Br.dec (fun hjl => ?_) (fun hjg => ?_)
    · refine IdxVC.of h2.cells (by omega) hlt (by simpa using hm) fun a _ ha => ⟨rows[i].A, rows[i].n, rows[i].n, by rw [ha]; simp [RowV.val], ?_⟩
      refine IdxVC.own hown (by omega) hjl hjl fun a _ hset => ?_
      refine hset _ _ rfl fun w3 hz3 hm3 hown3 => ?_
      rw [hmark, Int.toNat_natCast, map_set] at hown3
      rw [w64 (n := (j : Int) + 1) (by omega) (by omega)]
      have hsub : ∀ k, some k = (Value.slice rows[i].A rows[i].n rows[i].n).ownBlock → RF rows k := fun k hk => ⟨rows[i], List.getElem_mem hil, hk⟩
      refine ⟨⟨j + 1, L.set j (markOf i), by omega, by omega, hM2.trans' hm3 fun k _ e => hsub k e, by omega, fun q hq => ?_, by simpa using hLl, fun q hq => ?_, h2.dis, ?_, h2.apart⟩, by omega⟩
      · by_cases e : q = j
        · subst e; exact getD_set_eq _ _ (by omega)
        · rw [getD_set_ne _ _ (Ne.symm e)]; exact hL q (by omega)
      · by_cases e : q = i
        · subst e
          simp only [Nat.lt_irrefl, if_false, if_true]
          exact hown3
        · have := own_mod (h2.own q hq) hm3 fun k hk hk' => h2.dis q i hq hil e k hk.symm hk'
          simpa only [if_neg e] using this
      · refine h2.cells.mod hm3 fun a ha _ hk => h2.apart a ha _ (hsub _ hk) rfl
    · have hjn : j = rows[i].n := by omega
      subst hjn
      rw [w64 (n := (i : Int) + 1) (by omega) (by omega)]
      refine ⟨⟨i + 1, by omega, by omega, hM2, hsz2, ?_⟩, by omega⟩
      have hLr : L = List.replicate rows[i].n (markOf i) := by
        apply List.ext_getElem (by simp [hLl])
        intro q h1 h2
        have := hL q (by omega)
        simp [h1] at this
        simp [this]
      have e : (fun j => if j < i + 1 then List.replicate (if h : j < rows.length then rows[j].n else 0) (markOf j) else Ls j) = (fun q => if q < i then List.replicate (if h : q < rows.length then rows[q].n else 0) (markOf q) else if q = i then L else Ls q) := by
        funext q
        by_cases e1 : q < i
        · rw [if_pos (by omega), if_pos e1]
        · by_cases e2 : q = i
          · subst e2
            rw [if_pos (by omega), if_neg e1, if_pos rfl, hLr, dif_pos hil]
          · rw [if_neg (by omega), if_neg e1, if_neg e2]
      rw [e]; exact h2
  · have him : i = rows.length := by omega
    refine hK w1 hM hsz ⟨fun q hq => ?_, h1.dis, h1.cells, h1.apart⟩
    have := h1.own q hq
    simpa only [if_pos (show q < i by omega)] using this
end Go.Proofs.Ytdchpilghgnnoaa
