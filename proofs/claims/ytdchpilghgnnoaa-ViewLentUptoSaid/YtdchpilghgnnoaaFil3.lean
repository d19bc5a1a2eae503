/- Lists that were written full and lengthened: filled, and stand. -/
import Derived.Test.YtdchpilghgnnoaaFil2
namespace Go.Proofs.Ytdchpilghgnnoaa
open Go.Eng Go.RowKit

theorem filled_spec {w : World} {base m pc : Nat} {PA : Option Addr} {rows : List RowV} {Ls : Nat → List Int} (h : RowsAt w base PA rows Ls) (hm : rows.length = m) (hm2 : m ≤ 1000) (hn : ∀ r ∈ rows, r.n ≤ 1048700) :
    Calls Try.prog 41 #[.slice PA m pc] w fun e w' => ∃ w1 MA mc ms, e = .returned (.slice MA (3 * m) mc) ∧ Mod (RF rows) w w1 ∧ w1.heap.size = w.heap.size ∧ Ext w1 w' ∧ Marked w' base PA rows ∧ MoreAt w' w.heap.size rows MA mc m ms := by
  refine weirlaw1_filled_of PA m pc w _ ?_
  unfold weirlaw1_filled_VC
  refine filled_marks h hm hm2 hn fun w1 hM hsz hR => ?_
  refine filled_more (base := base) (m := m) (rows := rows) hR hm hm2 hn fun w' MA mc ms hE hMo => ?_
  rw [hsz] at hMo
  exact ⟨w1, MA, mc, ms, rfl, hM, hsz, hE, RowsAt.ext hR hE, hMo⟩
section
variable {w w' : World} {base b1 m mc : Nat} {PA MA : Option Addr} {rows : List RowV} {ms : List (Option Addr × Nat × Nat)}
theorem MoreAt.ext (h : MoreAt w b1 rows MA mc m ms) (hE : Ext w w') : MoreAt w' b1 rows MA mc m ms :=
  ⟨h.len, own_ext h.own hE, fun k hk => own_ext (h.each k hk) hE, h.ne⟩
theorem MoreAt.lens (h : MoreAt w b1 rows MA mc m ms) {k : Nat} (hk : k < ms.length) : ms[k].2.1 = nOf rows (k / 3) + moreBy k := by
  have := (h.each k hk).1
  simp [contOf] at this
  omega
theorem MoreAt.cont (h : MoreAt w b1 rows MA mc m ms) {k : Nat} (hk : k < ms.length) : Cells w ms[k].1 ((contOf rows k).map (.int .u8)) := own_cells (h.each k hk)
theorem contOf_getD (rows : List RowV) (k : Nat) {j : Nat} (hj : j < nOf rows (k / 3) + moreBy k) : (contOf rows k).getD j 0 = if nOf rows (k / 3) ≤ j then tailOf (k / 3) else markOf (k / 3) := by
  unfold contOf
  by_cases h : nOf rows (k / 3) ≤ j
  · rw [if_pos h, List.getD_eq_getElem?_getD, List.getElem?_append_right (by simpa using h)]
    simp only [List.length_replicate]
    rw [List.getElem?_replicate, if_pos (by omega)]; rfl
  · rw [if_neg h, List.getD_eq_getElem?_getD, List.getElem?_append_left (by simp; omega), List.getElem?_replicate, if_pos (by omega)]; rfl

set_option maxHeartbeats 1000000 in
theorem stand_spec {pc : Nat} (hR : Marked w base PA rows) (hM : MoreAt w b1 rows MA mc m ms) (hm : rows.length = m) (hm2 : m ≤ 1000) (hn : ∀ r ∈ rows, r.n ≤ 1048700) :
    Calls Try.prog 42 #[.slice PA m pc, .slice MA (3 * m) mc] w fun e w' => w = w' ∧ e = .returned (.bool true) := by
  refine weirlaw1_stand_of PA m pc MA (3 * m) mc w _ ?_
  unfold weirlaw1_stand_VC
  have hml := hM.len
  have hmc := own_cells hM.own
  refine LoopVC.of (fun s w' => w = w' ∧ ∃ i : Nat, i ≤ m ∧ s = (i : Int)) (fun s _ => ((m : Int) - s).toNat) ⟨rfl, 0, by omega, rfl⟩ ?_
  rintro _ w1 ⟨rfl, i, hi, rfl⟩
  show weirlaw1_stand_L26 _ PA m MA (3 * m) (i : Int) w _
  unfold weirlaw1_stand_L26
  refine Br.dec (fun hlt => ?_) (fun hge => ⟨rfl, rfl⟩)
  have hil : i < rows.length := by omega
  have hni := hn _ (List.getElem_mem hil)
  have hno : nOf rows i = rows[i].n := by unfold nOf; rw [dif_pos hil]
  have hrow : ∀ {F : Addr → Prop}, (∀ a, w.cell? a = some (.slice rows[i].A rows[i].n rows[i].n) → F a) → IdxVC PA m 1 (i : Int) F := fun {F} hF =>
    IdxVC.of hR.cells (by omega) hlt (by simpa using hm) fun a _ ha => hF _ (by rw [ha]; simp [RowV.val])
  have hmore : ∀ {F : Addr → Prop} (k : Nat) (hk : k < ms.length), (∀ a, w.cell? a = some (.slice ms[k].1 ms[k].2.1 ms[k].2.2) → F a) → IdxVC MA (3 * m) 1 (k : Int) F := fun {F} k hk hF =>
    IdxVC.of hmc (by omega) (by omega) (by simpa using hml) fun a _ ha => hF _ (by rw [ha]; simp [sv])
  have d0 : (3 * i) / 3 = i := by omega
  have d1 : (3 * i + 1) / 3 = i := by omega
  have d2 : (3 * i + 2) / 3 = i := by omega
  have m0 : moreBy (3 * i) = 1 := by unfold moreBy; rw [if_pos (by omega)]
  have m1 : moreBy (3 * i + 1) = 2 := by unfold moreBy; rw [if_neg (by omega), if_pos (by omega)]
  have m2 : moreBy (3 * i + 2) = 70 := by unfold moreBy; rw [if_neg (by omega), if_neg (by omega)]
  have l0 := hM.lens (k := 3 * i) (by omega)
  have l1 := hM.lens (k := 3 * i + 1) (by omega)
  have l2 := hM.lens (k := 3 * i + 2) (by omega)
  rw [d0, m0, hno] at l0
  rw [d1, m1, hno] at l1
  rw [d2, m2, hno] at l2
  have w0 : IntKind.i64.wrap (3 * (i : Int)) = ((3 * i : Nat) : Int) := by rw [w64 (by omega) (by omega)]; omega
  have w1 : IntKind.i64.wrap (((3 * i : Nat) : Int) + 1) = ((3 * i + 1 : Nat) : Int) := by rw [w64 (by omega) (by omega)]; omega
  have w2 : IntKind.i64.wrap (((3 * i : Nat) : Int) + 2) = ((3 * i + 2 : Nat) : Int) := by rw [w64 (by omega) (by omega)]; omega
  rw [w0, w1, w2]
  refine hrow fun a ha => ⟨_, _, _, ha, ?_⟩
  refine hmore (3 * i) (by omega) fun a ha => ⟨_, _, _, ha, Br.no (by rw [w64 (by omega) (by omega)]; omega) ?_⟩
  refine hmore (3 * i + 1) (by omega) fun a ha => ⟨_, _, _, ha, Br.no (by rw [w64 (by omega) (by omega)]; omega) ?_⟩
  refine hmore (3 * i + 2) (by omega) fun a ha => ⟨_, _, _, ha, Br.no (by rw [w64 (by omega) (by omega)]; omega) ?_⟩
  refine LoopVC.of (fun s w' => w = w' ∧ ∃ k : Nat, 3 * i ≤ k ∧ k ≤ 3 * i + 3 ∧ s = (k : Int)) (fun s _ => (3 * (i : Int) + 3 - s).toNat) ⟨rfl, 3 * i, by omega, by omega, rfl⟩ ?_
  rintro _ w3 ⟨rfl, k, hk0, hk1, rfl⟩
  show weirlaw1_stand_L6734 _ PA m MA (3 * m) (i : Int) _ rows[i].n (k : Int) w _
  unfold weirlaw1_stand_L6734
  rw [w0, w64 (n := ((3 * i : Nat) : Int) + 3) (by omega) (by omega)]
  refine Br.dec (fun hkl => ?_) (fun hkg => ?_)
  · have hkm : k < ms.length := by omega
    have hdk : k / 3 = i := by omega
    have hlk := hM.lens hkm
    rw [hdk, hno] at hlk
    have hby : moreBy k ≤ 70 := by
      unfold moreBy
      split
      · omega
      · split <;> omega
    refine LoopVC.of (fun s w' => w = w' ∧ ∃ j : Nat, j ≤ ms[k].2.1 ∧ s = (j : Int)) (fun s _ => ((ms[k].2.1 : Int) - s).toNat) ⟨rfl, 0, by omega, rfl⟩ ?_
    rintro _ w4 ⟨rfl, j, hj, rfl⟩
    show weirlaw1_stand_L430994 _ PA m MA (3 * m) (i : Int) rows[i].n (k : Int) _ (j : Int) w _
    unfold weirlaw1_stand_L430994
    refine hmore k hkm fun a ha => ⟨_, _, _, ha, Br.dec (fun hjl => ?_) (fun hjg => ?_)⟩
    · have hg := contOf_getD rows k (j := j) (by rw [hdk, hno]; omega)
      rw [hdk, hno] at hg
      have hcl : (contOf rows k).length = ms[k].2.1 := by have := (hM.each k hkm).1; simpa using this
      refine JoinVC.of (fun s w' => w = w' ∧ s = (contOf rows k).getD j 0) ?_ ?_
      · have em5 : Int.tmod (i : Int) 5 = ((i % 5 : Nat) : Int) := by rw [Int.tmod_eq_emod_of_nonneg (by omega)]; omega
        have em250 : Int.tmod (i : Int) 250 = ((i % 250 : Nat) : Int) := by rw [Int.tmod_eq_emod_of_nonneg (by omega)]; omega
        rw [em5, em250, w64 (n := 251 + ((i % 5 : Nat) : Int)) (by omega) (by omega), w64 (n := 1 + ((i % 250 : Nat) : Int)) (by omega) (by omega), wu8 (n := 251 + ((i % 5 : Nat) : Int)) (by omega) (by omega), wu8 (n := 1 + ((i % 250 : Nat) : Int)) (by omega) (by omega)]
        refine Br.dec (fun hx => ⟨rfl, ?_⟩) (fun hx => ⟨rfl, ?_⟩)
        · rw [hg, if_pos (by omega)]; rfl
        · rw [hg, if_neg (by omega)]; rfl
      rintro mk w5 ⟨rfl, rfl⟩
      unfold weirlaw1_stand_J13791817
      have hwr : IntKind.i64.wrap ((j : Int) + 1) = ((j + 1 : Nat) : Int) := by rw [w64 (by omega) (by omega)]; omega
      rw [hwr]
      refine hmore k hkm fun a ha => ⟨_, _, _, ha, ?_⟩
      refine IdxVC.int (hM.cont hkm) (by omega) hjl hcl fun a ha => ⟨_, ha, Br.no (by rw [Int.toNat_natCast]; simp) ?_⟩
      refine Br.dec (fun hjn => ?_) (fun _ => ⟨⟨rfl, j + 1, by omega, rfl⟩, by omega⟩)
      refine hrow fun a ha => ⟨_, _, _, ha, ?_⟩
      refine IdxVC.int (hR.row hil) (by omega) hjn (by simp) fun a ha => ⟨_, ha, Br.no ?_ ⟨⟨rfl, j + 1, by omega, rfl⟩, by omega⟩⟩
      rw [Int.toNat_natCast, hg, if_neg (by omega)]
      simp [List.getD_eq_getElem?_getD, show j < rows[i].n by omega]
    · rw [w64 (n := (k : Int) + 1) (by omega) (by omega)]
      exact ⟨⟨rfl, k + 1, by omega, by omega, by omega⟩, by omega⟩
  · rw [w64 (n := (i : Int) + 1) (by omega) (by omega)]
    exact ⟨⟨rfl, i + 1, by omega, by omega⟩, by omega⟩
end
end Go.Proofs.Ytdchpilghgnnoaa
