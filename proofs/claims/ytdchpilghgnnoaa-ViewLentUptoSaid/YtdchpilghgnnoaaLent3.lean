/- The lists of numbers that were handed out: written full. -/
import Derived.Test.YtdchpilghgnnoaaLent2
namespace Go.Proofs.Ytdchpilghgnnoaa
open Go.Eng Go.RowKit

section
variable {w w' : World} {base g f : Nat} {o o' : Marks} {T : Option Addr × Nat × Nat} {rows rows' : List RowL}
theorem LolAt.read (h : LolAt w base o f T rows) {i : Nat} (hi : i < rows.length) {F : Addr → Prop} (hF : ∀ a, w.cell? a = some (.slice rows[i].A rows[i].n rows[i].c) → F a) : IdxVC T.1 T.2.1 1 (i : Int) F :=
  IdxVC.of (own_cells h.own) (by omega) (by have := h.len; omega) (by simp [h.len]) fun a _ ha => hF _ (by rw [ha]; simp [RowL.val])
theorem getElem_val {i : Nat} (hs : rows'.map RowL.val = rows.map RowL.val) (hi : i < rows'.length) (hi' : i < rows.length) : rows'[i].val = rows[i].val := by
  have := congrArg (fun l => l[i]?) hs
  simpa [hi, hi'] using this
theorem len_val (hs : rows'.map RowL.val = rows.map RowL.val) : rows'.length = rows.length := by simpa using congrArg List.length hs
theorem LolAt.set (h : LolAt w base o f T rows) {i : Nat} (hi : i < rows.length) {Z : List Int} (hm : Mod (fun k => some k = rows[i].val.ownBlock) w w') (ho : w'.ownsRow base (te f) 1 rows[i].val rows[i].n (Z.map (.int (kd f)))) :
    LolAt w' base o f T (rows.set i { rows[i] with Z := Z }) := by
  have hv : (rows.set i { rows[i] with Z := Z }).map RowL.val = rows.map RowL.val := by
    apply List.ext_getElem (by simp)
    intro j h1 h2
    simp only [List.length_map, List.length_set] at h1 h2
    simp only [List.getElem_map, List.getElem_set]
    split
    · rename_i e; subst e; rfl
    · rfl
  refine ⟨by simpa using h.len, ?_, h.oid, fun j hj => ?_, fun j hj k hk => ?_⟩
  · rw [hv]
    exact own_mod h.own hm fun k hk e => by have h1 := h.oid k hk; rw [h.eid i hi k e.symm] at h1; simp at h1
  · simp only [List.length_set] at hj
    by_cases e : i = j
    · subst e
      simp only [List.getElem_set_self]
      exact ho
    · simp only [List.getElem_set_ne e]
      exact own_mod (h.each j hj) hm fun k hk e' => by have h1 := h.eid j hj k hk; rw [h.eid i hi k e'.symm] at h1; simp at h1; exact e h1
  · have hj' : j < rows.length := by simpa using hj
    rw [getElem_val hv hj hj'] at hk
    exact h.eid j hj' k hk
/-- The blocks of the lists themselves. -/
def IF (rows : List RowL) (k : Nat) : Prop := ∃ v ∈ rows.map RowL.val, v.ownBlock = some k
theorem IF.at {k : Nat} (h : IF rows k) : ∃ i, ∃ h : i < rows.length, rows[i].val.ownBlock = some k := by
  obtain ⟨v, hv, hk⟩ := h
  obtain ⟨r, hr, rfl⟩ := List.mem_map.1 hv
  obtain ⟨i, hi, rfl⟩ := List.getElem_of_mem hr
  exact ⟨i, hi, hk⟩
theorem IF.of {i k : Nat} (hi : i < rows.length) (hk : rows[i].val.ownBlock = some k) : IF rows k := ⟨_, List.mem_map.2 ⟨_, List.getElem_mem hi, rfl⟩, hk⟩
theorem IF.mark (h : LolAt w base o f T rows) {k : Nat} (hk : IF rows k) : k < w.heap.size ∧ ∃ i, o k = (f, i + 1) := by
  obtain ⟨i, hi, hk⟩ := hk.at
  exact ⟨((h.each i hi).lt k hk).2, i, h.eid i hi k hk⟩
end

/-- How a list of lists is when all of it has its mark. -/
def Inked (rows : List RowL) (i : Nat) : Prop := ∀ j (h : j < rows.length), j < i → rows[j].Z = List.replicate rows[j].n (-1 - (j : Int))
abbrev LC (T : Nat → Option Addr × Nat × Nat) : List Value := [sv (T 0), sv (T 1), sv (T 2), sv (T 3)]
theorem lent_cell {w : World} {g : Nat} {T : Nat → Option Addr × Nat × Nat} (h : Blk w g 87 (LC T)) : w.cell? ⟨g, 2, none⟩ = some (.slice (T 2).1 (T 2).2.1 (T 2).2.2) := by rw [h.cell]; rfl
section
variable {w : World} {base g : Nat} {o : Marks} {T : Nat → Option Addr × Nat × Nat} {rows : List RowL} {R : Ending → World → Prop}
variable {aA bA uA vA cA dA : Option Addr} {an ac bn bc un uc vn vc cn cc dn dc : Nat} {x0 xA : Option Addr} {xn xc : Nat}
set_option maxHeartbeats 1000000 in
theorem lent_fill (hb : Blk w g 87 (LC T)) (hg : o g = (4, 0)) (h : LolAt w base o 2 (T 2) rows) (hq : rows.length ≤ 100) (hz : ∀ r ∈ rows, r.n ≤ 1000)
    (hK : ∀ w' rows', Mod (IF rows) w w' → Blk w' g 87 (LC T) → LolAt w' base o 2 (T 2) rows' → rows'.map RowL.val = rows.map RowL.val → Inked rows' rows'.length →
      LoopVC (S := (Option Addr × Nat × Nat) × Int) (fun s w31 K16378 => weirlaw1_ViewLent_L16378 R aA an ac bA bn bc uA un uc vA vn vc cA cn cc dA dn dc x0 g xA xn xc s.1.1 s.1.2.1 s.1.2.2 s.2 w31 K16378) ((none, 0, 0), 0) w') :
    LoopVC (S := Int) (fun s w28 K4090 => weirlaw1_ViewLent_L4090 R aA an ac bA bn bc uA un uc vA vn vc cA cn cc dA dn dc x0 g xA xn xc s w28 K4090) 0 w := by
  have hnotg : ∀ k, IF rows k → ¬ k = g := fun k hk e => by
    obtain ⟨-, i, hi⟩ := IF.mark h hk
    rw [e, hg] at hi
    simp at hi
  refine LoopVC.of (fun s w' => ∃ (i : Nat) (rows' : List RowL), s = (i : Int) ∧ i ≤ rows.length ∧ Mod (IF rows) w w' ∧ LolAt w' base o 2 (T 2) rows' ∧ rows'.map RowL.val = rows.map RowL.val ∧ Inked rows' i) (fun s _ => ((rows.length : Int) - s).toNat)
    ⟨0, rows, rfl, by omega, Mod.refl _ _, h, rfl, fun j _ hj => by omega⟩ ?_
  rintro _ w1 ⟨i, r1, rfl, hi, hM1, h1, hs1, hI1⟩
  have hlen1 := len_val hs1
  have hb1 := hb.mod hM1 fun e => hnotg _ e rfl
  unfold weirlaw1_ViewLent_L4090
  refine ⟨_, rfl, _, _, _, lent_cell hb1, Br.dec (fun hlt => ?_) (fun hge => ?_)⟩
  · have hi1 : i < r1.length := by have := h1.len; omega
    have hir : i < rows.length := by omega
    have hval := getElem_val hs1 hi1 hir
    have hv1 : r1[i].A = rows[i].A ∧ r1[i].n = rows[i].n ∧ r1[i].c = rows[i].c := by
      unfold RowL.val at hval
      injection hval with a b c
      exact ⟨a, b, c⟩
    have hzi := hz _ (List.getElem_mem hir)
    refine LoopVC.of (fun s w' => ∃ (k : Nat) (r2 : List RowL), s = (k : Int) ∧ k ≤ rows[i].n ∧ Mod (IF rows) w w' ∧ LolAt w' base o 2 (T 2) r2 ∧ r2.map RowL.val = rows.map RowL.val ∧ Inked r2 i ∧
      ∀ (hh : i < r2.length) q, q < k → r2[i].Z.getD q 0 = -1 - (i : Int)) (fun s _ => ((rows[i].n : Int) - s).toNat)
      ⟨0, r1, rfl, by omega, hM1, h1, hs1, hI1, fun _ q hq => by omega⟩ ?_
    rintro _ w2 ⟨k, r2, rfl, hk, hM2, h2, hs2, hI2, hZ2⟩
    have hlen2 := len_val hs2
    have hi2 : i < r2.length := by omega
    have hval2 := getElem_val hs2 hi2 hir
    have hv2 : r2[i].A = rows[i].A ∧ r2[i].n = rows[i].n ∧ r2[i].c = rows[i].c := by
      unfold RowL.val at hval2
      injection hval2 with a b c
      exact ⟨a, b, c⟩
    have hb2 := hb.mod hM2 fun e => hnotg _ e rfl
    unfold weirlaw1_ViewLent_L261778
    refine ⟨_, rfl, _, _, _, lent_cell hb2, ?_⟩
    refine h2.read hi2 fun a ha => ⟨_, _, _, ha, Br.dec (fun hkl => ?_) (fun hkg => ?_)⟩
    · refine ⟨_, rfl, _, _, _, lent_cell hb2, ?_⟩
      refine h2.read hi2 fun a ha => ⟨_, _, _, ha, ?_⟩
      have ho := h2.each i hi2
      have hzl : r2[i].Z.length = r2[i].n := by have := ho.1; simpa using this
      refine IdxVC.own (n := r2[i].n) ho (by omega) hkl hkl fun a _ hset => ?_
      rw [w64 (n := -1 - (i : Int)) (by omega) (by omega)]
      refine hset _ _ rfl fun w3 hz3 hm3 ho3 => ?_
      rw [Int.toNat_natCast, show (Value.int .i64 (-1 - (i : Int))) = Value.int (kd 2) (-1 - (i : Int)) from rfl, map_set] at ho3
      rw [w64 (n := (k : Int) + 1) (by omega) (by omega)]
      have h3 := h2.set hi2 hm3 ho3
      have hs3 : (r2.set i { r2[i] with Z := r2[i].Z.set k (-1 - (i : Int)) }).map RowL.val = rows.map RowL.val := by
        rw [← hs2]
        apply List.ext_getElem (by simp)
        intro j h1 h2
        simp only [List.getElem_map, List.getElem_set]
        split
        · rename_i e; subst e; rfl
        · rfl
      refine ⟨⟨k + 1, _, by omega, by omega, hM2.trans' hm3 fun k' _ e => IF.of hir (by rw [← hval2]; exact e.symm), h3, hs3, fun j hj hji => ?_, fun hh q hq => ?_⟩, by omega⟩
      · have hj2 : j < r2.length := by simpa using hj
        rw [List.getElem_set_ne (by omega)]
        exact hI2 j hj2 hji
      · rw [List.getElem_set_self]
        show (r2[i].Z.set k _).getD q 0 = _
        by_cases e : q = k
        · subst e; exact getD_set_eq _ _ (by omega)
        · rw [getD_set_ne _ _ (Ne.symm e)]; exact hZ2 hi2 q (by omega)
    · rw [w64 (n := (i : Int) + 1) (by omega) (by omega)]
      refine ⟨⟨i + 1, r2, by omega, by omega, hM2, h2, hs2, fun j hj hji => ?_⟩, by omega⟩
      by_cases e : j = i
      · subst e
        have hzl : r2[j].Z.length = r2[j].n := by have := (h2.each j hj).1; simpa using this
        apply List.ext_getElem (by simpa using hzl)
        intro q q1 q2
        have := hZ2 hj q (by omega)
        simp [q1] at this
        simp [this]
      · exact hI2 j hj (by omega)
  · have hil : i = r1.length := by have := h1.len; omega
    exact hK w1 r1 hM1 hb1 h1 hs1 (by rw [← hil]; exact hI1)
end
end Go.Proofs.Ytdchpilghgnnoaa
