/- Lists of lists that were handed out: written full, each with a mark of its own, then lengthened by seventy; that they hold. -/
import Derived.Test.YteppichfkeknbaaGreatDoorDl
import Derived.Test.YteppichfkeknbaaGreatDoorDk
import Derived.Test.YteppichfkeknbaaGreatDoorBn
namespace Go.Eng
open Go Go.RowKit
def mkFv (i : Nat) : Ip4V := { (Ip4V.z : Ip4V) with id := -1000 - (i : Int) }
def mkSv (i : Nat) : Ip6V := { (Ip6V.z : Ip6V) with next := -1000 - (i : Int) }
def mkF (i : Nat) : List Value := (mkFv i).cells
def mkS (i : Nat) : List Value := (mkSv i).cells
theorem mkF_one (i : Nat) : ∀ v ∈ mkF i, v.oneCell' = true := Ip4V.one (mkFv i)
theorem mkS_one (i : Nat) : ∀ v ∈ mkS i, v.oneCell' = true := Ip6V.one (mkSv i)
end Go.Eng
namespace Go.Proofs.YteppichfkeknbaaGreatDoor
namespace N6
open Go.Eng Go.RowKit
theorem tI4s : TypeIs Tryz.prog 34 (.slice none 0 0) 1 24 := .of (by kernel_rfl)
theorem tI6s : TypeIs Tryz.prog 37 (.slice none 0 0) 1 24 := .of (by kernel_rfl)
section
variable {w w0 : World} {Γ0 : List Fct} {b ln lc gx : Nat} {lA : Option Addr} {rows : List GR}
set_option maxHeartbeats 8000000 in
theorem Outer_full_fill0 (H : Sep (Γ0 ++ rows.map (rawR b 28 43)) w) (hx : ∀ w', (∀ f ∈ Γ0, f.φ w') → w'.cell? ⟨gx, 0, none⟩ = some (.slice lA ln lc) ∧ Cells w' lA (rows.map GR.val))
    (hlen : rows.length = ln) (hsm : ln ≤ 1000000) (hn : ∀ r ∈ rows, r.n ≤ 4000001) {R : Ending → World → Prop} (hK : ∀ w', Sep (Γ0 ++ mapI (fullR b 28 43 mkF) 0 rows) w' → LoopVC (S := Int) (fun s_ w1 K => weirlaw13_Outer_full_L58 R (some ⟨gx, 0, none⟩) s_ w1 K) 0 w') :
    LoopVC (S := Int) (fun s_ w1 K => weirlaw13_Outer_full_L26 R (some ⟨gx, 0, none⟩) s_ w1 K) 0 w := by
  have hin : ∀ {i : Nat} {r : GR}, rows[i]? = some r → r.n ≤ 4000001 := fun h => hn _ (List.mem_of_getElem? h)
  have hget : ∀ i, i < ln → ∃ r, rows[i]? = some r := fun i hi => ⟨_, List.getElem?_eq_getElem (by omega)⟩
  refine LoopVC.of (fun st w' => ∃ i : Nat, st = (i : Int) ∧ i ≤ ln ∧ Sep (Γ0 ++ (mapI (fullR b 28 43 mkF) 0 (rows.take i) ++ (rows.drop i).map (rawR b 28 43))) w') (fun st _ => ((ln : Int) - st).toNat)
    ⟨0, rfl, Nat.zero_le _, H⟩ ?_
  rintro _ w1 ⟨i, rfl, hi, H⟩
  show weirlaw13_Outer_full_L26 _ _ (i : Int) w1 _
  unfold weirlaw13_Outer_full_L26
  refine ⟨⟨gx, 0, none⟩, rfl, _, _, _, (hx w1 fun f hf => H.mem (List.mem_append_left _ hf)).1, Br.dec (fun hlt => ?_) fun hge => ?_⟩
  · obtain ⟨r, hr⟩ := hget i (by omega)
    have hrn := hin hr
    have hmk : IntKind.i64.wrap ((-1000) - (i : Int)) = -1000 - (i : Int) := w64 (by omega) (by omega)
    have e1 : IntKind.i64.wrap ((i : Int) + 1) = ((i + 1 : Nat) : Int) := by rw [w64 (by omega) (by omega)]; omega
    rw [drop_consA hr, List.map_cons] at H
    obtain ⟨D, hD⟩ : ∃ D, D = mapI (fullR b 28 43 mkF) 0 (rows.take i) := ⟨_, rfl⟩
    obtain ⟨T, hT⟩ : ∃ T, T = (rows.drop (i + 1)).map (rawR b 28 43) := ⟨_, rfl⟩
    rw [← hD, ← hT] at H
    have H := H.focus
    refine LoopVC.of (fun st w' => ∃ (k : Nat) (zs : List Value), st = (k : Int) ∧ k ≤ r.n ∧ zs.length = (r.n - k) * 43 ∧ Sep (Fct.row b 28 43 r.A r.c r.n (reps k (mkF i) ++ zs) :: (Γ0 ++ (D ++ T))) w') (fun st _ => ((r.n : Int) - st).toNat)
      ⟨0, r.xs, rfl, Nat.zero_le _, by have := (H.row 0 rfl).1; omega, H⟩ ?_
    rintro _ w2 ⟨k, zs, rfl, hk, hzl, H⟩
    show weirlaw13_Outer_full_L1682 _ (i : Int) _ (k : Int) w2 _
    unfold weirlaw13_Outer_full_L1682
    have hx2 := hx w2 fun f hf => H.mem (List.mem_cons_of_mem _ (List.mem_append_left _ hf))
    refine ⟨⟨gx, 0, none⟩, rfl, _, _, _, hx2.1, ?_⟩
    refine idx_rows hx2.2 hr hlen fun a ha => ⟨_, _, _, ha, Br.dec (fun hk1 => ?_) fun hk1 => ?_⟩
    · refine ⟨⟨gx, 0, none⟩, rfl, _, _, _, hx2.1, ?_⟩
      refine idx_rows hx2.2 hr hlen fun a ha => ⟨_, _, _, ha, ?_⟩
      rw [hmk]
      have e2 : IntKind.i64.wrap ((k : Int) + 1) = ((k + 1 : Nat) : Int) := by rw [w64 (by omega) (by omega)]; omega
      refine IdxVC.rowSep H 0 rfl (by omega) (by omega) (by decide) fun a ha => ha (mkF i) _ rfl (mkF_one i) fun w3 H3 => ?_
      refine ⟨⟨k + 1, zs.drop 43, e2, by omega, by rw [List.length_drop]; omega, ?_⟩, by rw [e2]; omega⟩
      have e3 : splice (reps k (mkF i) ++ zs) (k * 43) (mkF i) = reps (k + 1) (mkF i) ++ zs.drop 43 := by
        have e4 : k * 43 = (reps k (mkF i)).length := by rw [reps_len]; rfl
        rw [e4, splice_front, reps_add, reps_one]; rfl
      rw [← e3]; exact H3
    · have hkn : k = r.n := by omega
      have hz0 : zs = [] := List.eq_nil_of_length_eq_zero (by rw [hzl, hkn]; simp)
      subst hz0
      subst hkn
      refine ⟨⟨i + 1, e1, by omega, ?_⟩, by rw [e1]; omega⟩
      rw [List.append_nil] at H
      rw [take_snocA hr, mapI_snoc, ← hD, ← hT]
      have hli : 0 + (rows.take i).length = i := by rw [List.length_take]; omega
      rw [hli]
      exact H.perm (perm_unfocus (Z := []))
  · have hin' : i = ln := by omega
    subst hin'
    rw [List.take_of_length_le (by omega), List.drop_of_length_le (by omega), List.map_nil, List.append_nil] at H
    exact hK w1 H
set_option maxHeartbeats 8000000 in
theorem Outer_full_fill1 (H : Sep (Γ0 ++ rows.map (rawR b 33 44)) w) (hx : ∀ w', (∀ f ∈ Γ0, f.φ w') → w'.cell? ((⟨gx, 0, none⟩ : Addr).add 1) = some (.slice lA ln lc) ∧ Cells w' lA (rows.map GR.val))
    (hlen : rows.length = ln) (hsm : ln ≤ 1000000) (hn : ∀ r ∈ rows, r.n ≤ 4000001) {R : Ending → World → Prop} (hK : ∀ w', Sep (Γ0 ++ mapI (fullR b 33 44 mkS) 0 rows) w' → NewVC w' (.cells #[.slice none 0 0, .slice none 0 0] 44) fun g1 w1 => LoopVC (S := Int) (fun s_ w2 K => weirlaw13_Outer_full_L250 R (some ⟨gx, 0, none⟩) g1 s_ w2 K) 0 w1) :
    LoopVC (S := Int) (fun s_ w1 K => weirlaw13_Outer_full_L58 R (some ⟨gx, 0, none⟩) s_ w1 K) 0 w := by
  have hin : ∀ {i : Nat} {r : GR}, rows[i]? = some r → r.n ≤ 4000001 := fun h => hn _ (List.mem_of_getElem? h)
  have hget : ∀ i, i < ln → ∃ r, rows[i]? = some r := fun i hi => ⟨_, List.getElem?_eq_getElem (by omega)⟩
  refine LoopVC.of (fun st w' => ∃ i : Nat, st = (i : Int) ∧ i ≤ ln ∧ Sep (Γ0 ++ (mapI (fullR b 33 44 mkS) 0 (rows.take i) ++ (rows.drop i).map (rawR b 33 44))) w') (fun st _ => ((ln : Int) - st).toNat)
    ⟨0, rfl, Nat.zero_le _, H⟩ ?_
  rintro _ w1 ⟨i, rfl, hi, H⟩
  show weirlaw13_Outer_full_L58 _ _ (i : Int) w1 _
  unfold weirlaw13_Outer_full_L58
  refine ⟨⟨gx, 0, none⟩, rfl, _, _, _, (hx w1 fun f hf => H.mem (List.mem_append_left _ hf)).1, Br.dec (fun hlt => ?_) fun hge => ?_⟩
  · obtain ⟨r, hr⟩ := hget i (by omega)
    have hrn := hin hr
    have hmk : IntKind.i64.wrap ((-1000) - (i : Int)) = -1000 - (i : Int) := w64 (by omega) (by omega)
    have e1 : IntKind.i64.wrap ((i : Int) + 1) = ((i + 1 : Nat) : Int) := by rw [w64 (by omega) (by omega)]; omega
    rw [drop_consA hr, List.map_cons] at H
    obtain ⟨D, hD⟩ : ∃ D, D = mapI (fullR b 33 44 mkS) 0 (rows.take i) := ⟨_, rfl⟩
    obtain ⟨T, hT⟩ : ∃ T, T = (rows.drop (i + 1)).map (rawR b 33 44) := ⟨_, rfl⟩
    rw [← hD, ← hT] at H
    have H := H.focus
    refine LoopVC.of (fun st w' => ∃ (k : Nat) (zs : List Value), st = (k : Int) ∧ k ≤ r.n ∧ zs.length = (r.n - k) * 44 ∧ Sep (Fct.row b 33 44 r.A r.c r.n (reps k (mkS i) ++ zs) :: (Γ0 ++ (D ++ T))) w') (fun st _ => ((r.n : Int) - st).toNat)
      ⟨0, r.xs, rfl, Nat.zero_le _, by have := (H.row 0 rfl).1; omega, H⟩ ?_
    rintro _ w2 ⟨k, zs, rfl, hk, hzl, H⟩
    show weirlaw13_Outer_full_L3730 _ (i : Int) _ (k : Int) w2 _
    unfold weirlaw13_Outer_full_L3730
    have hx2 := hx w2 fun f hf => H.mem (List.mem_cons_of_mem _ (List.mem_append_left _ hf))
    refine ⟨⟨gx, 0, none⟩, rfl, _, _, _, hx2.1, ?_⟩
    refine idx_rows hx2.2 hr hlen fun a ha => ⟨_, _, _, ha, Br.dec (fun hk1 => ?_) fun hk1 => ?_⟩
    · refine ⟨⟨gx, 0, none⟩, rfl, _, _, _, hx2.1, ?_⟩
      refine idx_rows hx2.2 hr hlen fun a ha => ⟨_, _, _, ha, ?_⟩
      rw [hmk]
      have e2 : IntKind.i64.wrap ((k : Int) + 1) = ((k + 1 : Nat) : Int) := by rw [w64 (by omega) (by omega)]; omega
      refine IdxVC.rowSep H 0 rfl (by omega) (by omega) (by decide) fun a ha => ha (mkS i) _ rfl (mkS_one i) fun w3 H3 => ?_
      refine ⟨⟨k + 1, zs.drop 44, e2, by omega, by rw [List.length_drop]; omega, ?_⟩, by rw [e2]; omega⟩
      have e3 : splice (reps k (mkS i) ++ zs) (k * 44) (mkS i) = reps (k + 1) (mkS i) ++ zs.drop 44 := by
        have e4 : k * 44 = (reps k (mkS i)).length := by rw [reps_len]; rfl
        rw [e4, splice_front, reps_add, reps_one]; rfl
      rw [← e3]; exact H3
    · have hkn : k = r.n := by omega
      have hz0 : zs = [] := List.eq_nil_of_length_eq_zero (by rw [hzl, hkn]; simp)
      subst hz0
      subst hkn
      refine ⟨⟨i + 1, e1, by omega, ?_⟩, by rw [e1]; omega⟩
      rw [List.append_nil] at H
      rw [take_snocA hr, mapI_snoc, ← hD, ← hT]
      have hli : 0 + (rows.take i).length = i := by rw [List.length_take]; omega
      rw [hli]
      exact H.perm (perm_unfocus (Z := []))
  · have hin' : i = ln := by omega
    subst hin'
    rw [List.take_of_length_le (by omega), List.drop_of_length_le (by omega), List.map_nil, List.append_nil] at H
    exact hK w1 H
set_option maxHeartbeats 8000000 in
theorem Outer_full_more0 {z : Value} {gy : Nat} (H : Sep (Fct.blk gy 44 [.slice none 0 0, z] :: (Γ0 ++ mapI (fullR b 28 43 mkF) 0 rows)) w) (h0 : Γ0[0]? = some (Fct.rest w0 None)) (hb : b ≤ w0.heap.size)
    (hx : ∀ w', (∀ f ∈ Γ0, f.φ w') → w'.cell? ⟨gx, 0, none⟩ = some (.slice lA ln lc) ∧ Cells w' lA (rows.map GR.val))
    (hlen : rows.length = ln) (hsm : ln ≤ 1000000) (hn : ∀ r ∈ rows, r.n ≤ 4000001) {R : Ending → World → Prop}
    (hK : ∀ w' LA Lc D gs, gs.length = ln → StoodG mkF mkF 70 rows gs D ln → Sep (Fct.own b 34 1 (.slice LA ln Lc) ln (gs.map GR.val) :: Fct.blk gy 44 [.slice LA ln Lc, z] :: (Γ0 ++ D)) w' → LoopVC (S := Int) (fun s_ w1 K => weirlaw13_Outer_full_L506 R (some ⟨gx, 0, none⟩) gy s_ w1 K) 0 w') :
    LoopVC (S := Int) (fun s_ w1 K => weirlaw13_Outer_full_L250 R (some ⟨gx, 0, none⟩) gy s_ w1 K) 0 w := by
  have hin : ∀ {i : Nat} {r : GR}, rows[i]? = some r → r.n ≤ 4000001 := fun h => hn _ (List.mem_of_getElem? h)
  have hget : ∀ i, i < ln → ∃ r, rows[i]? = some r := fun i hi => ⟨_, List.getElem?_eq_getElem (by omega)⟩
  have hrest : ∀ {Y : List Fct} {w' : World}, Sep (Γ0 ++ Y) w' → w0.heap.size ≤ w'.heap.size := fun H => (H.restOf 0 (by
    rw [List.getElem?_append_left (List.getElem?_eq_some_iff.1 h0).1]; exact h0)).size
  refine LoopVC.of (fun st w' => ∃ (j : Nat) (LA : Option Addr) (Lc : Nat) (D : List Fct) (gs : List GR), st = (j : Int) ∧ j ≤ ln ∧ gs.length = j ∧ StoodG mkF mkF 70 rows gs D j ∧
      Sep (Fct.own b 34 1 (.slice LA j Lc) j (gs.map GR.val) :: Fct.blk gy 44 [.slice LA j Lc, z] :: (Γ0 ++ (D ++ mapI (fullR b 28 43 mkF) j (rows.drop j)))) w') (fun st _ => ((ln : Int) - st).toNat)
    ⟨0, none, 0, [], [], rfl, Nat.zero_le _, rfl, (fun w2 _ j r hj => absurd hj (by omega)), (H.nil b 34 1).front⟩ ?_
  rintro _ w4 ⟨j, LA, Lc, D, gs, rfl, hj, hgl, hst, H⟩
  show weirlaw13_Outer_full_L250 _ _ gy (j : Int) w4 _
  unfold weirlaw13_Outer_full_L250
  have inx : ∀ {Y : List Fct} {w' : World}, Sep (Γ0 ++ Y) w' → w'.cell? ⟨gx, 0, none⟩ = some (.slice lA ln lc) ∧ Cells w' lA (rows.map GR.val) := fun {Y w'} H => hx w' fun f hf => H.mem (List.mem_append_left _ hf)
  have hx4 := inx H.tail.tail
  refine ⟨⟨gx, 0, none⟩, rfl, _, _, _, hx4.1, Br.dec (fun hlt => ?_) fun hge => ?_⟩
  rotate_left
  · have hjn : j = ln := by omega
    subst hjn
    rw [List.drop_of_length_le (by omega)] at H
    exact hK w4 LA Lc D gs hgl hst (by simpa [mapI] using H)
  obtain ⟨r, hr⟩ := hget j (by omega)
  have hrn := hin hr
  have hmk : IntKind.i64.wrap ((-1000) - (j : Int)) = -1000 - (j : Int) := w64 (by omega) (by omega)
  have e1 : IntKind.i64.wrap ((j : Int) + 1) = ((j + 1 : Nat) : Int) := by rw [w64 (by omega) (by omega)]; omega
  refine ⟨⟨gx, 0, none⟩, rfl, _, _, _, hx4.1, ?_⟩
  refine idx_rows hx4.2 hr hlen fun a ha => ⟨_, _, _, ha, ?_⟩
  rw [drop_consA hr] at H
  obtain ⟨R', hR⟩ : ∃ R, R = mapI (fullR b 28 43 mkF) (j + 1) (rows.drop (j + 1)) := ⟨_, rfl⟩
  obtain ⟨cs, hcs⟩ : ∃ cs : List Value, cs = [.slice LA j Lc, z] := ⟨_, rfl⟩
  have H : Sep ((Fct.own b 34 1 (.slice LA j Lc) j (gs.map GR.val) :: Fct.blk gy 44 cs :: Γ0) ++ (D ++ fullR b 28 43 mkF j r :: R')) w4 := by rw [hR, hcs]; exact H
  have H := H.focus
  obtain ⟨Γ1, hΓ1⟩ : ∃ Γ1, Γ1 = Fct.own b 34 1 (.slice LA j Lc) j (gs.map GR.val) :: Fct.blk gy 44 cs :: (Γ0 ++ (D ++ R')) := ⟨_, rfl⟩
  obtain ⟨bs, hbs⟩ : ∃ bs : Nat → Fct, bs = fun k => baseR b 28 43 r.A r.c r.n (reps r.n (mkF j)) (mkF j) k := ⟨_, rfl⟩
  have H : Sep (bs 0 :: ([] ++ Γ1)) w4 := by
    rw [hΓ1, hbs]
    have e : baseR b 28 43 r.A r.c r.n (reps r.n (mkF j)) (mkF j) 0 = fullR b 28 43 mkF j r := by unfold baseR fullR; rw [reps_zero, List.append_nil]; rfl
    simp only
    rw [e]; exact H
  have szG : ∀ {Y : List Fct} {w' : World}, Sep (Y ++ Γ1) w' → w0.heap.size ≤ w'.heap.size := fun {Y w'} H => by
    rw [hΓ1] at H
    have H := H.perm (List.perm_append_comm)
    have H : Sep (_ :: _ :: (Γ0 ++ (D ++ R')) ++ Y) w' := H
    rw [List.cons_append, List.cons_append, List.append_assoc] at H
    exact hrest H.tail.tail
  refine LoopVC.of (fun st w' => ∃ (a k : Nat) (X : List Fct), st.2 = (a : Int) ∧ a ≤ 70 ∧ st.1.2.1 = r.n + a ∧ Grown b 28 43 r.A r.c r.n (reps r.n (mkF j)) (mkF j) k a st.1.1 st.1.2.2 X ∧ Sep (bs k :: (X ++ Γ1)) w') (fun st _ => ((70 : Int) - st.2).toNat)
    ⟨0, 0, [], rfl, by decide, rfl, .base (Nat.le_refl _), H⟩ ?_
  rintro ⟨⟨gA, gn, gc⟩, _⟩ w5 ⟨a, k, X, rfl, haT, hgn, hG, H⟩
  simp only at hgn hG
  subst hgn
  show weirlaw13_Outer_full_L64074 gy (j : Int) _ gA (r.n + a) gc (a : Int) w5 _
  unfold weirlaw13_Outer_full_L64074
  refine Br.dec (fun ha1 => ?_) fun ha1 => ?_
  · rw [hmk]
    have e2 : IntKind.i64.wrap ((a : Int) + 1) = ((a + 1 : Nat) : Int) := by rw [w64 (by omega) (by omega)]; omega
    refine NewVC.sep (cs := mkF j) H fun g1 w6 H => ?_
    rw [List.cons_append, List.append_assoc] at H
    have hz6 := szG (Y := bs k :: X) (w' := w6) (by
      have H : Sep ((bs k :: X) ++ (Γ1 ++ [Fct.blk g1 28 (mkF j)])) w6 := H
      rw [← List.append_assoc] at H
      exact H.dropEnd)
    have hsrc : Cells w6 (some ⟨g1, 0, none⟩) (reps 1 (mkF j)) := by
      rw [reps_one]
      exact Cells.blk0 (H.mem (f := Fct.blk g1 28 (mkF j)) (List.mem_cons_of_mem _ (List.mem_append_right _ (List.mem_append_right _ List.mem_cons_self))))
    rw [hbs] at H
    refine AppVC.grown hG H Tryz.underlying34 tI4 rfl (by decide) (by rw [reps_len]; rfl) rfl (mkF_one j) hsrc (by decide) (by omega) (by decide) (by omega) fun k' A2 c2 X' w7 hk' hG' H7 => ?_
    refine ⟨⟨a + 1, k', X', e2, by omega, rfl, hG', ?_⟩, by simp only [e2]; omega⟩
    have H7 : Sep ((bs k' :: X') ++ (Γ1 ++ [Fct.blk g1 28 (mkF j)])) w7 := by rw [hbs]; exact H7
    rw [← List.append_assoc] at H7
    exact H7.dropEnd
  · have haT' : a = 70 := by omega
    subst haT'
    have hgy : Blk w5 gy 44 cs := H.mem (f := Fct.blk gy 44 cs) (by rw [hΓ1]; simp)
    refine ⟨⟨gy, 0, none⟩, rfl, _, _, _, by rw [hcs] at hgy; exact cells_get (CellsAt.blk hgy) 0 rfl, ?_⟩
    refine NewVC.sep (cs := [.slice gA (r.n + 70) gc]) H fun g2 w8 H => ?_
    have H : Sep ((bs k :: X) ++ Γ1 ++ [Fct.blk g2 34 [.slice gA (r.n + 70) gc]]) w8 := H
    have hz8 := szG H.dropEnd
    rw [hΓ1, List.append_assoc] at H
    have H : Sep ((bs k :: X) ++ Fct.own b 34 1 (.slice LA j Lc) j (gs.map GR.val) :: ((Fct.blk gy 44 cs :: (Γ0 ++ (D ++ R'))) ++ [Fct.blk g2 34 [.slice gA (r.n + 70) gc]])) w8 := H
    have H := H.mid
    have hsrc : Cells w8 (some ⟨g2, 0, none⟩) [Value.slice gA (r.n + 70) gc] := Cells.blk0 (H.mem (f := Fct.blk g2 34 [.slice gA (r.n + 70) gc]) (by simp))
    refine AppVC.sep H 0 Tryz.underlying41 tI4s rfl (by decide) rfl hsrc rfl (fun v hv => by simp at hv; subst hv; rfl) (by omega) (by decide) (by omega) fun A3 c3 w9 H9 _ => ?_
    have H9 : Sep (Fct.own b 34 1 (.slice A3 (j + 1) c3) (j + 1) (gs.map GR.val ++ [.slice gA (r.n + 70) gc]) :: ((bs k :: X) ++ ((Fct.blk gy 44 cs :: (Γ0 ++ (D ++ R'))) ++ [Fct.blk g2 34 [.slice gA (r.n + 70) gc]]))) w9 := H9
    rw [← List.append_assoc, ← List.cons_append] at H9
    have H9 := H9.dropEnd
    obtain ⟨OL, hOL⟩ : ∃ OL, OL = Fct.own b 34 1 (.slice A3 (j + 1) c3) (j + 1) (gs.map GR.val ++ [.slice gA (r.n + 70) gc]) := ⟨_, rfl⟩
    rw [← hOL] at H9
    have H9 := H9.perm (Γ' := Fct.blk gy 44 cs :: OL :: (Γ0 ++ ((D ++ (bs k :: X)) ++ R'))) (perm_cnt fun c o h1 h2 h3 => by simp only [h1, h2]; omega)
    refine ⟨⟨gy, 0, none⟩, rfl, ?_⟩
    refine SetVC.sep H9 0 rfl (show 0 < cs.length by rw [hcs]; show 0 < 2; decide) fun w10 H10 => ?_
    have H10 : Sep (Fct.blk gy 44 (cs.set 0 (.slice A3 (j + 1) c3)) :: OL :: (Γ0 ++ ((D ++ (bs k :: X)) ++ R'))) w10 := H10
    refine ⟨⟨j + 1, A3, c3, D ++ (bs k :: X), gs ++ [⟨gA, r.n + 70, gc, []⟩], e1, by omega, by simp [hgl], ?_, ?_⟩, by simp only [e1]; omega⟩
    · intro w2 hf q r' hq hr'
      rcases Nat.lt_or_ge q j with hqj | hqj
      · obtain ⟨h1, g, hg, h2⟩ := hst w2 (fun f hf' => hf f (List.mem_append_left _ hf')) q r' hqj hr'
        exact ⟨h1, g, by rw [List.getElem?_append_left (by omega)]; exact hg, h2⟩
      · have hqj : q = j := by omega
        subst hqj
        rw [hr] at hr'; injection hr' with hr'; subst hr'
        have hbase : (baseR b 28 43 r.A r.c r.n (reps r.n (mkF q)) (mkF q) k).φ w2 := by
          have := hf _ (List.mem_append_right D (List.mem_cons_self (a := bs k) (l := X)))
          rw [hbs] at this; exact this
        refine ⟨?_, ⟨gA, r.n + 70, gc, []⟩, by rw [List.getElem?_append_right (by omega), hgl, Nat.sub_self]; rfl, rfl, hG.cells hbase fun f hfX => hf f (List.mem_append_right _ (List.mem_cons_of_mem _ hfX))⟩
        have := base_cells (m := 0) hbase (Nat.zero_le _)
        rwa [reps_zero, List.append_nil] at this
    · rw [hOL, hcs, hR] at H10
      rw [List.map_append]
      exact H10.perm (.swap _ _ _)
set_option maxHeartbeats 8000000 in
theorem Outer_full_more1 {z : Value} {gy : Nat} (H : Sep (Fct.blk gy 44 [z, .slice none 0 0] :: (Γ0 ++ mapI (fullR b 33 44 mkS) 0 rows)) w) (h0 : Γ0[0]? = some (Fct.rest w0 None)) (hb : b ≤ w0.heap.size)
    (hx : ∀ w', (∀ f ∈ Γ0, f.φ w') → w'.cell? ((⟨gx, 0, none⟩ : Addr).add 1) = some (.slice lA ln lc) ∧ Cells w' lA (rows.map GR.val))
    (hlen : rows.length = ln) (hsm : ln ≤ 1000000) (hn : ∀ r ∈ rows, r.n ≤ 4000001) {R : Ending → World → Prop}
    (hK : ∀ w' LA Lc D gs, gs.length = ln → StoodG mkS mkS 70 rows gs D ln → Sep (Fct.own b 37 1 (.slice LA ln Lc) ln (gs.map GR.val) :: Fct.blk gy 44 [z, .slice LA ln Lc] :: (Γ0 ++ D)) w' → R (.returned (.pointer (some ⟨gy, 0, none⟩))) w') :
    LoopVC (S := Int) (fun s_ w1 K => weirlaw13_Outer_full_L506 R (some ⟨gx, 0, none⟩) gy s_ w1 K) 0 w := by
  have hin : ∀ {i : Nat} {r : GR}, rows[i]? = some r → r.n ≤ 4000001 := fun h => hn _ (List.mem_of_getElem? h)
  have hget : ∀ i, i < ln → ∃ r, rows[i]? = some r := fun i hi => ⟨_, List.getElem?_eq_getElem (by omega)⟩
  have hrest : ∀ {Y : List Fct} {w' : World}, Sep (Γ0 ++ Y) w' → w0.heap.size ≤ w'.heap.size := fun H => (H.restOf 0 (by
    rw [List.getElem?_append_left (List.getElem?_eq_some_iff.1 h0).1]; exact h0)).size
  refine LoopVC.of (fun st w' => ∃ (j : Nat) (LA : Option Addr) (Lc : Nat) (D : List Fct) (gs : List GR), st = (j : Int) ∧ j ≤ ln ∧ gs.length = j ∧ StoodG mkS mkS 70 rows gs D j ∧
      Sep (Fct.own b 37 1 (.slice LA j Lc) j (gs.map GR.val) :: Fct.blk gy 44 [z, .slice LA j Lc] :: (Γ0 ++ (D ++ mapI (fullR b 33 44 mkS) j (rows.drop j)))) w') (fun st _ => ((ln : Int) - st).toNat)
    ⟨0, none, 0, [], [], rfl, Nat.zero_le _, rfl, (fun w2 _ j r hj => absurd hj (by omega)), (H.nil b 37 1).front⟩ ?_
  rintro _ w4 ⟨j, LA, Lc, D, gs, rfl, hj, hgl, hst, H⟩
  show weirlaw13_Outer_full_L506 _ _ gy (j : Int) w4 _
  unfold weirlaw13_Outer_full_L506
  have inx : ∀ {Y : List Fct} {w' : World}, Sep (Γ0 ++ Y) w' → w'.cell? ((⟨gx, 0, none⟩ : Addr).add 1) = some (.slice lA ln lc) ∧ Cells w' lA (rows.map GR.val) := fun {Y w'} H => hx w' fun f hf => H.mem (List.mem_append_left _ hf)
  have hx4 := inx H.tail.tail
  refine ⟨⟨gx, 0, none⟩, rfl, _, _, _, hx4.1, Br.dec (fun hlt => ?_) fun hge => ?_⟩
  rotate_left
  · have hjn : j = ln := by omega
    subst hjn
    rw [List.drop_of_length_le (by omega)] at H
    exact hK w4 LA Lc D gs hgl hst (by simpa [mapI] using H)
  obtain ⟨r, hr⟩ := hget j (by omega)
  have hrn := hin hr
  have hmk : IntKind.i64.wrap ((-1000) - (j : Int)) = -1000 - (j : Int) := w64 (by omega) (by omega)
  have e1 : IntKind.i64.wrap ((j : Int) + 1) = ((j + 1 : Nat) : Int) := by rw [w64 (by omega) (by omega)]; omega
  refine ⟨⟨gx, 0, none⟩, rfl, _, _, _, hx4.1, ?_⟩
  refine idx_rows hx4.2 hr hlen fun a ha => ⟨_, _, _, ha, ?_⟩
  rw [drop_consA hr] at H
  obtain ⟨R', hR⟩ : ∃ R, R = mapI (fullR b 33 44 mkS) (j + 1) (rows.drop (j + 1)) := ⟨_, rfl⟩
  obtain ⟨cs, hcs⟩ : ∃ cs : List Value, cs = [z, .slice LA j Lc] := ⟨_, rfl⟩
  have H : Sep ((Fct.own b 37 1 (.slice LA j Lc) j (gs.map GR.val) :: Fct.blk gy 44 cs :: Γ0) ++ (D ++ fullR b 33 44 mkS j r :: R')) w4 := by rw [hR, hcs]; exact H
  have H := H.focus
  obtain ⟨Γ1, hΓ1⟩ : ∃ Γ1, Γ1 = Fct.own b 37 1 (.slice LA j Lc) j (gs.map GR.val) :: Fct.blk gy 44 cs :: (Γ0 ++ (D ++ R')) := ⟨_, rfl⟩
  obtain ⟨bs, hbs⟩ : ∃ bs : Nat → Fct, bs = fun k => baseR b 33 44 r.A r.c r.n (reps r.n (mkS j)) (mkS j) k := ⟨_, rfl⟩
  have H : Sep (bs 0 :: ([] ++ Γ1)) w4 := by
    rw [hΓ1, hbs]
    have e : baseR b 33 44 r.A r.c r.n (reps r.n (mkS j)) (mkS j) 0 = fullR b 33 44 mkS j r := by unfold baseR fullR; rw [reps_zero, List.append_nil]; rfl
    simp only
    rw [e]; exact H
  have szG : ∀ {Y : List Fct} {w' : World}, Sep (Y ++ Γ1) w' → w0.heap.size ≤ w'.heap.size := fun {Y w'} H => by
    rw [hΓ1] at H
    have H := H.perm (List.perm_append_comm)
    have H : Sep (_ :: _ :: (Γ0 ++ (D ++ R')) ++ Y) w' := H
    rw [List.cons_append, List.cons_append, List.append_assoc] at H
    exact hrest H.tail.tail
  refine LoopVC.of (fun st w' => ∃ (a k : Nat) (X : List Fct), st.2 = (a : Int) ∧ a ≤ 70 ∧ st.1.2.1 = r.n + a ∧ Grown b 33 44 r.A r.c r.n (reps r.n (mkS j)) (mkS j) k a st.1.1 st.1.2.2 X ∧ Sep (bs k :: (X ++ Γ1)) w') (fun st _ => ((70 : Int) - st.2).toNat)
    ⟨0, 0, [], rfl, by decide, rfl, .base (Nat.le_refl _), H⟩ ?_
  rintro ⟨⟨gA, gn, gc⟩, _⟩ w5 ⟨a, k, X, rfl, haT, hgn, hG, H⟩
  simp only at hgn hG
  subst hgn
  show weirlaw13_Outer_full_L129610 gy (j : Int) _ gA (r.n + a) gc (a : Int) w5 _
  unfold weirlaw13_Outer_full_L129610
  refine Br.dec (fun ha1 => ?_) fun ha1 => ?_
  · rw [hmk]
    have e2 : IntKind.i64.wrap ((a : Int) + 1) = ((a + 1 : Nat) : Int) := by rw [w64 (by omega) (by omega)]; omega
    refine NewVC.sep (cs := mkS j) H fun g1 w6 H => ?_
    rw [List.cons_append, List.append_assoc] at H
    have hz6 := szG (Y := bs k :: X) (w' := w6) (by
      have H : Sep ((bs k :: X) ++ (Γ1 ++ [Fct.blk g1 33 (mkS j)])) w6 := H
      rw [← List.append_assoc] at H
      exact H.dropEnd)
    have hsrc : Cells w6 (some ⟨g1, 0, none⟩) (reps 1 (mkS j)) := by
      rw [reps_one]
      exact Cells.blk0 (H.mem (f := Fct.blk g1 33 (mkS j)) (List.mem_cons_of_mem _ (List.mem_append_right _ (List.mem_append_right _ List.mem_cons_self))))
    rw [hbs] at H
    refine AppVC.grown hG H Tryz.underlying37 tI6 rfl (by decide) (by rw [reps_len]; rfl) rfl (mkS_one j) hsrc (by decide) (by omega) (by decide) (by omega) fun k' A2 c2 X' w7 hk' hG' H7 => ?_
    refine ⟨⟨a + 1, k', X', e2, by omega, rfl, hG', ?_⟩, by simp only [e2]; omega⟩
    have H7 : Sep ((bs k' :: X') ++ (Γ1 ++ [Fct.blk g1 33 (mkS j)])) w7 := by rw [hbs]; exact H7
    rw [← List.append_assoc] at H7
    exact H7.dropEnd
  · have haT' : a = 70 := by omega
    subst haT'
    have hgy : Blk w5 gy 44 cs := H.mem (f := Fct.blk gy 44 cs) (by rw [hΓ1]; simp)
    refine ⟨⟨gy, 0, none⟩, rfl, _, _, _, by rw [hcs] at hgy; exact cells_get (CellsAt.blk hgy) 1 rfl, ?_⟩
    refine NewVC.sep (cs := [.slice gA (r.n + 70) gc]) H fun g2 w8 H => ?_
    have H : Sep ((bs k :: X) ++ Γ1 ++ [Fct.blk g2 37 [.slice gA (r.n + 70) gc]]) w8 := H
    have hz8 := szG H.dropEnd
    rw [hΓ1, List.append_assoc] at H
    have H : Sep ((bs k :: X) ++ Fct.own b 37 1 (.slice LA j Lc) j (gs.map GR.val) :: ((Fct.blk gy 44 cs :: (Γ0 ++ (D ++ R'))) ++ [Fct.blk g2 37 [.slice gA (r.n + 70) gc]])) w8 := H
    have H := H.mid
    have hsrc : Cells w8 (some ⟨g2, 0, none⟩) [Value.slice gA (r.n + 70) gc] := Cells.blk0 (H.mem (f := Fct.blk g2 37 [.slice gA (r.n + 70) gc]) (by simp))
    refine AppVC.sep H 0 Tryz.underlying42 tI6s rfl (by decide) rfl hsrc rfl (fun v hv => by simp at hv; subst hv; rfl) (by omega) (by decide) (by omega) fun A3 c3 w9 H9 _ => ?_
    have H9 : Sep (Fct.own b 37 1 (.slice A3 (j + 1) c3) (j + 1) (gs.map GR.val ++ [.slice gA (r.n + 70) gc]) :: ((bs k :: X) ++ ((Fct.blk gy 44 cs :: (Γ0 ++ (D ++ R'))) ++ [Fct.blk g2 37 [.slice gA (r.n + 70) gc]]))) w9 := H9
    rw [← List.append_assoc, ← List.cons_append] at H9
    have H9 := H9.dropEnd
    obtain ⟨OL, hOL⟩ : ∃ OL, OL = Fct.own b 37 1 (.slice A3 (j + 1) c3) (j + 1) (gs.map GR.val ++ [.slice gA (r.n + 70) gc]) := ⟨_, rfl⟩
    rw [← hOL] at H9
    have H9 := H9.perm (Γ' := Fct.blk gy 44 cs :: OL :: (Γ0 ++ ((D ++ (bs k :: X)) ++ R'))) (perm_cnt fun c o h1 h2 h3 => by simp only [h1, h2]; omega)
    refine ⟨⟨gy, 0, none⟩, rfl, ?_⟩
    refine SetVC.sep H9 0 rfl (show 1 < cs.length by rw [hcs]; show 1 < 2; decide) fun w10 H10 => ?_
    have H10 : Sep (Fct.blk gy 44 (cs.set 1 (.slice A3 (j + 1) c3)) :: OL :: (Γ0 ++ ((D ++ (bs k :: X)) ++ R'))) w10 := H10
    refine ⟨⟨j + 1, A3, c3, D ++ (bs k :: X), gs ++ [⟨gA, r.n + 70, gc, []⟩], e1, by omega, by simp [hgl], ?_, ?_⟩, by simp only [e1]; omega⟩
    · intro w2 hf q r' hq hr'
      rcases Nat.lt_or_ge q j with hqj | hqj
      · obtain ⟨h1, g, hg, h2⟩ := hst w2 (fun f hf' => hf f (List.mem_append_left _ hf')) q r' hqj hr'
        exact ⟨h1, g, by rw [List.getElem?_append_left (by omega)]; exact hg, h2⟩
      · have hqj : q = j := by omega
        subst hqj
        rw [hr] at hr'; injection hr' with hr'; subst hr'
        have hbase : (baseR b 33 44 r.A r.c r.n (reps r.n (mkS q)) (mkS q) k).φ w2 := by
          have := hf _ (List.mem_append_right D (List.mem_cons_self (a := bs k) (l := X)))
          rw [hbs] at this; exact this
        refine ⟨?_, ⟨gA, r.n + 70, gc, []⟩, by rw [List.getElem?_append_right (by omega), hgl, Nat.sub_self]; rfl, rfl, hG.cells hbase fun f hfX => hf f (List.mem_append_right _ (List.mem_cons_of_mem _ hfX))⟩
        have := base_cells (m := 0) hbase (Nat.zero_le _)
        rwa [reps_zero, List.append_nil] at this
    · rw [hOL, hcs, hR] at H10
      rw [List.map_append]
      exact H10.perm (.swap _ _ _)
set_option maxHeartbeats 4000000 in
/-- All lists are written full and lengthened. -/
theorem Outer_full_spec {r0 r1 : List GR} {n0 n1 c0 c1 : Nat} {A0 A1 : Option Addr} (H : Sep (Γ0 ++ (r0.map (rawR b 28 43) ++ r1.map (rawR b 33 44))) w) (h0 : Γ0[0]? = some (Fct.rest w0 None)) (hb : b ≤ w0.heap.size)
    (hx0 : ∀ w', (∀ f ∈ Γ0, f.φ w') → w'.cell? ⟨gx, 0, none⟩ = some (.slice A0 n0 c0) ∧ Cells w' A0 (r0.map GR.val)) (hx1 : ∀ w', (∀ f ∈ Γ0, f.φ w') → w'.cell? ((⟨gx, 0, none⟩ : Addr).add 1) = some (.slice A1 n1 c1) ∧ Cells w' A1 (r1.map GR.val))
    (l0 : r0.length = n0) (l1 : r1.length = n1) (s0 : n0 ≤ 1000000) (s1 : n1 ≤ 1000000) (m0 : ∀ r ∈ r0, r.n ≤ 4000001) (m1 : ∀ r ∈ r1, r.n ≤ 4000001) :
    Calls Tryz.prog 17 #[.pointer (some ⟨gx, 0, none⟩)] w fun e w' => ∃ (gy : Nat) (B0 B1 : Option Addr) (d0 d1 : Nat) (gs0 gs1 : List GR) (D0 D1 : List Fct), e = .returned (.pointer (some ⟨gy, 0, none⟩)) ∧ gs0.length = n0 ∧ gs1.length = n1 ∧
      StoodG mkF mkF 70 r0 gs0 D0 n0 ∧ StoodG mkS mkS 70 r1 gs1 D1 n1 ∧
      Sep (Γ0 ++ ((Fct.own b 34 1 (.slice B0 n0 d0) n0 (gs0.map GR.val) :: Fct.own b 37 1 (.slice B1 n1 d1) n1 (gs1.map GR.val) :: [Fct.blk gy 44 [.slice B0 n0 d0, .slice B1 n1 d1]]) ++ (D0 ++ D1))) w' := by
  refine weirlaw13_Outer_full_of (some ⟨gx, 0, none⟩) w _ ?_
  unfold weirlaw13_Outer_full_VC
  have h00 : ∀ Y : List Fct, (Γ0 ++ Y)[0]? = some (Fct.rest w0 None) := fun Y => by rw [List.getElem?_append_left (List.getElem?_eq_some_iff.1 h0).1]; exact h0
  have up : ∀ {Y : List Fct} {w' : World}, (∀ f ∈ Γ0 ++ Y, f.φ w') → ∀ f ∈ Γ0, f.φ w' := fun h f hf => h f (List.mem_append_left _ hf)
  refine Outer_full_fill0 (Γ0 := Γ0 ++ r1.map (rawR b 33 44)) (H.perm (by rw [List.append_assoc]; exact List.perm_append_comm.append_left _)) (fun w' h => hx0 w' (up h)) l0 s0 m0 fun w1 H => ?_
  refine Outer_full_fill1 (Γ0 := Γ0 ++ mapI (fullR b 28 43 mkF) 0 r0) (H.perm (by rw [List.append_assoc, List.append_assoc]; exact List.perm_append_comm.append_left _)) (fun w' h => hx1 w' (up h)) l1 s1 m1 fun w2 H => ?_
  refine NewVC.sep (cs := [.slice none 0 0, .slice none 0 0]) H fun gy w3 H => ?_
  have H := H.front
  refine Outer_full_more0 (z := .slice none 0 0) (Γ0 := Γ0 ++ mapI (fullR b 33 44 mkS) 0 r1) (H.perm (.cons _ (by rw [List.append_assoc, List.append_assoc]; exact List.perm_append_comm.append_left _))) (h00 _) hb (fun w' h => hx0 w' (up h)) l0 s0 m0 fun w4 B0 d0 D0 gs0 g0 st0 H => ?_
  obtain ⟨O0, hO0⟩ : ∃ O, O = Fct.own b 34 1 (.slice B0 n0 d0) n0 (gs0.map GR.val) := ⟨_, rfl⟩
  rw [← hO0] at H
  refine Outer_full_more1 (z := .slice B0 n0 d0) (Γ0 := Γ0 ++ (O0 :: D0)) (H.perm (perm_cnt fun c o h1 h2 h3 => by simp only [h1, h2]; omega)) (h00 _) hb (fun w' h => hx1 w' (up h)) l1 s1 m1 fun w5 B1 d1 D1 gs1 g1 st1 H => ?_
  refine ⟨gy, B0, B1, d0, d1, gs0, gs1, D0, D1, rfl, g0, g1, st0, st1, ?_⟩
  rw [← hO0]
  exact H.perm (perm_cnt fun c o h1 h2 h3 => by simp only [h1, h2, h3]; omega)
set_option maxHeartbeats 4000000 in
/-- Lists that hold a mark alone each. -/
theorem holds_spec {r0 r1 : List GR} {n0 n1 c0 c1 : Nat} {A0 A1 : Option Addr} (hc0 : w.cell? ⟨gx, 0, none⟩ = some (.slice A0 n0 c0)) (hc1 : w.cell? ((⟨gx, 0, none⟩ : Addr).add 1) = some (.slice A1 n1 c1)) (ha0 : Cells w A0 (r0.map GR.val)) (ha1 : Cells w A1 (r1.map GR.val))
    (l0 : r0.length = n0) (l1 : r1.length = n1) (s0 : n0 ≤ 1000000) (s1 : n1 ≤ 1000000) (m0 : ∀ r ∈ r0, r.n ≤ 4000100) (m1 : ∀ r ∈ r1, r.n ≤ 4000100)
    (h0 : ∀ (j : Nat) (r : GR), r0[j]? = some r → Cells w r.A (reps r.n (mkF j))) (h1 : ∀ (j : Nat) (r : GR), r1[j]? = some r → Cells w r.A (reps r.n (mkS j))) :
    Calls Tryz.prog 18 #[.pointer (some ⟨gx, 0, none⟩)] w fun e w' => w' = w ∧ e = .returned (.bool true) := by
  refine weirlaw13_Outer_holds_of (some ⟨gx, 0, none⟩) w _ ?_
  unfold weirlaw13_Outer_holds_VC
  refine LoopVC.of (fun st w' => w' = w ∧ ∃ i : Nat, st = (i : Int) ∧ i ≤ n0) (fun st _ => ((n0 : Int) - st).toNat) ⟨rfl, 0, rfl, Nat.zero_le _⟩ ?_
  rintro _ w1 ⟨hw, i, rfl, hi⟩
  subst w1
  show weirlaw13_Outer_holds_L26 _ _ (i : Int) w _
  unfold weirlaw13_Outer_holds_L26
  refine ⟨⟨gx, 0, none⟩, rfl, _, _, _, hc0, Br.dec (fun hlt => ?_) fun hge => ?_⟩
  · obtain ⟨r, hr⟩ : ∃ r, r0[i]? = some r := ⟨_, List.getElem?_eq_getElem (by omega)⟩
    have hrn := m0 _ (List.mem_of_getElem? hr)
    have hmk : IntKind.i64.wrap ((-1000) - (i : Int)) = -1000 - (i : Int) := w64 (by omega) (by omega)
    have e1 : IntKind.i64.wrap ((i : Int) + 1) = ((i + 1 : Nat) : Int) := by rw [w64 (by omega) (by omega)]; omega
    refine LoopVC.of (fun st w' => w' = w ∧ ∃ k : Nat, st = (k : Int) ∧ k ≤ r.n) (fun st _ => ((r.n : Int) - st).toNat) ⟨rfl, 0, rfl, Nat.zero_le _⟩ ?_
    rintro _ w2 ⟨hw, k, rfl, hk⟩
    subst w2
    show weirlaw13_Outer_holds_L1682 _ _ (i : Int) _ (k : Int) w _
    unfold weirlaw13_Outer_holds_L1682
    have e2 : IntKind.i64.wrap ((k : Int) + 1) = ((k + 1 : Nat) : Int) := by rw [w64 (by omega) (by omega)]; omega
    rw [hmk, e1, e2]
    refine ⟨⟨gx, 0, none⟩, rfl, _, _, _, hc0, idx_rows ha0 hr l0 fun a ha => ⟨_, _, _, ha, Br.dec (fun hk1 => ?_) fun hk1 => ?_⟩⟩
    · refine ⟨⟨gx, 0, none⟩, rfl, _, _, _, hc0, idx_rows ha0 hr l0 fun a ha => ⟨_, _, _, ha, ?_⟩⟩
      refine idx_rep (size := 43) (h0 i r hr) rfl (by decide) (by omega) rfl fun a ha => ⟨-1000 - (i : Int), cells_get ha 1 rfl, Br.no (fun x => x rfl) ?_⟩
      refine ⟨⟨gx, 0, none⟩, rfl, _, _, _, hc0, idx_rows ha0 hr l0 fun a ha => ⟨_, _, _, ha, ?_⟩⟩
      refine idx_rep (size := 43) (h0 i r hr) rfl (by decide) (by omega) rfl fun a ha => ⟨_, _, _, cells_get ha 42 rfl, Br.no (by show ¬ ((0 : Int) < ((0 : Nat) : Int)); decide) ⟨⟨rfl, k + 1, rfl, by omega⟩, by omega⟩⟩
    · exact ⟨⟨rfl, i + 1, rfl, by omega⟩, by omega⟩
  refine LoopVC.of (fun st w' => w' = w ∧ ∃ i : Nat, st = (i : Int) ∧ i ≤ n1) (fun st _ => ((n1 : Int) - st).toNat) ⟨rfl, 0, rfl, Nat.zero_le _⟩ ?_
  rintro _ w1 ⟨hw, i, rfl, hi⟩
  subst w1
  show weirlaw13_Outer_holds_L58 _ _ (i : Int) w _
  unfold weirlaw13_Outer_holds_L58
  refine ⟨⟨gx, 0, none⟩, rfl, _, _, _, hc1, Br.dec (fun hlt => ?_) fun hge => ?_⟩
  · obtain ⟨r, hr⟩ : ∃ r, r1[i]? = some r := ⟨_, List.getElem?_eq_getElem (by omega)⟩
    have hrn := m1 _ (List.mem_of_getElem? hr)
    have hmk : IntKind.i64.wrap ((-1000) - (i : Int)) = -1000 - (i : Int) := w64 (by omega) (by omega)
    have e1 : IntKind.i64.wrap ((i : Int) + 1) = ((i + 1 : Nat) : Int) := by rw [w64 (by omega) (by omega)]; omega
    refine LoopVC.of (fun st w' => w' = w ∧ ∃ k : Nat, st = (k : Int) ∧ k ≤ r.n) (fun st _ => ((r.n : Int) - st).toNat) ⟨rfl, 0, rfl, Nat.zero_le _⟩ ?_
    rintro _ w2 ⟨hw, k, rfl, hk⟩
    subst w2
    show weirlaw13_Outer_holds_L3730 _ _ (i : Int) _ (k : Int) w _
    unfold weirlaw13_Outer_holds_L3730
    have e2 : IntKind.i64.wrap ((k : Int) + 1) = ((k + 1 : Nat) : Int) := by rw [w64 (by omega) (by omega)]; omega
    rw [hmk, e1, e2]
    refine ⟨⟨gx, 0, none⟩, rfl, _, _, _, hc1, idx_rows ha1 hr l1 fun a ha => ⟨_, _, _, ha, Br.dec (fun hk1 => ?_) fun hk1 => ?_⟩⟩
    · refine ⟨⟨gx, 0, none⟩, rfl, _, _, _, hc1, idx_rows ha1 hr l1 fun a ha => ⟨_, _, _, ha, ?_⟩⟩
      refine idx_rep (size := 44) (h1 i r hr) rfl (by decide) (by omega) rfl fun a ha => ⟨-1000 - (i : Int), cells_get ha 42 rfl, Br.no (fun x => x rfl) ?_⟩
      refine ⟨⟨gx, 0, none⟩, rfl, _, _, _, hc1, idx_rows ha1 hr l1 fun a ha => ⟨_, _, _, ha, ?_⟩⟩
      refine idx_rep (size := 44) (h1 i r hr) rfl (by decide) (by omega) rfl fun a ha => ⟨_, _, _, cells_get ha 43 rfl, Br.no (by show ¬ ((0 : Int) < ((0 : Nat) : Int)); decide) ⟨⟨rfl, k + 1, rfl, by omega⟩, by omega⟩⟩
    · exact ⟨⟨rfl, i + 1, rfl, by omega⟩, by omega⟩
  exact ⟨rfl, rfl⟩
end
end N6
end Go.Proofs.YteppichfkeknbaaGreatDoor
