/- Chapter 13, the document's small functions: copies, how many are kept, how many bytes a piece may have, how long it is. -/
import Derived.Test.YteppichfkeknbaaGreatDoorCb
import Derived.Test.YteppichfkeknbaaGreatDoorBm
import Derived.Test.YteppichfkeknbaaGreatDoorBn
import Derived.Test.YteppichfkeknbaaGreatDoorBj
import Derived.Test.YteppichfkeknbaaGreatDoorBk
import Derived.Test.YteppichfkeknbaaGreatDoorBl
import Derived.Test.YteppichfkeknbaaGreatDoorBh
namespace Go.Proofs.YteppichfkeknbaaGreatDoor
namespace N6
open Go.Eng Go.RowKit
section
variable {w : World} {Γ : List Fct}
theorem copied_spec {s : Sl} {l : List Int} (h : BytesAt w s l) : Calls Tryz.prog 68 #[s.val] w fun e w' => ∃ s' : Sl, e = .returned s'.val ∧ BFine s' l ∧ Sep [Fct.rest w None, rowB w.heap.size s' l] w' := by
  refine weirref7_copied_of s.A s.n s.k w _ ?_
  unfold weirref7_copied_VC
  have hs := h.small
  refine appB (m := s.n) (xs := []) (ys := l) ((Sep.start0 w).nil _ _ _) 1 rfl h.cells h.len (by omega) (Nat.le_refl _) fun A2 c2 w2 H hc2 => ?_
  rw [Nat.zero_add] at H ⊢
  exact ⟨⟨A2, s.n, c2⟩, rfl, ⟨hs, h.bts⟩, H⟩
theorem part_spec {s : Sl} {l : List Int} {p k : Nat} (h : BytesAt w s l) (hk : p + k ≤ s.n) {lo hi : Int} (h1 : lo = p) (h2 : hi = (p + k : Nat)) : Calls Tryz.prog 65 #[s.val, .int .i64 lo, .int .i64 hi] w fun e w' => ∃ s' : Sl, e = .returned s'.val ∧ BFine s' ((l.drop p).take k) ∧ Sep [Fct.rest w None, rowB w.heap.size s' ((l.drop p).take k)] w' := by
  refine weirref13_part_of s.A s.n s.k lo hi w _ ?_
  unfold weirref13_part_VC
  refine h.part hk h1 h2 fun s1 hB => ?_
  have hs := hB.small
  refine appB (m := s1.n) (xs := []) (ys := (l.drop p).take k) ((Sep.start0 w).nil _ _ _) 1 rfl hB.cells hB.len (by omega) (Nat.le_refl _) fun A2 c2 w2 H hc2 => ?_
  rw [Nat.zero_add] at H ⊢
  exact ⟨⟨A2, s1.n, c2⟩, rfl, ⟨hs, hB.bts⟩, H⟩
set_option maxHeartbeats 1000000 in
theorem cloneOpts_spec {s : Sl} {rs : List OptR} (hO : OptsAt w s rs) : Calls Tryz.prog 64 #[s.val] w fun e w' => ∃ (s' : Sl) (rs' : List OptR), e = .returned s'.val ∧
    rs'.map OptR.d = rs.map OptR.d ∧ OptsFine s' rs' ∧ Sep (Fct.rest w None :: optFs w.heap.size s' rs') w' := by
  refine weirref7_CloneOpts_of s.A s.n s.k w _ ?_
  unfold weirref7_CloneOpts_VC
  have hl := hO.len
  have hsm := hO.small
  refine LoopVC.of (fun st w' => ∃ (i : Nat) (rs' : List OptR), st.2 = i ∧ i ≤ s.n ∧ rs'.map OptR.d = (rs.take i).map OptR.d ∧ OptsFine ⟨st.1.1, st.1.2.1, st.1.2.2⟩ rs' ∧ st.1.2.1 = i ∧
      Sep (Fct.rest w None :: optFs w.heap.size ⟨st.1.1, st.1.2.1, st.1.2.2⟩ rs') w') (fun st _ => ((s.n : Int) - st.2).toNat)
    ⟨0, [], rfl, Nat.zero_le _, rfl, ⟨rfl, Nat.zero_le _, fun r hr => by cases hr⟩, rfl, (Sep.start0 w).nil _ _ _⟩ ?_
  rintro ⟨⟨A1, n1, cc⟩, _⟩ w1 ⟨i, rs', rfl, hi, hd, hf, hn1, H⟩
  simp only at hn1
  show weirref7_CloneOpts_L58 _ s.A s.n A1 n1 cc (i : Int) w1 _
  unfold weirref7_CloneOpts_L58
  refine Br.dec (fun hlt => ?_) fun hge => ?_
  · have hri : rs[i]? = some rs[i] := List.getElem?_eq_getElem (by omega)
    have htake : rs.take (i + 1) = rs.take i ++ [rs[i]] := by rw [List.take_add_one, hri]; rfl
    have hi1 : IntKind.i64.wrap ((i : Int) + 1) = ((i + 1 : Nat) : Int) := by rw [w64 (by omega) (by omega)]; omega
    refine DrawVC.sep H (fun w' => OptsAt w' s rs) fun w2 H => ⟨hO.ext H.start1, ?_⟩
    have hS := hO.ext H.start1
    refine OptsAt.idxD (S := fun w' => OptsAt w' s rs) hS (fun w' h => h) hri fun a ha => ⟨_, fun w' h => c0 (ha w' h), ?_⟩
    refine OptsAt.idxD (S := fun w' => OptsAt w' s rs) hS (fun w' h => h) hri fun a ha => ⟨_, _, _, fun w' h => c1 (ha w' h), ?_⟩
    have hz2 := H.start1.size
    refine (copied_spec (s := rs[i].v.data) (l := rs[i].data) (hS.each _ (List.getElem_mem _))).mono ?_
    rintro _ w3 ⟨s', rfl, hB, H3⟩
    have H := H.made (H3.lower 1 rfl hz2)
    refine ⟨_, _, _, rfl, hO.ext H.start1, NewVC.sep H fun g1 w4 H => ⟨hO.ext H.start1, ?_⟩⟩
    have H := H.front
    have hz4 := (H.restOf 1 rfl).size
    refine appO (o := ⟨rs[i].v.kind, s'⟩) H 2 rfl (Cells.blk0 (H.blk 0 rfl)) (show n1 ≤ 1000000000 by omega) (by omega) fun A2 c2 w5 H hc2 => ⟨hO.ext (H.restOf 1 rfl), ⟨i + 1, rs' ++ [⟨⟨rs[i].v.kind, s'⟩, rs[i].data⟩], hi1, by omega, ?_, ⟨?_, by simp only; omega, ?_⟩, by simp only; omega, ?_⟩, by simp only [hi1]; omega⟩
    · rw [htake, List.map_append, List.map_append, hd]
      rfl
    · have := hf.len; simp at this ⊢; omega
    · intro x hx
      rcases List.mem_append.1 hx with hx | hx
      · exact hf.each x hx
      · simp at hx; subst hx; exact hB
    · have H := H.tail
      simp only [optFs, rowO, List.map_append, List.flatten_append, List.map_cons, List.map_nil, List.flatten_cons, List.flatten_nil, List.append_nil]
      exact H
  · have hin : i = s.n := by omega
    exact ⟨⟨A1, n1, cc⟩, rs', rfl, by rw [hd, hin, ← hl, List.take_length], hf, H⟩
set_option maxHeartbeats 1000000 in
theorem cloneExts_spec {s : Sl} {rs : List ExtR} (hX : ExtsAt w s rs) : Calls Tryz.prog 67 #[s.val] w fun e w' => ∃ (s' : Sl) (rs' : List ExtR), e = .returned s'.val ∧
    rs'.map ExtR.d = rs.map ExtR.d ∧ ExtsFine s' rs' ∧ Sep (Fct.rest w None :: extFs w.heap.size s' rs') w' := by
  refine weirref7_CloneExts_of s.A s.n s.k w _ ?_
  unfold weirref7_CloneExts_VC
  have hl := hX.len
  have hsm := hX.small
  refine LoopVC.of (fun st w' => ∃ (i : Nat) (rs' : List ExtR), st.2 = i ∧ i ≤ s.n ∧ rs'.map ExtR.d = (rs.take i).map ExtR.d ∧ ExtsFine ⟨st.1.1, st.1.2.1, st.1.2.2⟩ rs' ∧ st.1.2.1 = i ∧
      Sep (Fct.rest w None :: extFs w.heap.size ⟨st.1.1, st.1.2.1, st.1.2.2⟩ rs') w') (fun st _ => ((s.n : Int) - st.2).toNat)
    ⟨0, [], rfl, Nat.zero_le _, rfl, ⟨rfl, Nat.zero_le _, (fun r hr => by cases hr), fun r hr => by cases hr⟩, rfl, (Sep.start0 w).nil _ _ _⟩ ?_
  rintro ⟨⟨A1, n1, cc⟩, _⟩ w1 ⟨i, rs', rfl, hi, hd, hf, hn1, H⟩
  simp only at hn1
  show weirref7_CloneExts_L58 _ s.A s.n A1 n1 cc (i : Int) w1 _
  unfold weirref7_CloneExts_L58
  refine Br.dec (fun hlt => ?_) fun hge => ?_
  · have hri : rs[i]? = some rs[i] := List.getElem?_eq_getElem (by omega)
    have htake : rs.take (i + 1) = rs.take i ++ [rs[i]] := by rw [List.take_add_one, hri]; rfl
    have hi1 : IntKind.i64.wrap ((i : Int) + 1) = ((i + 1 : Nat) : Int) := by rw [w64 (by omega) (by omega)]; omega
    refine DrawVC.sep H (fun w' => ExtsAt w' s rs) fun w2 H => ⟨hX.ext H.start1, ?_⟩
    have hS := hX.ext H.start1
    refine ExtsAt.idxD (S := fun w' => ExtsAt w' s rs) hS (fun w' h => h) hri fun a ha => ⟨_, fun w' h => c0 (ha w' h), ?_⟩
    refine ExtsAt.idxD (S := fun w' => ExtsAt w' s rs) hS (fun w' h => h) hri fun a ha => ⟨_, _, _, fun w' h => c1 (ha w' h), ?_⟩
    refine ExtsAt.idxD (S := fun w' => ExtsAt w' s rs) hS (fun w' h => h) hri fun a ha => ⟨_, _, _, fun w' h => c2 (ha w' h), ?_⟩
    have hz2 := H.start1.size
    refine (cloneOpts_spec (s := rs[i].v.opts) (rs := rs[i].opts) (hS.opts _ (List.getElem_mem _))).mono ?_
    rintro _ w3 ⟨so, os', rfl, hod, hof, H3⟩
    have H3 := (AllLe.append (AllLe.refl [Fct.rest w2 None]) (optFs_less hz2)).sep H3
    have H := H.mades H3
    have hz3 := (H.restOf 0 rfl).size
    refine ⟨_, _, _, rfl, hX.ext (H.restOf 0 rfl), ?_⟩
    refine (copied_spec (s := rs[i].v.data) (l := rs[i].data) ((hX.data _ (List.getElem_mem _)).ext (H.restOf 0 rfl))).mono ?_
    rintro _ w4 ⟨sd, rfl, hB, H4⟩
    have H := H.made (H4.lower 1 rfl hz3)
    refine ⟨_, _, _, rfl, hX.ext (H.restOf 0 rfl), NewVC.sep H fun g1 w5 H => ?_⟩
    have H := H.front
    have hz5 := (H.restOf 1 rfl).size
    refine ⟨hX.ext (H.restOf 1 rfl), ?_⟩
    refine appE (o := ⟨rs[i].v.kind, so, sd⟩) H 2 rfl (Cells.blk0 (H.blk 0 rfl)) (show n1 ≤ 1000000000 by omega) (by omega) fun A2 c2 w6 H hc2 => ⟨hX.ext (H.restOf 1 rfl), ⟨i + 1, rs' ++ [⟨⟨rs[i].v.kind, so, sd⟩, os', rs[i].data⟩], hi1, by omega, ?_, ⟨?_, by simp only; omega, ?_, ?_⟩, by simp only; omega, ?_⟩, by simp only [hi1]; omega⟩
    · rw [htake, List.map_append, List.map_append, hd]
      simp only [List.map_cons, List.map_nil, ExtR.d, hod]
    · have := hf.len; simp at this ⊢; omega
    · intro x hx
      rcases List.mem_append.1 hx with hx | hx
      · exact hf.opts x hx
      · simp at hx; subst hx; exact hof
    · intro x hx
      rcases List.mem_append.1 hx with hx | hx
      · exact hf.data x hx
      · simp at hx; subst hx; exact hB
    · have H := H.tail
      simp only [extFs, rowE, extF, List.map_append, List.flatten_append, List.map_cons, List.map_nil, List.flatten_cons, List.flatten_nil, List.append_nil, List.flatMap_append, List.flatMap_cons, List.flatMap_nil, ← List.append_assoc]
      exact H
  · have hin : i = s.n := by omega
    exact ⟨⟨A1, n1, cc⟩, rs', rfl, by rw [hd, hin, ← hl, List.take_length], hf, H⟩
set_option maxHeartbeats 1000000 in
theorem clone6_spec {h : Ip6V} {es : List ExtR} {data : List Int} (hA : Ip6At w h es data) : Calls Tryz.prog 29 #[h.val] w fun e w' => ∃ r : Ip6R, e = .returned r.v.val ∧ r.d = h.d es data ∧ Ip6Fine r ∧
    Sep (Fct.rest w None :: rowB w.heap.size r.v.data r.data :: extFs w.heap.size r.v.exts r.exts) w' := by
  refine weirref7_Clone_of h w _ ?_
  unfold weirref7_Clone_VC
  refine NewVC.sep (Sep.start0 w) fun g1 w1 H => NewVC.sep H fun g2 w2 H => ⟨_, _, _, H.cell 1 rfl 37 rfl, ?_⟩
  have hz2 := (H.restOf 0 rfl).size
  refine (cloneExts_spec (s := h.exts) (rs := es) (hA.exts.ext (H.restOf 0 rfl))).mono ?_
  rintro _ w3 ⟨so, os', rfl, hod, hof, H3⟩
  have H3 := (AllLe.append (AllLe.refl [Fct.rest w2 None]) (extFs_less hz2)).sep H3
  have H := H.mades H3
  refine ⟨_, _, _, rfl, SetVC.sep H 1 rfl (show 37 < 44 by decide) fun w4 H => ?_⟩
  have hz4 := (H.restOf 0 rfl).size
  refine ⟨_, _, _, H.cell 1 rfl 43 rfl, ?_⟩
  refine (copied_spec (s := h.data) (l := data) (hA.data.ext (H.restOf 0 rfl))).mono ?_
  rintro _ w5 ⟨sd, rfl, hB, H5⟩
  have H := (H.made (H5.lower 1 rfl hz4)).front
  refine ⟨_, _, _, rfl, SetVC.sep H 2 rfl (show 43 < 44 by decide) fun w6 H => ?_⟩
  refine Ip6V.of { h with exts := so, data := sd } ⟨H.at 2 rfl, Stores.sep H 3 rfl (Ip6V.one _) (Nat.le_refl _) (splice_all rfl) fun w7 H => ?_⟩
  refine Ip6V.of { h with exts := so, data := sd } ⟨H.at 3 rfl, ⟨⟨{ h with exts := so, data := sd }, os', data⟩, rfl, ?_, ⟨hof, hB, hA.src, hA.dst⟩, ?_⟩⟩
  · unfold Ip6R.d Ip6V.d
    rw [hod]
  · have H := H.sub (Γ' := rowB w.heap.size sd data :: Fct.rest w None :: extFs w.heap.size so os') (.cons_cons _ (.cons_cons _ (.cons _ (.cons _ (List.Sublist.refl _)))))
    exact H.perm (.swap _ _ _)
set_option maxHeartbeats 1000000 in
theorem refClone4_spec {h : Ip4V} {os : List OptR} {data : List Int} (hA : Ip4At w h os data) : Calls Tryz.prog 24 #[h.val] w fun e w' => ∃ r : Ip4R, e = .returned r.v.val ∧ r.d = h.d os data ∧ Ip4Fine r ∧ (∃ so sd, r.v = { h with opts := so, data := sd }) ∧
    Sep (Fct.rest w None :: rowB w.heap.size r.v.data r.data :: optFs w.heap.size r.v.opts r.opts) w' := by
  refine weirref13_clone4_of h w _ ?_
  unfold weirref13_clone4_VC
  refine NewVC.sep (Sep.start0 w) fun g1 w1 H => NewVC.sep H fun g2 w2 H => ⟨_, _, _, H.cell 1 rfl 41 rfl, ?_⟩
  have hz2 := (H.restOf 0 rfl).size
  refine (cloneOpts_spec (s := h.opts) (rs := os) (hA.opts.ext (H.restOf 0 rfl))).mono ?_
  rintro _ w3 ⟨so, os', rfl, hod, hof, H3⟩
  have H3 := (AllLe.append (AllLe.refl [Fct.rest w2 None]) (optFs_less hz2)).sep H3
  have H := H.mades H3
  refine ⟨_, _, _, rfl, SetVC.sep H 1 rfl (show 41 < 43 by decide) fun w4 H => ?_⟩
  have hz4 := (H.restOf 0 rfl).size
  refine ⟨_, _, _, H.cell 1 rfl 42 rfl, _, _, _, H.cell 1 rfl 42 rfl, ?_⟩
  refine (part_spec (s := h.data) (l := data) (p := 0) (k := h.data.n) (hA.data.ext (H.restOf 0 rfl)) (by omega) rfl (by omega)).mono ?_
  rintro _ w5 ⟨sd, rfl, hB, H5⟩
  rw [List.drop_zero, List.take_of_length_le (by rw [hA.data.len]; omega)] at hB H5
  have H := (H.made (H5.lower 1 rfl hz4)).front
  refine ⟨_, _, _, rfl, SetVC.sep H 2 rfl (show 42 < 43 by decide) fun w6 H => ?_⟩
  refine Ip4V.of { h with opts := so, data := sd } ⟨H.at 2 rfl, Stores.sep H 3 rfl (Ip4V.one _) (Nat.le_refl _) (splice_all rfl) fun w7 H => ?_⟩
  refine Ip4V.of { h with opts := so, data := sd } ⟨H.at 3 rfl, ⟨⟨{ h with opts := so, data := sd }, os', data⟩, rfl, ?_, ⟨hof, hB, hA.src, hA.dst⟩, ⟨so, sd, rfl⟩, ?_⟩⟩
  · unfold Ip4R.d Ip4V.d
    rw [hod]
  · have H := H.sub (Γ' := rowB w.heap.size sd data :: Fct.rest w None :: optFs w.heap.size so os') (.cons_cons _ (.cons_cons _ (.cons _ (.cons _ (List.Sublist.refl _)))))
    exact H.perm (.swap _ _ _)
theorem length4_spec {h : Ip4V} {os : List OptR} {data : List Int} (hA : Ip4At w h os data) : Calls Tryz.prog 23 #[h.val] w fun e w' => Ext w w' ∧ e = .returned (.int .i64 ((ser4S (h.d os data)).1.length : Nat)) := by
  refine weirref13_length4_of h w _ ?_
  unfold weirref13_length4_VC
  refine NewVC.sep (Sep.start0 w) fun g1 w1 H => Ip4V.of h ⟨H.at 1 rfl, ?_⟩
  refine (refSerialise4_spec (hA.ext (H.restOf 0 rfl))).mono ?_
  rintro _ w2 ⟨A, c, rfl, H2⟩
  exact ⟨_, _, _, _, rfl, (H.restOf 0 rfl).trans (H2.restOf 0 rfl), rfl⟩
theorem refCheck6_spec {h : Ip6V} {es : List ExtR} {data : List Int} (hA : Ip6At w h es data) : Calls Tryz.prog 27 #[h.val] w fun e w' => Ext w w' ∧ e = .returned (.int .i64 (ser6S (h.d es data)).2) := by
  refine weirref7_Check_of h w _ ?_
  unfold weirref7_Check_VC
  refine NewVC.sep (Sep.start0 w) fun g1 w1 H => Ip6V.of h ⟨H.at 1 rfl, ?_⟩
  refine (refSerialise_spec (hA.ext (H.restOf 0 rfl))).mono ?_
  rintro _ w2 ⟨A, c, rfl, H2⟩
  exact ⟨_, _, _, _, rfl, (H.restOf 0 rfl).trans (H2.restOf 0 rfl), rfl⟩
theorem refSize6_spec {h : Ip6V} {es : List ExtR} {data : List Int} (hA : Ip6At w h es data) : Calls Tryz.prog 28 #[h.val] w fun e w' => Ext w w' ∧ e = .returned (.int .i64 ((ser6S (h.d es data)).1.length : Nat)) := by
  refine weirref7_Size_of h w _ ?_
  unfold weirref7_Size_VC
  refine NewVC.sep (Sep.start0 w) fun g1 w1 H => Ip6V.of h ⟨H.at 1 rfl, ?_⟩
  refine (refSerialise_spec (hA.ext (H.restOf 0 rfl))).mono ?_
  rintro _ w2 ⟨A, c, rfl, H2⟩
  exact ⟨_, _, _, _, rfl, (H.restOf 0 rfl).trans (H2.restOf 0 rfl), rfl⟩
end
end N6
end Go.Proofs.YteppichfkeknbaaGreatDoor
/- Chapter 13, the document's Split4 and Fits4. -/
namespace Go.Eng
open Go Go.RowKit
theorem last43_snoc (l : List ExtD) (x : ExtD) : last43 (l ++ [x]) = if x.kind = 43 then l.length + 1 else last43 l := by
  induction l with
  | nil => show (if 0 < last43 [] then _ else _) = _; simp [last43]
  | cons y r ih =>
    rw [List.cons_append]
    unfold last43
    rw [ih]
    by_cases h : x.kind = 43
    · simp [h]
    · simp [h]
/-- How many of n bytes a piece behind a head of a bytes may have. -/
def takeS (left a mtu : Nat) : Nat := if a + left ≤ mtu then left else (mtu - a) / 8 * 8
theorem perm_rows {α : Type} (f : α → Fct) (g : α → List Fct) : ∀ rs : List α, (rs.map f ++ rs.flatMap g).Perm (rs.flatMap fun r => f r :: g r)
  | [] => .nil
  | r :: rs => by
    simp only [List.map_cons, List.flatMap_cons, List.cons_append]
    refine .cons _ ?_
    rw [← List.append_assoc]
    refine .trans ((List.perm_append_comm (l₁ := rs.map f) (l₂ := g r)).append_right _) ?_
    rw [List.append_assoc]
    exact (perm_rows f g rs).append_left _
/-- The head alone may be. -/
theorem head4_ok {d : Ip4D} (hc : check4S d = 0) {os : List OptD} (ho : (putOpts4 os).2 = 0) : check4S { d with opts := os, data := [], mf := false } = 0 := by
  obtain ⟨c1, c2, c3, c4⟩ := check4S_ok hc
  have hl := putOpts4_len os
  have hb : ¬ bad4 { d with opts := os, data := [], mf := false } := c1
  have ho' : ¬ (putOpts4 ({ d with opts := os, data := [], mf := false } : Ip4D).opts).2 ≠ 0 := fun h => h ho
  have ht : ¬ 65535 < 20 + (putOpts4 ({ d with opts := os, data := [], mf := false } : Ip4D).opts).1.length + ({ d with opts := os, data := [], mf := false } : Ip4D).data.length := by
    show ¬ 65535 < 20 + (putOpts4 os).1.length + 0
    omega
  have hf : ¬ frag4 ({ d with opts := os, data := [], mf := false } : Ip4D).mf ({ d with opts := os, data := [], mf := false } : Ip4D).off ({ d with opts := os, data := [], mf := false } : Ip4D).data.length := by
    rintro (⟨h, _⟩ | h)
    · cases h
    · have c5 : ¬ 65515 < d.off + d.data.length := fun h => c4 (.inr h)
      have h : 65515 < d.off + ((0 : Nat) : Int) := h
      omega
  unfold check4S
  rw [if_neg hb, if_neg ho', if_neg ht, if_neg hf]
end Go.Eng
namespace Go.Proofs.YteppichfkeknbaaGreatDoor
namespace N6
open Go.Eng Go.RowKit
section
variable {w : World} {s : Sl}
theorem copying_spec {rs : List OptR} (hO : OptsAt w s rs) : Calls Tryz.prog 25 #[s.val] w (High w rs) :=
  weirref13_copying_of s.A s.n s.k w _ (high_vc hO)
theorem take_spec {left a mtu : Nat} (hl : left ≤ 4000000) (ha : a ≤ mtu) (hm : mtu ≤ 65535) : Calls Tryz.prog 26 #[.int .i64 left, .int .i64 a, .int .i64 mtu] w fun e w' => w' = w ∧ e = .returned (.int .i64 (takeS left a mtu : Nat)) := by
  refine weirref13_take_of left a mtu w _ ?_
  unfold weirref13_take_VC takeS
  rw [w64 (by omega) (by omega)]
  refine Br.dec (fun h => ⟨rfl, by rw [if_pos (by omega)]⟩) fun h => ?_
  rw [if_neg (by omega)]
  refine LoopVC.of (fun st w' => w' = w ∧ ∃ i : Nat, st = ((8 * i : Nat) : Int) ∧ a + 8 * i ≤ mtu) (fun st _ => ((mtu : Int) - st).toNat) ⟨rfl, 0, rfl, by omega⟩ ?_
  rintro _ _ ⟨rfl, i, rfl, hi⟩
  unfold weirref13_take_L60
  rw [w64 (n := (a : Int) + ((8 * i : Nat) : Int)) (by omega) (by omega), w64 (by omega) (by omega), w64 (by omega) (by omega)]
  refine Br.dec (fun h1 => ⟨⟨rfl, i + 1, by omega, by omega⟩, by omega⟩) fun h1 => ⟨rfl, ?_⟩
  have : 8 * i = (mtu - a) / 8 * 8 := by omega
  rw [this]
def Rows4 (b : Nat) (rs : List Ip4R) : List Fct := rs.flatMap fun r => rowB b r.v.data r.data :: optFs b r.v.opts r.opts
set_option maxHeartbeats 2000000 in
theorem refSplit4_loop {w w0 : World} {h : Ip4V} {os : List OptR} {data : List Int} {mtu g1 : Nat} (hA : Ip4At w0 h os data) (hc : check4S (h.d os data) = 0) (hm : 68 ≤ mtu ∧ mtu ≤ 65535) (hn : 0 < data.length)
    (H0 : Sep [Fct.blk g1 28 h.cells, Fct.rest w0 None] w) :
    LoopVC (S := (Option Addr × Nat × Nat) × Int) (fun s_ w6 K2044 => weirref13_Split4_L2044 (Cut4 w0 ((parts (hd4 (h.d os data)) (hd4k (h.d os data)) mtu data.length 0).map (piece4 (h.d os data)), 0)) (mtu : Int) g1 s_.1.1 s_.1.2.1 s_.1.2.2 s_.2 w6 K2044) ((none, 0, 0), 0) w := by
  have ok := check4S_ok hc
  have hoff : 0 ≤ h.off ∧ h.off ≤ 65528 := by have := ok.1; rw [bad4_iff] at this; omega
  have hkk : (putOpts4 (os.map OptR.d)).2 = 0 := ok.2.1
  have hdl := hA.data.len
  have hds := hA.data.small
  have h4 := hd4_two (h.d os data)
  generalize hall : (parts (hd4 (h.d os data)) (hd4k (h.d os data)) mtu data.length 0).map (piece4 (h.d os data)) = all
  refine LoopVC.of (fun st w' => ∃ (p : Nat) (rs : List Ip4R), st.2 = p ∧ p ≤ data.length ∧ (p < data.length → rs.map Ip4R.d ++ (parts (hd4 (h.d os data)) (hd4k (h.d os data)) mtu data.length p).map (piece4 (h.d os data)) = all) ∧ (p = data.length → rs.map Ip4R.d = all) ∧
      rs.length = st.1.2.1 ∧ st.1.2.1 ≤ p ∧ (∀ r ∈ rs, Ip4Fine r) ∧ Sep (Fct.blk g1 28 h.cells :: Fct.rest w0 None :: rowI4 w0.heap.size ⟨st.1.1, st.1.2.1, st.1.2.2⟩ rs :: Rows4 w0.heap.size rs) w') (fun st _ => ((data.length : Int) - st.2).toNat)
    ⟨0, [], rfl, Nat.zero_le _, fun _ => hall, fun h => by omega, rfl, Nat.zero_le _, (fun r hr => by cases hr), H0.nil _ _ _⟩ ?_
  rintro ⟨⟨A1, n1, cc⟩, _⟩ w6 ⟨p, rs, rfl, hp, hd1, hd2, hlen, hn1, hfr, H⟩
  simp only at hn1 hlen
  show weirref13_Split4_L2044 _ (mtu : Int) g1 A1 n1 cc (p : Int) w6 _
  unfold weirref13_Split4_L2044
  refine ⟨_, _, _, H.cell 0 rfl 42 rfl, Br.dec (fun hlt => ?_) fun hge => ?_⟩
  · have hpn : p < data.length := by omega
    have hd1 := hd1 hpn
    refine Ip4V.of h ⟨H.at 0 rfl, NewVC.sep H fun g3 w7 H => ?_⟩
    have H := H.front
    refine Stores.sep H 0 rfl (Ip4V.one _) (Nat.le_refl _) (splice_all rfl) fun w8 H => ?_
    have h1c : ∀ (os' : List OptR), ∀ r ∈ os'.map (fun r => r.v.cells), r ≠ [] := fun os' r hr => by obtain ⟨y, _, rfl⟩ := List.mem_map.1 hr; simp [OptV.cells]
    have h2c : ∀ (os' : List OptR), ∀ r ∈ os'.map (fun r => r.v.cells), r.length = 2 := fun os' r hr => by obtain ⟨y, _, rfl⟩ := List.mem_map.1 hr; rfl
    refine JoinVC.of (fun _ w' => ∃ (so : Sl) (os' : List OptR), os'.map OptR.d = (if p = 0 then os.map OptR.d else (os.map OptR.d).filter hi) ∧ OptsOld w0 so os' ∧
      Sep (Fct.recs w0 so.A 2 (os'.map fun r => r.v.cells) :: Fct.blk g3 28 ({ h with opts := so } : Ip4V).cells :: Fct.blk g1 28 h.cells :: Fct.rest w0 None :: rowI4 w0.heap.size ⟨A1, n1, cc⟩ rs :: Rows4 w0.heap.size rs) w') ?_ ?_
    · refine Br.dec (fun h0 => ?_) fun h0 => ?_
      · refine ⟨_, _, _, H.cell 1 rfl 41 rfl, ?_⟩
        have hz8 := (H.restOf 2 rfl).size
        refine (copying_spec (s := h.opts) (rs := os) (hA.opts.ext (H.restOf 2 rfl))).mono ?_
        rintro _ w9 ⟨so, os', rfl, ho, hsub, hol, hos, hoc, H9⟩
        have H := ((H.made (H9.lower 1 rfl hz8)).front).ownRecs (w0 := w0) (s := so) 0 rfl (by decide) (h2c os') (Nat.le_refl _)
        refine ⟨_, _, _, rfl, SetVC.sep H 1 rfl (show 41 < 43 by decide) fun w10 H => ⟨so, os', ?_, ⟨hol, hoc, hos, fun r hr => hA.opts.each r (hsub r hr)⟩, H⟩⟩
        rw [if_neg (by omega), ho]
      · refine ⟨h.opts, os, ?_, hA.opts.old, ?_⟩
        · rw [if_pos (by omega)]
        · exact (H.pushRecs (w0 := w0) (rs := os.map fun r => r.v.cells) hA.opts.recs (h1c os)).front
    rintro _ w11 ⟨so, os', hod, hoo, H⟩
    show weirref13_Split4_J32709 _ (mtu : Int) g1 A1 n1 cc (p : Int) _ g3 w11
    unfold weirref13_Split4_J32709
    refine SetVC.sep H 1 rfl (show 42 < 43 by decide) fun w12 H => SetVC.sep H 1 rfl (show 3 < 43 by decide) fun w13 H => ?_
    refine Ip4V.of { h with opts := so, data := ⟨none, 0, 0⟩, mf := false } ⟨H.at 1 rfl, ?_⟩
    have hA6 : Ip4At w13 { h with opts := so, data := ⟨none, 0, 0⟩, mf := false } os' [] := ⟨H.optAt (H.restOf 3 rfl) 0 rfl hoo, BytesAt.nil _ _ _, hA.src, hA.dst⟩
    refine (length4_spec hA6).mono ?_
    rintro _ w14 ⟨hE14, rfl⟩
    have H := H.ext hE14
    have hpo : (putOpts4 (os'.map OptR.d)).2 = 0 := by
      rw [hod]; split
      · exact hkk
      · exact putOpts4_filter hi hkk
    have hhead : (ser4S (Ip4V.d { h with opts := so, data := ⟨none, 0, 0⟩, mf := false } os' [])).1.length = (if p = 0 then hd4 (h.d os data) else hd4k (h.d os data)) := by
      have hck := head4_ok hc hpo
      have := (ser4S_len (d := Ip4V.d { h with opts := so, data := ⟨none, 0, 0⟩, mf := false } os' []) hck).2
      rw [this]
      have e : hd4 (Ip4V.d { h with opts := so, data := ⟨none, 0, 0⟩, mf := false } os' []) = 20 + (putOpts4 (os'.map OptR.d)).1.length := rfl
      rw [e, hod]
      split <;> rfl
    rw [hhead]
    generalize hhd : (if p = 0 then hd4 (h.d os data) else hd4k (h.d os data)) = hd
    have hd60 : hd ≤ 60 := by rw [← hhd]; split <;> omega
    have hroom : room (hd4 (h.d os data)) (hd4k (h.d os data)) mtu p = mtu - hd := by rw [← hhd]; unfold room; split <;> rfl
    refine ⟨_, rfl, _, _, _, H.cell 2 rfl 42 rfl, ?_⟩
    rw [show IntKind.i64.wrap ((h.data.n : Int) - (p : Int)) = ((data.length - p : Nat) : Int) by rw [w64 (by omega) (by omega)]; omega]
    refine (take_spec (by omega) (by omega) hm.2).mono ?_
    rintro _ w15 ⟨hw15, rfl⟩
    subst w15
    refine ⟨_, rfl, ?_⟩
    generalize htk : takeS (data.length - p) hd mtu = k
    -- the part
    have hpart : p + k ≤ data.length ∧ ((p + k = data.length ∧ parts (hd4 (h.d os data)) (hd4k (h.d os data)) mtu data.length p = [(p, k)]) ∨
        (p + k < data.length ∧ 0 < k ∧ parts (hd4 (h.d os data)) (hd4k (h.d os data)) mtu data.length p = (p, k) :: parts (hd4 (h.d os data)) (hd4k (h.d os data)) mtu data.length (p + k))) := by
      by_cases hfit : data.length - p ≤ room (hd4 (h.d os data)) (hd4k (h.d os data)) mtu p
      · have hk : k = data.length - p := by rw [← htk]; unfold takeS; rw [if_pos (by omega)]
        refine ⟨by omega, .inl ⟨by omega, ?_⟩⟩
        rw [parts_last hfit, hk]
      · have hk : k = room (hd4 (h.d os data)) (hd4k (h.d os data)) mtu p / 8 * 8 := by rw [← htk, hroom]; unfold takeS; rw [if_neg (by omega)]
        refine ⟨by omega, .inr ⟨by omega, by omega, ?_⟩⟩
        rw [parts_more (by omega) (by omega) hfit, hk]
    obtain ⟨hpk, hpc⟩ := hpart
    have e1 : IntKind.i64.wrap ((p : Int) + (k : Int)) = ((p + k : Nat) : Int) := by rw [w64 (by omega) (by omega)]; omega
    rw [e1]
    obtain ⟨hq, hhq⟩ : ∃ hq : Ip4V, hq = { h with opts := so, data := ⟨none, 0, 0⟩, mf := decide (p + k < data.length) || h.mf } := ⟨_, rfl⟩
    refine JoinVC.of (fun _ w' => Sep (Fct.recs w0 so.A 2 (os'.map fun r => r.v.cells) :: Fct.blk g3 28 hq.cells :: Fct.blk g1 28 h.cells :: Fct.rest w0 None :: rowI4 w0.heap.size ⟨A1, n1, cc⟩ rs :: Rows4 w0.heap.size rs) w') ?_ ?_
    · refine ⟨_, _, _, H.cell 2 rfl 42 rfl, Br.dec (fun hm1 => SetVC.sep H 1 rfl (show 3 < 43 by decide) fun w16 H => ?_) fun hm1 => ⟨_, H.cell 2 rfl 3 rfl, SetVC.sep H 1 rfl (show 3 < 43 by decide) fun w17 H => ?_⟩⟩
      · show Sep _ w16
        rw [hhq, decide_eq_true (by omega)]
        exact H
      · show Sep _ w17
        rw [hhq, decide_eq_false (by omega)]
        exact H
    rintro _ w18 H
    unfold weirref13_Split4_J1046719
    refine ⟨_, H.cell 2 rfl 4 rfl, SetVC.sep H 1 rfl (show 4 < 43 by decide) fun w19 H => ⟨_, _, _, H.cell 2 rfl 42 rfl, ?_⟩⟩
    rw [e1]
    have hpd : (data.drop p).take k = (piece4 (h.d os data) (p, k)).data := rfl
    refine hA.data.part (p := p) (k := k) (by omega) rfl rfl fun sp hsp => SetVC.sep H 1 rfl (show 42 < 43 by decide) fun w20 H => ?_
    obtain ⟨h7, hh7⟩ : ∃ h7 : Ip4V, h7 = { hq with off := h.off + p, data := sp } := ⟨_, rfl⟩
    have e2 : IntKind.i64.wrap (h.off + (p : Int)) = h.off + p := w64 (by omega) (by omega)
    have H : Sep (Fct.recs w0 so.A 2 (os'.map fun r => r.v.cells) :: Fct.blk g3 28 h7.cells :: Fct.blk g1 28 h.cells :: Fct.rest w0 None :: rowI4 w0.heap.size ⟨A1, n1, cc⟩ rs :: Rows4 w0.heap.size rs) w20 := by
      rw [e2] at H
      rw [hh7]; exact H
    have hA7 : Ip4At w20 h7 os' ((data.drop p).take k) := by
      refine ⟨?_, ?_, ?_, ?_⟩
      · rw [hh7, hhq]; exact H.optAt (H.restOf 3 rfl) 0 rfl hoo
      · rw [hh7]; exact hsp.ext (H.restOf 3 rfl)
      · rw [hh7, hhq]; exact hA.src
      · rw [hh7, hhq]; exact hA.dst
    have hd7 : h7.d os' ((data.drop p).take k) = piece4 (h.d os data) (p, k) := by
      rw [hh7, hhq]
      unfold Ip4V.d piece4
      simp only [hod]
    refine Ip4V.of h7 ⟨H.at 1 rfl, ?_⟩
    have hz20 := (H.restOf 3 rfl).size
    refine (refClone4_spec hA7).mono ?_
    rintro _ w21 ⟨r, rfl, hrd, hrf, _, H21⟩
    rw [hd7] at hrd
    have H21 := (AllLe.append (AllLe.refl [Fct.rest w20 None]) (.cons (own_less hz20).1 (own_less hz20).2 (optFs_less hz20))).sep H21
    have H := H.mades H21
    refine onRet_ret (Ip4V.of r.v ⟨rfl, NewVC.sep H fun g4 w22 H => ?_⟩)
    have H := H.front
    have hz22 := (H.restOf 4 rfl).size
    refine appI4 H 5 rfl (Cells.blk0 (H.blk 0 rfl)) (show n1 ≤ 1000000000 by omega) (by omega) fun A2 c2 w23 H hc2 => ⟨⟨p + k, rs ++ [r], rfl, hpk, ?_, ?_, by simp [hlen], ?_, ?_, ?_⟩, ?_⟩
    · intro hlt2
      rcases hpc with ⟨h1, _⟩ | ⟨_, _, h2⟩
      · omega
      · rw [← hd1, h2, List.map_append, List.map_cons, List.map_nil, hrd]; simp
    · intro he
      rcases hpc with ⟨_, h2⟩ | ⟨h1, _, _⟩
      · rw [← hd1, h2, List.map_append, List.map_cons, List.map_nil, hrd]; simp
      · omega
    · rcases hpc with ⟨h1, _⟩ | ⟨_, h1, _⟩
      · show n1 + 1 ≤ p + k; omega
      · show n1 + 1 ≤ p + k; omega
    · intro y hy
      rcases List.mem_append.1 hy with hy | hy
      · exact hfr y hy
      · simp at hy; subst hy; exact hrf
    · have H := (H.tail.tail.tail)
      simp only [rowI4, Rows4, List.map_append, List.flatten_append, List.map_cons, List.map_nil, List.flatten_cons, List.flatten_nil, List.append_nil, List.flatMap_append, List.flatMap_cons, List.flatMap_nil]
      exact H
    · show ((data.length : Int) - ((p + k : Nat) : Int)).toNat < ((data.length : Int) - (p : Int)).toNat
      rcases hpc with ⟨h1, _⟩ | ⟨_, h1, _⟩ <;> omega
  · have hpe : p = data.length := by omega
    refine ⟨⟨A1, n1, cc⟩, rs, rfl, hd2 hpe, ⟨hlen, by show n1 ≤ 4000001; omega, hfr⟩, ?_⟩
    have H := H.tail
    exact H.perm (.cons _ (.cons _ (perm_rows _ _ rs)))
end
end N6
end Go.Proofs.YteppichfkeknbaaGreatDoor
/- Chapter 13, the document's Split4; how many headers are kept; PutChain; Fits6. -/
namespace Go.Proofs.YteppichfkeknbaaGreatDoor
namespace N6
open Go.Eng Go.RowKit
section
variable {w : World} {Γ : List Fct}
theorem cut4_one {w w9 : World} {g3 : Nat} {r : Ip4R} {Δ : List Fct} {d : Ip4D} (hrd : r.d = d) (hrf : Ip4Fine r) (hg : w.heap.size ≤ g3) (H : Sep (Fct.blk g3 28 r.v.cells :: Fct.rest w None :: (Δ ++ (rowB w.heap.size r.v.data r.data :: optFs w.heap.size r.v.opts r.opts))) w9) :
    Cut4 w ([d], 0) (.returned (.tuple #[.slice (some ⟨g3, 0, none⟩) 1 1, .int .i64 0])) w9 := by
  have H := H.blkRec 0 rfl (b := w.heap.size) (n := 1) (size := 43) hg rfl (by decide)
  refine ⟨⟨some ⟨g3, 0, none⟩, 1, 1⟩, [r], rfl, by simp [hrd], ⟨rfl, show 1 ≤ 4000001 by decide, fun y hy => by simp at hy; subst hy; exact hrf⟩, ?_⟩
  have H := H.sub (Γ' := rowI4 w.heap.size ⟨some ⟨g3, 0, none⟩, 1, 1⟩ [r] :: Fct.rest w None :: rowB w.heap.size r.v.data r.data :: optFs w.heap.size r.v.opts r.opts) (by
    simp only [rowI4, List.map_cons, List.map_nil, List.flatten_cons, List.flatten_nil, List.append_nil]
    exact .cons_cons _ (.cons_cons _ (List.sublist_append_right _ _)))
  have H := H.perm (.swap _ _ _)
  unfold ip4Fs
  simp only [List.map_cons, List.map_nil, List.flatMap_cons, List.flatMap_nil, List.append_nil, List.singleton_append]
  exact H
set_option maxHeartbeats 1000000 in
theorem refSplit4_spec {h : Ip4V} {os : List OptR} {data : List Int} {mtu : Int} (hA : Ip4At w h os data) : Calls Tryz.prog 5 #[h.val, .int .i64 mtu] w (Cut4 w (split4S (h.d os data) mtu)) := by
  refine weirref13_Split4_of h mtu w _ ?_
  unfold weirref13_Split4_VC
  refine NewVC.sep (Sep.start0 w) fun g1 w1 H => Ip4V.of h ⟨H.at 1 rfl, ?_⟩
  refine (refCheck4_spec (hA.ext (H.restOf 0 rfl))).mono ?_
  rintro _ w2 ⟨hE2, rfl⟩
  have H := H.ext hE2
  refine ⟨_, rfl, Br.dec (fun hne => Cut4.err (H.restOf 0 rfl) (by unfold split4S; rw [if_pos hne])) fun hc => ?_⟩
  have hc : check4S (h.d os data) = 0 := by omega
  refine Br.dec (fun h1 => Cut4.err (H.restOf 0 rfl) (by unfold split4S; rw [if_neg (by omega), if_pos (by omega)])) fun h1 => ?_
  refine Br.dec (fun h2 => Cut4.err (H.restOf 0 rfl) (by unfold split4S; rw [if_neg (by omega), if_pos (by omega)])) fun h2 => ?_
  obtain ⟨m, rfl⟩ : ∃ m : Nat, mtu = m := ⟨mtu.toNat, by omega⟩
  have h4 := hd4_two (h.d os data)
  have hl : (ser4S (h.d os data)).1.length = hd4 (h.d os data) + data.length := (ser4S_len hc).2
  have hed : (h.d os data).data = data := rfl
  have hes : split4S (h.d os data) (m : Int) = if ((hd4 (h.d os data) + data.length : Nat) : Int) ≤ (m : Int) then ([h.d os data], 0) else if h.df = true then ([], 130)
      else ((parts (hd4 (h.d os data)) (hd4k (h.d os data)) m data.length 0).map (piece4 (h.d os data)), 0) := by
    unfold split4S
    rw [if_neg (by omega), if_neg (by omega), hed]
    rfl
  refine Ip4V.of h ⟨H.at 1 rfl, ?_⟩
  refine (length4_spec (hA.ext (H.restOf 0 rfl))).mono ?_
  rintro _ w3 ⟨hE3, rfl⟩
  have H := H.ext hE3
  rw [hl]
  refine ⟨_, rfl, Br.dec (fun hfit => ?_) fun hfit => ?_⟩
  · rw [if_pos hfit] at hes
    refine Ip4V.of h ⟨H.at 1 rfl, ?_⟩
    have hz3 := (H.restOf 0 rfl).size
    refine (refClone4_spec (hA.ext (H.restOf 0 rfl))).mono ?_
    rintro _ w4 ⟨r, rfl, hrd, hrf, _, H4⟩
    have H4 := (AllLe.append (AllLe.refl [Fct.rest w3 None]) (.cons (own_less hz3).1 (own_less hz3).2 (optFs_less hz3))).sep H4
    have H := H.mades H4
    refine onRet_ret (Ip4V.of r.v ⟨rfl, NewVC.sep H fun g3 w5 H => ?_⟩)
    have H := H.front
    have hg := H.fresh 1 0 (by decide) rfl rfl
    rw [hes]
    exact cut4_one (Δ := [Fct.blk g1 28 h.cells]) hrd hrf hg H
  · rw [if_neg hfit] at hes
    refine ⟨_, H.cell 1 rfl 2 rfl, ?_⟩
    cases hdf : h.df with
    | true =>
      rw [if_pos hdf] at hes
      exact Br.t rfl (Cut4.err (H.restOf 0 rfl) hes)
    | false =>
      rw [if_neg (by rw [hdf]; decide)] at hes
      refine Br.f rfl ?_
      rw [hes]
      refine refSplit4_loop hA hc ⟨by omega, by omega⟩ (by omega) ?_
      exact H.perm (.swap _ _ _)
theorem refKept_spec {s : Sl} {rs : List ExtR} (hX : ExtsAt w s rs) : Calls Tryz.prog 30 #[s.val] w fun e w' => w' = w ∧ e = .returned (.int .i64 (keptS (rs.map ExtR.d) : Nat)) := by
  refine weirref13_kept_of s.A s.n s.k w _ ?_
  unfold weirref13_kept_VC
  have hl := hX.len
  have hsm := hX.small
  refine JoinVC.of (fun x w' => w' = w ∧ x = (((match rs.map ExtR.d with | [] => 0 | x :: _ => if x.kind = 0 then 1 else 0 : Nat) : Nat) : Int)) ?_ ?_
  · refine Br.dec (fun h0 => ?_) fun h0 => ?_
    · refine hX.idx (i := 0) rfl (by omega) fun a r hr hc _ _ => ⟨r.v.kind, by simpa [ExtV.cells, add_zero] using hc.1, ?_⟩
      obtain ⟨rs1, rfl⟩ : ∃ rs1, rs = r :: rs1 := by
        cases rs with
        | nil => cases hr
        | cons x l => simp at hr; subst hr; exact ⟨l, rfl⟩
      refine Br.dec (fun h2 => ⟨rfl, ?_⟩) fun h2 => ⟨rfl, ?_⟩
      · simp only [List.map_cons]; rw [if_pos (show r.d.kind = 0 from h2)]; rfl
      · simp only [List.map_cons]; rw [if_neg (show ¬ r.d.kind = 0 from h2)]; rfl
    · have : rs = [] := List.eq_nil_of_length_eq_zero (by omega)
      subst this
      exact ⟨rfl, rfl⟩
  rintro n w1 ⟨hw1, hn⟩
  subst w1
  unfold weirref13_kept_J7
  refine LoopVC.of (fun st w' => w' = w ∧ ∃ i : Nat, st.2 = (i : Int) ∧ i ≤ s.n ∧ st.1 = if 0 < last43 ((rs.map ExtR.d).take i) then ((last43 ((rs.map ExtR.d).take i) : Nat) : Int) else n) (fun st _ => ((s.n : Int) - st.2).toNat) ⟨rfl, 0, rfl, Nat.zero_le _, by simp [last43]⟩ ?_
  rintro ⟨_, _⟩ w2 ⟨hw2, i, rfl, hi, rfl⟩
  subst w2
  show weirref13_kept_L122 _ s.A s.n (if 0 < last43 ((rs.map ExtR.d).take i) then ((last43 ((rs.map ExtR.d).take i) : Nat) : Int) else n) (i : Int) w _
  unfold weirref13_kept_L122
  refine Br.dec (fun hlt => ?_) fun hge => ?_
  · refine hX.idx rfl (by omega) fun a r hr hc _ _ => ⟨r.v.kind, by simpa [ExtV.cells, add_zero] using hc.1, ?_⟩
    have hi1 : IntKind.i64.wrap ((i : Int) + 1) = ((i + 1 : Nat) : Int) := by rw [w64 (by omega) (by omega)]; omega
    have htake : (rs.map ExtR.d).take (i + 1) = (rs.map ExtR.d).take i ++ [r.d] := by
      rw [List.take_add_one, List.getElem?_map, hr]; rfl
    have htl : ((rs.map ExtR.d).take i).length = i := by rw [List.length_take, List.length_map]; omega
    rw [hi1]
    refine Br.dec (fun h1 => ⟨⟨rfl, i + 1, rfl, by omega, ?_⟩, by simp only; omega⟩) fun h1 => ⟨⟨rfl, i + 1, rfl, by omega, ?_⟩, by simp only; omega⟩
    · rw [htake, last43_snoc, if_pos (show r.d.kind = 43 from h1), htl, if_pos (by omega)]
    · rw [htake, last43_snoc, if_neg (show ¬ r.d.kind = 43 from h1)]
  · have hin : i = s.n := by omega
    refine ⟨rfl, ?_⟩
    have htk : (rs.map ExtR.d).take i = rs.map ExtR.d := List.take_of_length_le (by rw [List.length_map]; omega)
    rw [htk, hn]
    unfold keptS
    split
    · rfl
    · cases rs.map ExtR.d <;> rfl
theorem refPutChain_spec {s : Sl} {rs : List ExtR} {next : Int} (hX : ExtsAt w s rs) : Calls Tryz.prog 31 #[s.val, .int .i64 next] w (Made w (putChainS (rs.map ExtR.d) next)) := by
  refine weirref7_PutChain_of s.A s.n s.k next w _ ?_
  unfold weirref7_PutChain_VC
  have r1 : next < 0 ∨ 255 < next → putChainS (rs.map ExtR.d) next = ([], 1) := fun h => by unfold putChainS; rw [if_pos h]
  refine refOut_spec.mono ?_
  rintro _ _ ⟨rfl, rfl⟩
  refine ⟨_, rfl, Br.dec (fun h1 => Made.err (Mod.refl _ _) (r1 h1)) fun h1 => ?_⟩
  refine (refHeaders_spec (next := next) (top := false) hX).mono ?_
  rintro _ w2 ⟨A, c, rfl, H⟩
  have hs : putChainS (rs.map ExtR.d) next = if (headersS (rs.map ExtR.d) next false).2 ≠ 0 then ([], (headersS (rs.map ExtR.d) next false).2) else if upperS next = true then ((headersS (rs.map ExtR.d) next false).1, 0) else ([], 72) := by
    unfold putChainS; rw [if_neg h1]
  refine ⟨_, _, _, _, rfl, Br.dec (fun h3 => Made.err (H.restOf 0 rfl) (by rw [hs, if_pos h3])) fun h3 => ?_⟩
  rw [if_neg h3] at hs
  refine upper_spec.mono ?_
  rintro _ _ ⟨rfl, rfl⟩
  refine ⟨_, rfl, ?_⟩
  cases hu : upperS next with
  | true => exact Br.f rfl (Made.ok (by rw [hs, if_pos hu]) H)
  | false => exact Br.t rfl (Made.err (H.restOf 0 rfl) (by rw [hs, if_neg (by rw [hu]; decide)]))
end
end N6
end Go.Proofs.YteppichfkeknbaaGreatDoor
/- Chapter 13, the document's Split6: the loop over the pieces. -/
namespace Go.Eng
open Go Go.RowKit
/-- A window of bytes, and of the same bytes in any later memory. -/
theorem BytesAt.partW {w : World} {s : Sl} {l : List Int} (h : BytesAt w s l) {p k : Nat} (hk : p + k ≤ s.n) {lo hi : Int} (h1 : lo = p) (h2 : hi = (p + k : Nat)) {F : Option Addr → Nat → Nat → Prop}
    (hF : ∀ s' : Sl, (∀ w', BytesAt w' s l → BytesAt w' s' ((l.drop p).take k)) → F s'.A s'.n s'.k) : SliceVC s.A s.n s.k 1 (some lo) (some hi) none F := by
  subst h1; subst h2
  have hc := h.cap
  have hs := h.small
  have hl := h.len
  refine ⟨by omega, by omega, by omega, ?_⟩
  simp only [Int.toNat_natCast, Nat.mul_one]
  have e : p + k - p = k := by omega
  rw [e]
  refine hF ⟨_, k, s.k - p⟩ fun w' h' => ⟨by simp; omega, by show k ≤ s.k - p; omega, by show k ≤ 4000000; omega, fun x hx => h.bts x (List.mem_of_mem_drop (List.mem_of_mem_take hx)), ?_⟩
  have := h'.cells.win (p := p) (k := k)
  rw [List.map_take, List.map_drop]
  simp only [Int.toNat_natCast] at this
  show Cells w' (if s.k = p then s.A else s.A.map (·.add p)) _
  by_cases h0 : k = 0
  · subst h0; simpa using Cells.nil _ _
  · rw [if_neg (by omega)] at this ⊢
    exact this
end Go.Eng
namespace Go.Proofs.YteppichfkeknbaaGreatDoor
namespace N6
open Go.Eng Go.RowKit
section
variable {w : World} {Γ : List Fct}
def Rows6 (b : Nat) (rs : List Ip6R) : List Fct := rs.flatMap fun r => rowB b r.v.data r.data :: extFs b r.v.exts r.exts
def pv6 (h : Ip6V) (se : Sl) (nx id : Int) (more : Bool) (off : Int) (sd : Sl) : Ip6V := { h with exts := se, next := nx, frag := ⟨true, more, id, off⟩, data := sd }
set_option maxHeartbeats 2000000 in
theorem refSplit6_loop {w w0 : World} {h : Ip6V} {es : List ExtR} {data cut : List Int} {a mtu g3 : Nat} {id : Int} {se sl sd0 : Sl} {more0 : Bool} {off0 : Int} (hA : Ip6At w0 h es data) (ha : a + 8 ≤ mtu) (hm : mtu ≤ 65535)
    (hcut : cut = rest6 (h.d es data)) (hn : 0 < cut.length) (hcl : BFine sl cut) (hse : ExtsAt w0 se (es.take (keptS (es.map ExtR.d))))
    (H0 : Sep [Fct.blk g3 33 (pv6 h se (firstR (h.d es data)) id more0 off0 sd0).cells, rowB w0.heap.size sl cut, Fct.rest w0 None] w) :
    LoopVC (S := (Option Addr × Nat × Nat) × Int) (fun s_ w18 K => weirref13_Split6_L4194300 (Cut6 w0 ((parts a a mtu cut.length 0).map (piece6 (h.d es data) id), 0)) (mtu : Int) sl.A sl.n sl.k g3 (a : Int) s_.1.1 s_.1.2.1 s_.1.2.2 s_.2 w18 K) ((none, 0, 0), 0) w := by
  generalize hall : (parts a a mtu cut.length 0).map (piece6 (h.d es data) id) = all
  have hcn : sl.n = cut.length := (ownB_len H0 1 rfl).symm
  have hcs := hcl.1
  refine LoopVC.of (fun st w' => ∃ (p : Nat) (rs : List Ip6R) (more : Bool) (off : Int) (sd : Sl), st.2 = p ∧ p ≤ cut.length ∧ (p < cut.length → rs.map Ip6R.d ++ (parts a a mtu cut.length p).map (piece6 (h.d es data) id) = all) ∧ (p = cut.length → rs.map Ip6R.d = all) ∧
      rs.length = st.1.2.1 ∧ st.1.2.1 ≤ p ∧ (∀ r ∈ rs, Ip6Fine r) ∧ Sep (Fct.blk g3 33 (pv6 h se (firstR (h.d es data)) id more off sd).cells :: rowB w0.heap.size sl cut :: Fct.rest w0 None :: rowI6 w0.heap.size ⟨st.1.1, st.1.2.1, st.1.2.2⟩ rs :: Rows6 w0.heap.size rs) w') (fun st _ => ((cut.length : Int) - st.2).toNat)
    ⟨0, [], more0, off0, sd0, rfl, Nat.zero_le _, fun _ => hall, fun h => by omega, rfl, Nat.zero_le _, (fun r hr => by cases hr), H0.nil _ _ _⟩ ?_
  rintro ⟨⟨A1, n1, cc⟩, _⟩ w18 ⟨p, rs, more, off, sd, rfl, hp, hd1, hd2, hlen, hn1, hfr, H⟩
  simp only at hn1 hlen
  show weirref13_Split6_L4194300 _ (mtu : Int) sl.A sl.n sl.k g3 (a : Int) A1 n1 cc (p : Int) w18 _
  unfold weirref13_Split6_L4194300
  refine Br.dec (fun hlt => ?_) fun hge => ?_
  · have hpn : p < cut.length := by omega
    have hd1 := hd1 hpn
    rw [show IntKind.i64.wrap ((sl.n : Int) - (p : Int)) = ((cut.length - p : Nat) : Int) by rw [w64 (by omega) (by omega)]; omega]
    refine (take_spec (by omega) (by omega) hm).mono ?_
    rintro _ w19 ⟨hw19, rfl⟩
    subst w19
    refine ⟨_, rfl, ?_⟩
    have hroom : room a a mtu p = mtu - a := by unfold room; split <;> rfl
    generalize htk : takeS (cut.length - p) a mtu = k
    have hpart : p + k ≤ cut.length ∧ ((p + k = cut.length ∧ parts a a mtu cut.length p = [(p, k)]) ∨ (p + k < cut.length ∧ 0 < k ∧ parts a a mtu cut.length p = (p, k) :: parts a a mtu cut.length (p + k))) := by
      by_cases hfit : cut.length - p ≤ room a a mtu p
      · have hk : k = cut.length - p := by rw [← htk]; unfold takeS; rw [if_pos (by omega)]
        refine ⟨by omega, .inl ⟨by omega, ?_⟩⟩
        rw [parts_last hfit, hk]
      · have hk : k = room a a mtu p / 8 * 8 := by rw [← htk, hroom]; unfold takeS; rw [if_neg (by omega)]
        refine ⟨by omega, .inr ⟨by omega, by omega, ?_⟩⟩
        rw [parts_more ha ha hfit, hk]
    obtain ⟨hpk, hpc⟩ := hpart
    have e1 : IntKind.i64.wrap ((p : Int) + (k : Int)) = ((p + k : Nat) : Int) := by rw [w64 (by omega) (by omega)]; omega
    rw [e1]
    have hmo : decide (((p + k : Nat) : Int) < (sl.n : Int)) = decide (p + k < cut.length) := decide_eq_decide.2 (by omega)
    rw [hmo]
    refine SetVC.sep H 0 rfl (show 41 < 44 by decide) fun w20 H => SetVC.sep H 0 rfl (show 39 < 44 by decide) fun w21 H => ?_
    have hrow : BytesAt w21 sl cut := bytesAt_of (b := w0.heap.size) (H.own 1 rfl) hcl
    refine hrow.partW (p := p) (k := k) (by omega) rfl rfl fun sp hspw => SetVC.sep H 0 rfl (show 43 < 44 by decide) fun w22 H => ?_
    have hsp : BytesAt w22 sp ((cut.drop p).take k) := hspw w22 (bytesAt_of (b := w0.heap.size) (H.own 1 rfl) hcl)
    have H : Sep (Fct.blk g3 33 (pv6 h se (firstR (h.d es data)) id (decide (p + k < cut.length)) (p : Int) sp).cells :: rowB w0.heap.size sl cut :: Fct.rest w0 None :: rowI6 w0.heap.size ⟨A1, n1, cc⟩ rs :: Rows6 w0.heap.size rs) w22 := H
    have hA7 : Ip6At w22 (pv6 h se (firstR (h.d es data)) id (decide (p + k < cut.length)) (p : Int) sp) (es.take (keptS (es.map ExtR.d))) ((cut.drop p).take k) := ⟨hse.ext (H.restOf 2 rfl), hsp, hA.src, hA.dst⟩
    have hd7 : (pv6 h se (firstR (h.d es data)) id (decide (p + k < cut.length)) (p : Int) sp).d (es.take (keptS (es.map ExtR.d))) ((cut.drop p).take k) = piece6 (h.d es data) id (p, k) := by
      unfold pv6 Ip6V.d piece6
      rw [hcut]
      simp only [List.map_take]
      rfl
    refine Ip6V.of _ ⟨H.at 0 rfl, ?_⟩
    have hz22 := (H.restOf 2 rfl).size
    refine (clone6_spec hA7).mono ?_
    rintro _ w23 ⟨r, rfl, hrd, hrf, H23⟩
    rw [hd7] at hrd
    have H23 := (AllLe.append (AllLe.refl [Fct.rest w22 None]) (.cons (own_less hz22).1 (own_less hz22).2 (extFs_less hz22))).sep H23
    have H := H.mades H23
    refine onRet_ret (Ip6V.of r.v ⟨rfl, NewVC.sep H fun g4 w24 H => ?_⟩)
    have H := H.front
    have hz24 := (H.restOf 3 rfl).size
    refine appI6 H 4 rfl (Cells.blk0 (H.blk 0 rfl)) (show n1 ≤ 1000000000 by omega) (by omega) fun A2 c2 w25 H hc2 => ⟨⟨p + k, rs ++ [r], decide (p + k < cut.length), (p : Int), sp, rfl, hpk, ?_, ?_, by simp [hlen], ?_, ?_, ?_⟩, ?_⟩
    · intro hlt2
      rcases hpc with ⟨h1, _⟩ | ⟨_, _, h2⟩
      · omega
      · rw [← hd1, h2, List.map_append, List.map_cons, List.map_nil, hrd]; simp
    · intro he
      rcases hpc with ⟨_, h2⟩ | ⟨h1, _, _⟩
      · rw [← hd1, h2, List.map_append, List.map_cons, List.map_nil, hrd]; simp
      · omega
    · rcases hpc with ⟨h1, _⟩ | ⟨_, h1, _⟩
      · show n1 + 1 ≤ p + k; omega
      · show n1 + 1 ≤ p + k; omega
    · intro y hy
      rcases List.mem_append.1 hy with hy | hy
      · exact hfr y hy
      · simp at hy; subst hy; exact hrf
    · have H := H.tail
      simp only [rowI6, Rows6, List.map_append, List.flatten_append, List.map_cons, List.map_nil, List.flatten_cons, List.flatten_nil, List.append_nil, List.flatMap_append, List.flatMap_cons, List.flatMap_nil]
      exact H
    · show ((cut.length : Int) - ((p + k : Nat) : Int)).toNat < ((cut.length : Int) - (p : Int)).toNat
      rcases hpc with ⟨h1, _⟩ | ⟨_, h1, _⟩ <;> omega
  · have hpe : p = cut.length := by omega
    refine ⟨⟨A1, n1, cc⟩, rs, rfl, hd2 hpe, ⟨hlen, by show n1 ≤ 4000001; omega, hfr⟩, ?_⟩
    have H := H.tail.tail
    exact H.perm (.cons _ (.cons _ (perm_rows _ _ rs)))
end
end N6
end Go.Proofs.YteppichfkeknbaaGreatDoor
/- Chapter 13, the document's Split6. -/
namespace Go.Eng
open Go Go.RowKit
def headD (d : Ip6D) (id : Int) : Ip6D := { d with exts := d.exts.take (keptS d.exts), next := firstR d, frag := ⟨true, false, id, 0⟩, data := [] }
theorem head6_ok {d : Ip6D} {id : Int} (h : (ser6S d).2 = 0) (hf : d.frag.has = false) (hid : 0 ≤ id ∧ id ≤ 4294967295) : (ser6S (headD d id)).1.length = hd6 d := by
  obtain ⟨e1, e2, e3, e4, e5⟩ := split6_len h hf 44
  have hsl := ser6S_len d
  have hfr := firstR_range h
  have hhl := headersS_len (d.exts.take (keptS d.exts)) 44 true
  have hd : hd6 d = 48 + (headersS (d.exts.take (keptS d.exts)) 44 true).1.length := by unfold hd6; omega
  have hb : behindK (headD d id) = 44 := rfl
  have hex : (headD d id).exts = d.exts.take (keptS d.exts) := rfl
  have hfb : (fragB (headD d id)).length = 8 := rfl
  have hdt : (headD d id).data = [] := rfl
  have hbl : (bodyB (headD d id)).length = (headersS (d.exts.take (keptS d.exts)) 44 true).1.length + 8 := by
    unfold bodyB
    rw [List.length_append, List.length_append, hb, hex, hfb, hdt, List.length_nil]
  have hbad : ¬ fieldBad (headD d id) := by
    unfold fieldBad at e4 ⊢
    have : (headD d id).next = firstR d := rfl
    rw [this]
    intro hq
    apply e4
    rcases hq with hq | hq | hq | hq | hq | hq | hq | hq | hq | hq
    · exact .inl hq
    · exact .inr (.inl hq)
    · exact .inr (.inr (.inl hq))
    · exact .inr (.inr (.inr (.inl hq)))
    · exact .inr (.inr (.inr (.inr (.inl hq))))
    · exact .inr (.inr (.inr (.inr (.inr (.inl hq)))))
    · exact .inr (.inr (.inr (.inr (.inr (.inr (.inl hq))))))
    · exact .inr (.inr (.inr (.inr (.inr (.inr (.inr (.inl hq)))))))
    · omega
    · omega
  have hfe : fragE (headD d id) = 0 := by
    unfold fragE
    have hfg : (headD d id).frag = ⟨true, false, id, 0⟩ := rfl
    rw [hfg, hdt, List.length_nil]
    simp only
    rw [if_pos True.intro, if_neg]
    have hft : fitsS ⟨true, false, id, 0⟩ 0 = true := rfl
    rw [hft]
    intro hq
    rcases hq with hq | hq | hq | hq | hq | hq
    · omega
    · omega
    · omega
    · omega
    · omega
    · cases hq
  have key : ser6S (headD d id) = (head6 (headD d id) (bodyB (headD d id)).length ++ ((headD d id).src.bytes ++ ((headD d id).dst.bytes ++ bodyB (headD d id))), 0) := by
    unfold ser6S
    rw [if_neg hbad, hb, hex, if_neg (by omega), if_neg (by omega), if_neg (by omega)]
  rw [key]
  have h8 : ∀ n, (head6 (headD d id) n).length = 8 := fun _ => rfl
  have hs : (headD d id).src.bytes.length = 16 := rfl
  have ht : (headD d id).dst.bytes.length = 16 := rfl
  simp only [List.length_append, h8, hs, ht, hbl]
  omega
end Go.Eng
namespace Go.Proofs.YteppichfkeknbaaGreatDoor
namespace N6
open Go.Eng Go.RowKit
section
variable {w : World} {Γ : List Fct}
theorem cut6_one {w w9 : World} {g3 : Nat} {r : Ip6R} {Δ : List Fct} {d : Ip6D} (hrd : r.d = d) (hrf : Ip6Fine r) (hg : w.heap.size ≤ g3) (H : Sep (Fct.blk g3 33 r.v.cells :: Fct.rest w None :: (Δ ++ (rowB w.heap.size r.v.data r.data :: extFs w.heap.size r.v.exts r.exts))) w9) :
    Cut6 w ([d], 0) (.returned (.tuple #[.slice (some ⟨g3, 0, none⟩) 1 1, .int .i64 0])) w9 := by
  have H := H.blkRec 0 rfl (b := w.heap.size) (n := 1) (size := 44) hg rfl (by decide)
  refine ⟨⟨some ⟨g3, 0, none⟩, 1, 1⟩, [r], rfl, by simp [hrd], ⟨rfl, show 1 ≤ 4000001 by decide, fun y hy => by simp at hy; subst hy; exact hrf⟩, ?_⟩
  have H := H.sub (Γ' := rowI6 w.heap.size ⟨some ⟨g3, 0, none⟩, 1, 1⟩ [r] :: Fct.rest w None :: rowB w.heap.size r.v.data r.data :: extFs w.heap.size r.v.exts r.exts) (by
    simp only [rowI6, List.map_cons, List.map_nil, List.flatten_cons, List.flatten_nil, List.append_nil]
    exact .cons_cons _ (.cons_cons _ (List.sublist_append_right _ _)))
  have H := H.perm (.swap _ _ _)
  unfold ip6Fs
  simp only [List.map_cons, List.map_nil, List.flatMap_cons, List.flatMap_nil, List.append_nil, List.singleton_append]
  exact H
set_option maxHeartbeats 2000000 in
theorem refSplit6_spec {h : Ip6V} {es : List ExtR} {data : List Int} {mtu id : Int} (hA : Ip6At w h es data) : Calls Tryz.prog 6 #[h.val, .int .i64 mtu, .int .i64 id] w (Cut6 w (split6S (h.d es data) mtu id)) := by
  refine weirref13_Split6_of h mtu id w _ ?_
  unfold weirref13_Split6_VC
  refine NewVC.sep (Sep.start0 w) fun g1 w1 H => Ip6V.of h ⟨H.at 1 rfl, ?_⟩
  refine (refCheck6_spec (hA.ext (H.restOf 0 rfl))).mono ?_
  rintro _ w2 ⟨hE2, rfl⟩
  have H := H.ext hE2
  refine ⟨_, rfl, Br.dec (fun hne => Cut6.err (H.restOf 0 rfl) (by unfold split6S; rw [if_pos hne])) fun hc => ?_⟩
  have hc : (ser6S (h.d es data)).2 = 0 := by omega
  refine Br.dec (fun h1 => Cut6.err (H.restOf 0 rfl) (by unfold split6S; rw [if_neg (by omega), if_pos (by omega)])) fun h1 => ?_
  refine Br.dec (fun h2 => Cut6.err (H.restOf 0 rfl) (by unfold split6S; rw [if_neg (by omega), if_pos (by omega)])) fun h2 => ?_
  refine Br.dec (fun h3 => Cut6.err (H.restOf 0 rfl) (by unfold split6S; rw [if_neg (by omega), if_neg (by omega), if_pos (by omega)])) fun h3 => ?_
  refine Br.dec (fun h4 => Cut6.err (H.restOf 0 rfl) (by unfold split6S; rw [if_neg (by omega), if_neg (by omega), if_pos (by omega)])) fun h4 => ?_
  obtain ⟨m, rfl⟩ : ∃ m : Nat, mtu = m := ⟨mtu.toNat, by omega⟩
  refine Ip6V.of h ⟨H.at 1 rfl, ?_⟩
  refine (refSize6_spec (hA.ext (H.restOf 0 rfl))).mono ?_
  rintro _ w3 ⟨hE3, rfl⟩
  have H := H.ext hE3
  have hes : split6S (h.d es data) (m : Int) id = if ((ser6S (h.d es data)).1.length : Int) ≤ (m : Int) then ([h.d es data], 0) else if h.frag.has = true then ([], 131) else if (m : Int) < (hd6 (h.d es data) + 8 : Nat) then ([], 133)
      else ((parts (hd6 (h.d es data)) (hd6 (h.d es data)) m (rest6 (h.d es data)).length 0).map (piece6 (h.d es data) id), 0) := by
    unfold split6S
    rw [if_neg (by omega), if_neg (by omega), if_neg (by omega)]
    rfl
  refine ⟨_, rfl, Br.dec (fun hfit => ?_) fun hfit => ?_⟩
  · rw [if_pos hfit] at hes
    refine Ip6V.of h ⟨H.at 1 rfl, ?_⟩
    have hz3 := (H.restOf 0 rfl).size
    refine (clone6_spec (hA.ext (H.restOf 0 rfl))).mono ?_
    rintro _ w4 ⟨r, rfl, hrd, hrf, H4⟩
    have H4 := (AllLe.append (AllLe.refl [Fct.rest w3 None]) (.cons (own_less hz3).1 (own_less hz3).2 (extFs_less hz3))).sep H4
    have H := H.mades H4
    refine onRet_ret (Ip6V.of r.v ⟨rfl, NewVC.sep H fun g2 w5 H => ?_⟩)
    have H := H.front
    have hg := H.fresh 1 0 (by decide) rfl rfl
    rw [hes]
    exact cut6_one (Δ := [Fct.blk g1 33 h.cells]) hrd hrf hg H
  rw [if_neg hfit] at hes
  refine ⟨_, H.cell 1 rfl 38 rfl, ?_⟩
  cases hfr : h.frag.has with
  | true =>
    rw [if_pos hfr] at hes
    exact Br.t rfl (Cut6.err (H.restOf 0 rfl) hes)
  | false =>
    rw [if_neg (by rw [hfr]; decide)] at hes
    have hfr' : (h.d es data).frag.has = false := hfr
    obtain ⟨k1, k2, k3, k4, k5⟩ := split6_len hc hfr' 44
    have hsl := ser6S_len (h.d es data)
    have hk := keptS_le (es.map ExtR.d)
    rw [List.length_map, hA.exts.len] at hk
    have hXc := hA.exts.cap
    have hds := hA.data.small
    have hdl := hA.data.len
    have hee : (h.d es data).exts = es.map ExtR.d := rfl
    have hen : (h.d es data).next = h.next := rfl
    refine Br.f rfl ⟨_, _, _, H.cell 1 rfl 37 rfl, ?_⟩
    refine (refKept_spec (s := h.exts) (rs := es) (hA.exts.ext (H.restOf 0 rfl))).mono ?_
    rintro _ w6 ⟨hw6, rfl⟩
    subst w6
    refine ⟨_, rfl, DrawVC.sep H (fun w' => Blk w' g1 33 h.cells) fun w7 H => ⟨H.blk 1 rfl, _, _, _, fun w' hb => hb.cell 37, ⟨by omega, by omega, ?_⟩⟩⟩
    refine ⟨_, fun w' hb => hb.cell 42, ?_⟩
    rw [Int.toNat_natCast]
    have hz7 := (H.restOf 0 rfl).size
    refine (refPutChain_spec (s := ⟨if h.exts.k = keptS (es.map ExtR.d) then h.exts.A else h.exts.A.map (·.add (keptS (es.map ExtR.d) * 3)), h.exts.n - keptS (es.map ExtR.d), h.exts.k - keptS (es.map ExtR.d)⟩) (rs := es.drop (keptS (es.map ExtR.d))) (next := h.next)
      ((hA.exts.ext (H.restOf 0 rfl)).drop hk)).mono ?_
    have hpc : putChainS ((es.drop (keptS (es.map ExtR.d))).map ExtR.d) h.next = ((headersS ((h.d es data).exts.drop (keptS (h.d es data).exts)) (h.d es data).next false).1, 0) := by
      rw [hee, hen, List.map_drop]
      unfold putChainS
      rw [hee, hen] at k2
      rw [hen] at k5
      have : ¬ (h.next < 0 ∨ 255 < h.next) := fun x => k4 (by unfold fieldBad; rw [hen]; omega)
      rw [if_neg this, if_neg (by omega), if_pos k5]
    rw [hpc]
    rintro _ w8 ⟨PA, pc, rfl, H8⟩
    have H := (H.made (H8.lower 1 rfl hz7))
    refine ⟨_, _, _, _, rfl, H.blk 1 rfl, _, _, _, H.cell 1 rfl 43 rfl, ?_⟩
    have hz8 := (H.restOf 0 rfl).size
    have hhl := headersS_len ((h.d es data).exts.drop (keptS (h.d es data).exts)) (h.d es data).next false
    refine appB (m := h.data.n) (ys := data) H 2 rfl ((hA.data.ext (H.restOf 0 rfl)).cells) hdl (show (headersS ((h.d es data).exts.drop (keptS (h.d es data).exts)) (h.d es data).next false).1.length + h.data.n ≤ 140737488355328 by omega) (by omega) fun A2 c2 w9 H hc2 => ?_
    have hrest : (headersS ((h.d es data).exts.drop (keptS (h.d es data).exts)) (h.d es data).next false).1 ++ data = rest6 (h.d es data) := rfl
    rw [hrest] at H
    obtain ⟨sl, hsl'⟩ : ∃ sl : Sl, sl = ⟨A2, (headersS ((h.d es data).exts.drop (keptS (h.d es data).exts)) (h.d es data).next false).1.length + h.data.n, c2⟩ := ⟨_, rfl⟩
    have hrl : sl.n = (rest6 (h.d es data)).length := by rw [hsl', ← hrest, List.length_append, hdl]
    have H : Sep [Fct.rest w None, Fct.blk g1 33 h.cells, rowB w.heap.size sl (rest6 (h.d es data))] w9 := by rw [hsl']; exact H
    have hBts : Bts (rest6 (h.d es data)) := by
      rw [← hrest]
      refine Bts.append (headersS_bts fun x hx => ?_) hA.data.bts
      rw [hee] at hx
      obtain ⟨y, hy, rfl⟩ := List.mem_map.1 (List.mem_of_mem_drop hx)
      exact ⟨(hA.exts.data y hy).bts, fun o ho => by
        obtain ⟨z, hz, rfl⟩ := List.mem_map.1 ho
        exact ((hA.exts.opts y hy).each z hz).bts⟩
    refine Ip6V.of h ⟨H.at 1 rfl, NewVC.sep H fun g3 w10 H => ?_⟩
    have H := H.front
    refine Stores.sep H 0 rfl (Ip6V.one _) (Nat.le_refl _) (splice_all rfl) fun w11 H => ⟨_, _, _, H.cell 2 rfl 37 rfl, ⟨by omega, by omega, ?_⟩⟩
    rw [Int.toNat_natCast]
    refine SetVC.sep H 0 rfl (show 37 < 44 by decide) fun w12 H => ?_
    obtain ⟨se, hse⟩ : ∃ se : Sl, se = ⟨h.exts.A, keptS (es.map ExtR.d), h.exts.k⟩ := ⟨_, rfl⟩
    refine Stores.sep H 0 rfl (cs' := (pv6 h se h.next id false 0 h.data).cells) (fun v hv => by simp at hv; rcases hv with rfl | rfl | rfl | rfl <;> rfl) (show 38 + 4 ≤ 44 by decide) (by rw [hse]; rfl) fun w13 H => ?_
    have hlen := hA.exts.len
    refine JoinVC.of (fun _ w' => Sep [Fct.blk g3 33 (pv6 h se (firstR (h.d es data)) id false 0 h.data).cells, Fct.rest w None, Fct.blk g1 33 h.cells, rowB w.heap.size sl (rest6 (h.d es data))] w') ?_ ?_
    · refine ⟨_, _, _, H.cell 2 rfl 37 rfl, Br.dec (fun hlt => ⟨_, _, _, H.cell 2 rfl 37 rfl, ?_⟩) fun hge => ?_⟩
      · refine (hA.exts.ext (H.restOf 1 rfl)).idx rfl (by omega) fun a r hr hcr _ _ => ⟨r.v.kind, by simpa [ExtV.cells, add_zero] using hcr.1, ?_⟩
        have hf1 : firstR (h.d es data) = r.v.kind := by
          unfold firstR
          rw [hee, ← List.map_drop]
          obtain ⟨hkl, hke⟩ := List.getElem?_eq_some_iff.1 hr
          rw [List.drop_eq_getElem_cons hkl, hke]
          rfl
        refine SetVC.sep H 0 rfl (show 42 < 44 by decide) fun w14 H => ?_
        rw [hf1]
        exact H
      · have hf1 : firstR (h.d es data) = h.next := by
          unfold firstR
          rw [hee, List.drop_of_length_le (by simp; omega)]
          rfl
        rw [hf1]
        exact H
    rintro _ w15 H
    show weirref13_Split6_J16383 _ (m : Int) A2 _ c2 g3 w15
    unfold weirref13_Split6_J16383
    refine SetVC.sep H 0 rfl (show 43 < 44 by decide) fun w16 H => ?_
    have H : Sep [Fct.blk g3 33 (pv6 h se (firstR (h.d es data)) id false 0 ⟨none, 0, 0⟩).cells, Fct.rest w None, Fct.blk g1 33 h.cells, rowB w.heap.size sl (rest6 (h.d es data))] w16 := H
    have hseA : ExtsAt w se (es.take (keptS (es.map ExtR.d))) := by rw [hse]; exact hA.exts.take hk
    refine Ip6V.of _ ⟨H.at 0 rfl, ?_⟩
    refine (refSize6_spec (h := pv6 h se (firstR (h.d es data)) id false 0 ⟨none, 0, 0⟩) (es := es.take (keptS (es.map ExtR.d))) (data := []) ⟨hseA.ext (H.restOf 1 rfl), BytesAt.nil _ _ _, hA.src, hA.dst⟩).mono ?_
    rintro _ w17 ⟨hE17, rfl⟩
    have H := H.ext hE17
    have hhead : (ser6S (Ip6V.d (pv6 h se (firstR (h.d es data)) id false 0 ⟨none, 0, 0⟩) (es.take (keptS (es.map ExtR.d))) [])).1.length = hd6 (h.d es data) := by
      rw [← head6_ok (id := id) hc hfr' ⟨by omega, by omega⟩]
      unfold pv6 Ip6V.d headD
      simp only [List.map_take]
    rw [hhead]
    have hd : hd6 (h.d es data) ≤ 65543 := by unfold hd6; omega
    have e2 : IntKind.i64.wrap (((hd6 (h.d es data) : Nat) : Int) + 8) = ((hd6 (h.d es data) + 8 : Nat) : Int) := by rw [w64 (by omega) (by omega)]; omega
    refine ⟨_, rfl, ?_⟩
    rw [e2]
    refine Br.dec (fun ht => Cut6.err (H.restOf 1 rfl) (by rw [hes, if_pos ht])) fun ht => ?_
    rw [if_neg ht] at hes
    rw [hes]
    have hpos : 0 < (rest6 (h.d es data)).length := by unfold hd6 at ht; omega
    have H := H.sub (Γ' := [Fct.blk g3 33 (pv6 h se (firstR (h.d es data)) id false 0 ⟨none, 0, 0⟩).cells, Fct.rest w None, rowB w.heap.size sl (rest6 (h.d es data))]) (.cons_cons _ (.cons_cons _ (.cons _ (List.Sublist.refl _))))
    have H := H.perm (.cons _ (.swap _ _ _))
    have hloop := refSplit6_loop (mtu := m) (a := hd6 (h.d es data)) (id := id) hA (by omega) (by omega) rfl hpos ⟨by omega, hBts⟩ hseA H
    rw [hsl'] at hloop
    exact hloop
end
end N6
end Go.Proofs.YteppichfkeknbaaGreatDoor
