/- Chapter 13, the document's small functions: copies, how many are kept, how many bytes a piece may have, how long it is. -/
import Derived.Test.YteppichfkeknbaaDoorCb
import Derived.Test.YteppichfkeknbaaDoorBm
import Derived.Test.YteppichfkeknbaaDoorBn
import Derived.Test.YteppichfkeknbaaDoorBj
import Derived.Test.YteppichfkeknbaaDoorBk
import Derived.Test.YteppichfkeknbaaDoorBl
import Derived.Test.YteppichfkeknbaaDoorBh
namespace Go.Proofs.YteppichfkeknbaaDoor
namespace N6
open Go.Eng Go.RowKit
section
variable {w : World} {Γ : List Fct}
theorem copied_spec {s : Sl} {l : List Int} (h : BytesAt w s l) : Calls Tryd.prog 53 #[s.val] w fun e w' => ∃ s' : Sl, e = .returned s'.val ∧ BFine s' l ∧ Sep [Fct.rest w None, rowB w.heap.size s' l] w' := by
  refine weirref7_copied_of s.A s.n s.k w _ ?_
  unfold weirref7_copied_VC
  have hs := h.small
  refine appB (m := s.n) (xs := []) (ys := l) ((Sep.start0 w).nil _ _ _) 1 rfl h.cells h.len (by omega) (Nat.le_refl _) fun A2 c2 w2 H hc2 => ?_
  rw [Nat.zero_add] at H ⊢
  exact ⟨⟨A2, s.n, c2⟩, rfl, ⟨hs, h.bts⟩, H⟩
set_option maxHeartbeats 1000000 in
theorem cloneOpts_spec {s : Sl} {rs : List OptR} (hO : OptsAt w s rs) : Calls Tryd.prog 18 #[s.val] w fun e w' => ∃ (s' : Sl) (rs' : List OptR), e = .returned s'.val ∧
    rs'.map OptR.d = rs.map OptR.d ∧ OptsFine s' rs' ∧ Sep (Fct.rest w None :: optFs w.heap.size s' rs') w' := by
  refine weirref7_CloneOpts_of s.A s.n s.k w _ ?_
  unfold weirref7_CloneOpts_VC
  have hl := hO.len
  have hsm := hO.small
  refine LoopVC.of (fun st w' => ∃ (i : Nat) (rs' : List OptR), st.2 = i ∧ i ≤ s.n ∧ rs'.map OptR.d = (rs.take i).map OptR.d ∧ OptsFine ⟨st.1.1, st.1.2.1, st.1.2.2⟩ rs' ∧ st.1.2.1 = i ∧
      Sep (Fct.rest w None :: optFs w.heap.size ⟨st.1.1, st.1.2.1, st.1.2.2⟩ rs') w') (fun st _ => ((s.n : Int) - st.2).toNat)
    ⟨0, [], rfl, Nat.zero_le _, rfl, ⟨rfl, Nat.zero_le _, fun r hr => by cases hr⟩, rfl, (Sep.start0 w).nil _ _ _⟩ ?_
  rintro ⟨⟨A1, n1, cc⟩, _⟩ w1 ⟨i, rs', rfl, hi, hd, hf, hn1, H⟩
  simp only at hn1
  show weirref7_CloneOpts_L58 _ s.A s.n A1 n1 cc (i : Int) w1 _
  unfold weirref7_CloneOpts_L58
  refine Br.dec (fun hlt => ?_) fun hge => ?_
  · have hri : rs[i]? = some rs[i] := List.getElem?_eq_getElem (by omega)
    have htake : rs.take (i + 1) = rs.take i ++ [rs[i]] := by rw [List.take_add_one, hri]; rfl
    have hi1 : IntKind.i64.wrap ((i : Int) + 1) = ((i + 1 : Nat) : Int) := by rw [w64 (by omega) (by omega)]; omega
    refine DrawVC.sep H (fun w' => OptsAt w' s rs) fun w2 H => ⟨hO.ext H.start1, ?_⟩
    have hS := hO.ext H.start1
    refine OptsAt.idxD (S := fun w' => OptsAt w' s rs) hS (fun w' h => h) hri fun a ha => ⟨_, fun w' h => c0 (ha w' h), ?_⟩
    refine OptsAt.idxD (S := fun w' => OptsAt w' s rs) hS (fun w' h => h) hri fun a ha => ⟨_, _, _, fun w' h => c1 (ha w' h), ?_⟩
    have hz2 := H.start1.size
    refine (copied_spec (s := rs[i].v.data) (l := rs[i].data) (hS.each _ (List.getElem_mem _))).mono ?_
    rintro _ w3 ⟨s', rfl, hB, H3⟩
    have H := H.made (H3.lower 1 rfl hz2)
    refine ⟨_, _, _, rfl, hO.ext H.start1, NewVC.sep H fun g1 w4 H => ⟨hO.ext H.start1, ?_⟩⟩
    have H := H.front
    have hz4 := (H.restOf 1 rfl).size
    refine appO (o := ⟨rs[i].v.kind, s'⟩) H 2 rfl (Cells.blk0 (H.blk 0 rfl)) (show n1 ≤ 1000000000 by omega) (by omega) fun A2 c2 w5 H hc2 => ⟨hO.ext (H.restOf 1 rfl), ⟨i + 1, rs' ++ [⟨⟨rs[i].v.kind, s'⟩, rs[i].data⟩], hi1, by omega, ?_, ⟨?_, by simp only; omega, ?_⟩, by simp only; omega, ?_⟩, by simp only [hi1]; omega⟩
    · rw [htake, List.map_append, List.map_append, hd]
      rfl
    · have := hf.len; simp at this ⊢; omega
    · intro x hx
      rcases List.mem_append.1 hx with hx | hx
      · exact hf.each x hx
      · simp at hx; subst hx; exact hB
    · have H := H.tail
      simp only [optFs, rowO, List.map_append, List.flatten_append, List.map_cons, List.map_nil, List.flatten_cons, List.flatten_nil, List.append_nil]
      exact H
  · have hin : i = s.n := by omega
    exact ⟨⟨A1, n1, cc⟩, rs', rfl, by rw [hd, hin, ← hl, List.take_length], hf, H⟩
set_option maxHeartbeats 1000000 in
theorem cloneExts_spec {s : Sl} {rs : List ExtR} (hX : ExtsAt w s rs) : Calls Tryd.prog 54 #[s.val] w fun e w' => ∃ (s' : Sl) (rs' : List ExtR), e = .returned s'.val ∧
    rs'.map ExtR.d = rs.map ExtR.d ∧ ExtsFine s' rs' ∧ Sep (Fct.rest w None :: extFs w.heap.size s' rs') w' := by
  refine weirref7_CloneExts_of s.A s.n s.k w _ ?_
  unfold weirref7_CloneExts_VC
  have hl := hX.len
  have hsm := hX.small
  refine LoopVC.of (fun st w' => ∃ (i : Nat) (rs' : List ExtR), st.2 = i ∧ i ≤ s.n ∧ rs'.map ExtR.d = (rs.take i).map ExtR.d ∧ ExtsFine ⟨st.1.1, st.1.2.1, st.1.2.2⟩ rs' ∧ st.1.2.1 = i ∧
      Sep (Fct.rest w None :: extFs w.heap.size ⟨st.1.1, st.1.2.1, st.1.2.2⟩ rs') w') (fun st _ => ((s.n : Int) - st.2).toNat)
    ⟨0, [], rfl, Nat.zero_le _, rfl, ⟨rfl, Nat.zero_le _, (fun r hr => by cases hr), fun r hr => by cases hr⟩, rfl, (Sep.start0 w).nil _ _ _⟩ ?_
  rintro ⟨⟨A1, n1, cc⟩, _⟩ w1 ⟨i, rs', rfl, hi, hd, hf, hn1, H⟩
  simp only at hn1
  show weirref7_CloneExts_L58 _ s.A s.n A1 n1 cc (i : Int) w1 _
  unfold weirref7_CloneExts_L58
  refine Br.dec (fun hlt => ?_) fun hge => ?_
  · have hri : rs[i]? = some rs[i] := List.getElem?_eq_getElem (by omega)
    have htake : rs.take (i + 1) = rs.take i ++ [rs[i]] := by rw [List.take_add_one, hri]; rfl
    have hi1 : IntKind.i64.wrap ((i : Int) + 1) = ((i + 1 : Nat) : Int) := by rw [w64 (by omega) (by omega)]; omega
    refine DrawVC.sep H (fun w' => ExtsAt w' s rs) fun w2 H => ⟨hX.ext H.start1, ?_⟩
    have hS := hX.ext H.start1
    refine ExtsAt.idxD (S := fun w' => ExtsAt w' s rs) hS (fun w' h => h) hri fun a ha => ⟨_, fun w' h => c0 (ha w' h), ?_⟩
    refine ExtsAt.idxD (S := fun w' => ExtsAt w' s rs) hS (fun w' h => h) hri fun a ha => ⟨_, _, _, fun w' h => c1 (ha w' h), ?_⟩
    refine ExtsAt.idxD (S := fun w' => ExtsAt w' s rs) hS (fun w' h => h) hri fun a ha => ⟨_, _, _, fun w' h => c2 (ha w' h), ?_⟩
    have hz2 := H.start1.size
    refine (cloneOpts_spec (s := rs[i].v.opts) (rs := rs[i].opts) (hS.opts _ (List.getElem_mem _))).mono ?_
    rintro _ w3 ⟨so, os', rfl, hod, hof, H3⟩
    have H3 := (AllLe.append (AllLe.refl [Fct.rest w2 None]) (optFs_less hz2)).sep H3
    have H := H.mades H3
    have hz3 := (H.restOf 0 rfl).size
    refine ⟨_, _, _, rfl, hX.ext (H.restOf 0 rfl), ?_⟩
    refine (copied_spec (s := rs[i].v.data) (l := rs[i].data) ((hX.data _ (List.getElem_mem _)).ext (H.restOf 0 rfl))).mono ?_
    rintro _ w4 ⟨sd, rfl, hB, H4⟩
    have H := H.made (H4.lower 1 rfl hz3)
    refine ⟨_, _, _, rfl, hX.ext (H.restOf 0 rfl), NewVC.sep H fun g1 w5 H => ?_⟩
    have H := H.front
    have hz5 := (H.restOf 1 rfl).size
    refine ⟨hX.ext (H.restOf 1 rfl), ?_⟩
    refine appE (o := ⟨rs[i].v.kind, so, sd⟩) H 2 rfl (Cells.blk0 (H.blk 0 rfl)) (show n1 ≤ 1000000000 by omega) (by omega) fun A2 c2 w6 H hc2 => ⟨hX.ext (H.restOf 1 rfl), ⟨i + 1, rs' ++ [⟨⟨rs[i].v.kind, so, sd⟩, os', rs[i].data⟩], hi1, by omega, ?_, ⟨?_, by simp only; omega, ?_, ?_⟩, by simp only; omega, ?_⟩, by simp only [hi1]; omega⟩
    · rw [htake, List.map_append, List.map_append, hd]
      simp only [List.map_cons, List.map_nil, ExtR.d, hod]
    · have := hf.len; simp at this ⊢; omega
    · intro x hx
      rcases List.mem_append.1 hx with hx | hx
      · exact hf.opts x hx
      · simp at hx; subst hx; exact hof
    · intro x hx
      rcases List.mem_append.1 hx with hx | hx
      · exact hf.data x hx
      · simp at hx; subst hx; exact hB
    · have H := H.tail
      simp only [extFs, rowE, extF, List.map_append, List.flatten_append, List.map_cons, List.map_nil, List.flatten_cons, List.flatten_nil, List.append_nil, List.flatMap_append, List.flatMap_cons, List.flatMap_nil, ← List.append_assoc]
      exact H
  · have hin : i = s.n := by omega
    exact ⟨⟨A1, n1, cc⟩, rs', rfl, by rw [hd, hin, ← hl, List.take_length], hf, H⟩
set_option maxHeartbeats 1000000 in
theorem clone6_spec {h : Ip6V} {es : List ExtR} {data : List Int} (hA : Ip6At w h es data) : Calls Tryd.prog 19 #[h.val] w fun e w' => ∃ r : Ip6R, e = .returned r.v.val ∧ r.d = h.d es data ∧ Ip6Fine r ∧
    Sep (Fct.rest w None :: rowB w.heap.size r.v.data r.data :: extFs w.heap.size r.v.exts r.exts) w' := by
  refine weirref7_Clone_of h w _ ?_
  unfold weirref7_Clone_VC
  refine NewVC.sep (Sep.start0 w) fun g1 w1 H => NewVC.sep H fun g2 w2 H => ⟨_, _, _, H.cell 1 rfl 37 rfl, ?_⟩
  have hz2 := (H.restOf 0 rfl).size
  refine (cloneExts_spec (s := h.exts) (rs := es) (hA.exts.ext (H.restOf 0 rfl))).mono ?_
  rintro _ w3 ⟨so, os', rfl, hod, hof, H3⟩
  have H3 := (AllLe.append (AllLe.refl [Fct.rest w2 None]) (extFs_less hz2)).sep H3
  have H := H.mades H3
  refine ⟨_, _, _, rfl, SetVC.sep H 1 rfl (show 37 < 44 by decide) fun w4 H => ?_⟩
  have hz4 := (H.restOf 0 rfl).size
  refine ⟨_, _, _, H.cell 1 rfl 43 rfl, ?_⟩
  refine (copied_spec (s := h.data) (l := data) (hA.data.ext (H.restOf 0 rfl))).mono ?_
  rintro _ w5 ⟨sd, rfl, hB, H5⟩
  have H := (H.made (H5.lower 1 rfl hz4)).front
  refine ⟨_, _, _, rfl, SetVC.sep H 2 rfl (show 43 < 44 by decide) fun w6 H => ?_⟩
  refine Ip6V.of { h with exts := so, data := sd } ⟨H.at 2 rfl, Stores.sep H 3 rfl (Ip6V.one _) (Nat.le_refl _) (splice_all rfl) fun w7 H => ?_⟩
  refine Ip6V.of { h with exts := so, data := sd } ⟨H.at 3 rfl, ⟨⟨{ h with exts := so, data := sd }, os', data⟩, rfl, ?_, ⟨hof, hB, hA.src, hA.dst⟩, ?_⟩⟩
  · unfold Ip6R.d Ip6V.d
    rw [hod]
  · have H := H.sub (Γ' := rowB w.heap.size sd data :: Fct.rest w None :: extFs w.heap.size so os') (.cons_cons _ (.cons_cons _ (.cons _ (.cons _ (List.Sublist.refl _)))))
    exact H.perm (.swap _ _ _)
end
end N6
end Go.Proofs.YteppichfkeknbaaDoor
/- Chapter 13, the document's Split4 and Fits4. -/
namespace Go.Eng
open Go Go.RowKit
end Go.Eng
namespace Go.Proofs.YteppichfkeknbaaDoor
namespace N6
open Go.Eng Go.RowKit
section
variable {w : World} {s : Sl}
end
end N6
end Go.Proofs.YteppichfkeknbaaDoor
/- Chapter 13, the document's Split4; how many headers are kept; PutChain; Fits6. -/
namespace Go.Proofs.YteppichfkeknbaaDoor
namespace N6
open Go.Eng Go.RowKit
section
variable {w : World} {Γ : List Fct}
end
end N6
end Go.Proofs.YteppichfkeknbaaDoor
/- Chapter 13, the document's Split6: the loop over the pieces. -/
namespace Go.Eng
open Go Go.RowKit
end Go.Eng
namespace Go.Proofs.YteppichfkeknbaaDoor
namespace N6
open Go.Eng Go.RowKit
section
variable {w : World} {Γ : List Fct}
end
end N6
end Go.Proofs.YteppichfkeknbaaDoor
/- Chapter 13, the document's Split6. -/
namespace Go.Eng
open Go Go.RowKit
end Go.Eng
namespace Go.Proofs.YteppichfkeknbaaDoor
namespace N6
open Go.Eng Go.RowKit
section
variable {w : World} {Γ : List Fct}
end
end N6
end Go.Proofs.YteppichfkeknbaaDoor
