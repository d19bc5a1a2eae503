/- Extension headers laid with wide room behind all their lists. -/
import Derived.Test.YteppichfkeknbaaDoorCd
namespace Go.Eng
open Go Go.RowKit
structure LaidX where
  kind : Int
  so : Sl
  sw : Sl
  ls : List LaidR
  row : Sl
  data : List Int
def LaidX.ext (x : LaidX) : ExtR := ⟨⟨x.kind, x.so, ⟨x.row.A, x.data.length, x.row.k⟩⟩, x.ls.map LaidR.opt, x.data⟩
def LaidX.lists (x : LaidX) : List (Sl × List Int) := (x.ls.map fun l => (l.row, roomyL l.data)) ++ [(x.row, roomyL x.data)]
def markE : ExtV := ⟨-202, ⟨none, 0, 0⟩, ⟨none, 0, 0⟩⟩
end Go.Eng
namespace Go.Proofs.YteppichfkeknbaaDoor
namespace N6
open Go.Eng Go.RowKit
section
variable {w : World} {Γ : List Fct} {s : Sl}
structure LaidXAt (w : World) (se sw : Sl) (xs : List LaidX) : Prop where
  exts : ExtsAt w se (xs.map LaidX.ext)
  room : se.n + 20 ≤ se.k
  recs : Recs w se.A 3 ((xs.map fun x => x.ext.v.cells) ++ List.replicate 20 markE.cells)
  lists : SlsAt w sw (xs.flatMap LaidX.lists)
  opts : ∀ x ∈ xs, LaidAt w x.so x.sw x.ls
theorem LaidXAt.ext {w' : World} {se sw : Sl} {xs : List LaidX} (h : LaidXAt w se sw xs) (hE : Ext w w') : LaidXAt w' se sw xs := ⟨h.exts.ext hE, h.room, h.recs.ext hE, h.lists.ext hE, fun x hx => (h.opts x hx).ext hE⟩
def xF (b : Nat) (x : LaidX) : List Fct := laidFs b x.so x.sw x.ls ++ [rowB b x.row (roomyL x.data)]
def xM (xs : List LaidX) : List Value := (xs.map fun x => x.ext.v.cells).flatten
def xW (xs : List LaidX) : List Value := xs.flatMap fun x => laidW x.ls ++ [x.row.val]
structure XOk (x : LaidX) : Prop where
  ok : LaidOk x.so x.sw x.ls
  n : x.row.n = x.data.length + 75
  fine : BFine x.row (roomyL x.data)
  bts : Bts x.data
theorem xW_eq (xs : List LaidX) : xW xs = (xs.flatMap LaidX.lists).map fun v => v.1.val := by
  unfold xW LaidX.lists laidW
  rw [List.map_flatMap]
  simp only [List.map_append, List.map_map, List.map_cons, List.map_nil]
  rfl
set_option maxHeartbeats 4000000 in
theorem laidExts_spec {rs : List ExtR} (hX : ExtsAt w s rs) (hsm : s.n ≤ 1048576 ∧ ∀ r ∈ rs, SmallE 1048576 r) : Calls Tryd.prog 65 #[s.val] w fun e w' => ∃ (se sw : Sl) (xs : List LaidX), e = .returned (.tuple #[se.val, sw.val]) ∧
    (xs.map LaidX.ext).map ExtR.d = rs.map ExtR.d ∧ LaidXAt w' se sw xs ∧ Ext w w' := by
  refine weirlaw13_laidExts_of s.A s.n s.k w _ ?_
  unfold weirlaw13_laidExts_VC
  have hl := hX.len
  refine LoopVC.of (fun st w' => ∃ (i : Nat) (xs : List LaidX), st.2.2 = i ∧ i ≤ s.n ∧ (xs.map LaidX.ext).map ExtR.d = (rs.take i).map ExtR.d ∧ xs.length = i ∧ st.1.2.1 = i ∧ st.2.1.2.1 ≤ i * 1048577 ∧ (∀ x ∈ xs, XOk x) ∧
      Sep (Fct.rest w None :: Fct.own w.heap.size 80 3 (.slice st.1.1 st.1.2.1 st.1.2.2) st.1.2.1 (xM xs) :: Fct.own w.heap.size 26 1 (.slice st.2.1.1 st.2.1.2.1 st.2.1.2.2) st.2.1.2.1 (xW xs) :: xs.flatMap (xF w.heap.size)) w') (fun st _ => ((s.n : Int) - st.2.2).toNat)
    ⟨0, [], rfl, Nat.zero_le _, rfl, rfl, rfl, Nat.zero_le _, (fun x hx => by cases hx), ((Sep.start0 w).nil _ _ _).nil _ _ _⟩ ?_
  rintro ⟨⟨A1, n1, q1⟩, ⟨A2, n2, q2⟩, _⟩ w1 ⟨i, xs, rfl, hi, hd, hxl, hn1, hn2, hf, H⟩
  simp only at hn1 hn2
  show weirlaw13_laidExts_L122 _ s.A s.n A1 n1 q1 A2 n2 q2 (i : Int) w1 _
  unfold weirlaw13_laidExts_L122
  have idx : ∀ {w'} (h : Ext w w') {r : ExtR} (hr : rs[i]? = some r) {F : Addr → Prop}, (∀ a, CellsAt w' a 0 r.v.cells → F a) → IdxVC s.A s.n 3 (i : Int) F := fun {w'} h {r} hr {F} hF =>
    ExtsAt.idxD (S := fun w' => ExtsAt w' s rs) (hX.ext h) (fun w' h => h) hr fun a ha => hF a (ha _ (hX.ext h))
  refine Br.dec (fun hlt => ?_) fun hge => ?_
  · have hri : rs[i]? = some rs[i] := List.getElem?_eq_getElem (by omega)
    have hmem : rs[i] ∈ rs := List.getElem_mem _
    have htake : rs.take (i + 1) = rs.take i ++ [rs[i]] := by rw [List.take_add_one, hri]; rfl
    have hi1 : IntKind.i64.wrap ((i : Int) + 1) = ((i + 1 : Nat) : Int) := by rw [w64 (by omega) (by omega)]; omega
    obtain ⟨b1, b2, b3⟩ := hsm.2 _ hmem
    have hdl := (hX.data _ hmem).len
    refine idx H.start1 hri fun a ha => ⟨_, _, _, c1 ha, ?_⟩
    have hz1 := H.start1.size
    refine (laidOpts_sep (s := rs[i].v.opts) (rs := rs[i].opts) ((hX.opts _ hmem).ext H.start1) ⟨b2, fun r hr => by have := b3 r hr; have := ((hX.opts _ hmem).each r hr).len; omega⟩).mono ?_
    rintro _ w2 ⟨so, sw, ls, rfl, hls, hok, H2⟩
    have H2 := (AllLe.append (AllLe.refl [Fct.rest w1 None]) (laidFs_less hz1)).sep H2
    have H := H.mades H2
    refine ⟨_, _, _, _, _, _, rfl, ?_⟩
    refine idx (H.restOf 0 rfl) hri fun a ha => ⟨_, _, _, c2 ha, ?_⟩
    have hz2 := (H.restOf 0 rfl).size
    refine (roomy_spec (s := rs[i].v.data) (l := rs[i].data) ((hX.data _ hmem).ext (H.restOf 0 rfl)) (by omega)).mono ?_
    rintro _ w3 ⟨R, rfl, hRn, hRf, H3⟩
    have hRk : R.n ≤ R.k := own_le (H3.own 1 rfl)
    have H := H.made (H3.lower 1 rfl hz2)
    refine ⟨_, _, _, rfl, ?_⟩
    have hz3 := (H.restOf 0 rfl).size
    have hswm : (Fct.own w.heap.size 26 1 sw.val sw.n (laidW ls)).φ w3 := H.mem (List.mem_append_left _ (List.mem_append_right _ (show _ ∈ laidFs w.heap.size so sw ls from List.mem_cons_of_mem _ List.mem_cons_self)))
    have hol := hok.len
    have hosm := hok.small
    have holi := hok.lists
    refine AppVC.sep H 2 Tryd.underlying49 tS rfl (by decide) rfl (own_cells (A := sw.A) (c := sw.k) hswm) (by unfold laidW; simp [hol, holi]) (fun v hv => by obtain ⟨x, _, rfl⟩ := List.mem_map.1 hv; rfl) (show (n2 + sw.n) * 24 ≤ 140737488355328 by omega) (by decide) (by omega) fun A3 c3 w4 H hc3 => ?_
    refine NewVC.sep H fun g1 w5 H => ?_
    have H := H.front
    have hz5 := (H.restOf 1 rfl).size
    refine appS (o := R) H 3 rfl (Cells.blk0 (H.blk 0 rfl)) (show n2 + sw.n ≤ 5000000000000 by omega) (by omega) fun A4 c4 w6 H hc4 => ?_
    have H := H.tail
    refine DrawVC.sep H (fun w' => ExtsAt w' s rs) fun w7 H => ⟨hX.ext (H.restOf 0 rfl), ?_⟩
    have hS := hX.ext (H.restOf 0 rfl)
    refine ExtsAt.idxD (S := fun w' => ExtsAt w' s rs) hS (fun w' h => h) hri fun a ha => ⟨_, fun w' h => c0 (ha w' h), ?_⟩
    refine ExtsAt.idxD (S := fun w' => ExtsAt w' s rs) hS (fun w' h => h) hri fun a ha => ⟨_, _, _, fun w' h => c2 (ha w' h), ?_⟩
    refine ⟨by omega, by omega, NewVC.sep H fun g2 w8 H => ?_⟩
    have H := H.front
    have hz8 := (H.restOf 1 rfl).size
    refine ⟨hX.ext (H.restOf 1 rfl), ?_⟩
    have hnat : ((rs[i].v.data.n : Int)).toNat = rs[i].data.length := by omega
    obtain ⟨x, hx⟩ : ∃ x : LaidX, x = ⟨rs[i].v.kind, so, sw, ls, R, rs[i].data⟩ := ⟨_, rfl⟩
    refine appE (o := x.ext.v) H 2 rfl (by have := Cells.blk0 (H.blk 0 rfl); rw [hnat] at this; rw [hx]; exact this) (show n1 ≤ 1000000000 by omega) (by omega) fun A5 c5 w9 H hc5 =>
      ⟨hX.ext (H.restOf 1 rfl), ⟨i + 1, xs ++ [x], hi1, by omega, ?_, by simp [hxl], by show n1 + 1 = i + 1; omega, by show n2 + sw.n + 1 ≤ (i + 1) * 1048577; omega, fun y hy => ?_, ?_⟩, by simp only [hi1]; omega⟩
    · rw [htake, List.map_append, List.map_append, List.map_append, hd, hx]
      simp only [List.map_cons, List.map_nil, ExtR.d, LaidX.ext, hls]
    · rcases List.mem_append.1 hy with hy | hy
      · exact hf y hy
      · simp at hy; subst hy; rw [hx]; exact ⟨hok, hRn, hRf, (hX.data _ hmem).bts⟩
    · have H := H.tail
      have e1 : xM (xs ++ [x]) = xM xs ++ x.ext.v.cells := by unfold xM; simp
      have e2 : xW (xs ++ [x]) = xW xs ++ laidW ls ++ [R.val] := by unfold xW; rw [hx]; simp
      have e3 : (xs ++ [x]).flatMap (xF w.heap.size) = xs.flatMap (xF w.heap.size) ++ laidFs w.heap.size so sw ls ++ [rowB w.heap.size R (roomyL rs[i].data)] := by rw [hx]; simp [xF]
      rw [e1, e2, e3]
      exact H
  · have hin : i = s.n := by omega
    have htk : rs.take i = rs := List.take_of_length_le (by omega)
    rw [htk] at hd
    refine LoopVC.of (fun st w' => ∃ j : Nat, st.2 = j ∧ j ≤ 20 ∧ st.1.2.1 = n1 + j ∧ Sep (Fct.rest w None :: Fct.own w.heap.size 80 3 (.slice st.1.1 st.1.2.1 st.1.2.2) st.1.2.1 (xM xs ++ (List.replicate j markE.cells).flatten) :: Fct.own w.heap.size 26 1 (.slice A2 n2 q2) n2 (xW xs) :: xs.flatMap (xF w.heap.size)) w') (fun st _ => ((20 : Int) - st.2).toNat)
      ⟨0, rfl, Nat.zero_le _, rfl, by simpa using H⟩ ?_
    rintro ⟨⟨A5, n5, q5⟩, _⟩ w8 ⟨j, rfl, hj, hn5, H⟩
    simp only at hn5
    show weirlaw13_laidExts_L250 _ s.n A2 n2 q2 A5 n5 q5 (j : Int) w8 _
    unfold weirlaw13_laidExts_L250
    refine Br.dec (fun hlt => ?_) fun hge2 => ?_
    · refine NewVC.sep H fun g3 w9 H => ?_
      have H := H.front
      have hz9 := (H.restOf 1 rfl).size
      have hj1 : IntKind.i64.wrap ((j : Int) + 1) = ((j + 1 : Nat) : Int) := by rw [w64 (by omega) (by omega)]; omega
      refine appE (o := markE) H 2 rfl (Cells.blk0 (H.blk 0 rfl)) (show n5 ≤ 1000000000 by omega) (by omega) fun A6 c6 w10 H hc6 => ⟨⟨j + 1, hj1, by omega, by show n5 + 1 = _; omega, ?_⟩, by simp only [hj1]; omega⟩
      have H := H.tail
      rw [List.replicate_succ', List.flatten_append, ← List.append_assoc]
      simp only [List.flatten_cons, List.flatten_nil, List.append_nil]
      exact H
    · have hj20 : j = 20 := by omega
      subst hj20
      have hk5 : n5 ≤ q5 := own_le (s := ⟨A5, n5, q5⟩) (H.own 1 rfl)
      refine ⟨by omega, by omega, ?_⟩
      rw [Int.toNat_natCast]
      have hall : Recs w8 A5 3 ((xs.map fun x => x.ext.v.cells) ++ List.replicate 20 markE.cells) := by
        refine Recs.of_cells (by decide) (fun r hr => ?_) ?_
        · rcases List.mem_append.1 hr with hr | hr
          · obtain ⟨x, _, rfl⟩ := List.mem_map.1 hr; rfl
          · rw [(List.mem_replicate.1 hr).2]; rfl
        · rw [List.flatten_append]; exact H.cells 1 rfl
      have hxm : ∀ x ∈ xs, ∀ f ∈ xF w.heap.size x, f.φ w8 := fun x hx f hf => H.mem (by
        simp only [List.mem_cons]
        exact .inr (.inr (.inr (List.mem_flatMap.2 ⟨x, hx, hf⟩))))
      have hL : ∀ x ∈ xs, LaidAt w8 x.so x.sw x.ls := fun x hx => laidAt_of (fun f hfm => hxm x hx f (List.mem_append_left _ hfm)) (hf x hx).ok
      have hrow : ∀ x ∈ xs, BytesAt w8 x.row (roomyL x.data) := fun x hx => bytesAt_of (b := w.heap.size) (hxm x hx _ (List.mem_append_right _ (by simp))) (hf x hx).fine
      have hWl : (xs.flatMap LaidX.lists).length = n2 := by
        have := (H.own 2 rfl).1
        rw [xW_eq, List.length_map] at this; omega
      refine ⟨⟨A5, s.n, q5⟩, ⟨A2, n2, q2⟩, xs, rfl, hd, ⟨⟨by show (xs.map LaidX.ext).length = s.n; rw [List.length_map]; omega, by show s.n ≤ q5; omega, by show s.n ≤ 4000000; omega, ?_, fun r hr => ?_, fun r hr => ?_⟩, by show s.n + 20 ≤ q5; omega, hall, ⟨hWl, by show n2 ≤ 5000000000000; omega, ?_, fun v hv => ?_⟩, hL⟩, H.start1⟩
      · intro k cs hkk
        refine hall k cs ?_
        have hk' : k < xs.length := by have := (List.getElem?_eq_some_iff.1 hkk).1; simpa using this
        rw [List.getElem?_append_left (by simpa using hk')]
        rw [List.map_map] at hkk; exact hkk
      · obtain ⟨x, hx, rfl⟩ := List.mem_map.1 hr
        exact (hL x hx).opts
      · obtain ⟨x, hx, rfl⟩ := List.mem_map.1 hr
        have hB := hrow x hx
        have hxf := hf x hx
        refine ⟨rfl, by show x.data.length ≤ x.row.k; have := hB.cap; have := hxf.n; omega, by show x.data.length ≤ 4000000; have := hB.small; have := hxf.n; omega, hxf.bts, ?_⟩
        have := hB.cells.take x.data.length
        rw [← List.map_take] at this
        have e : (roomyL x.data).take x.data.length = x.data := by unfold roomyL; rw [List.take_left' rfl]
        rw [e] at this
        exact this
      · rw [← xW_eq]
        exact H.cells 2 rfl
      · obtain ⟨x, hx, hv⟩ := List.mem_flatMap.1 hv
        rcases List.mem_append.1 hv with hv | hv
        · obtain ⟨l, hl, rfl⟩ := List.mem_map.1 hv
          exact (hL x hx).lists.each _ (List.mem_map.2 ⟨l, hl, rfl⟩)
        · simp at hv; subst hv; exact hrow x hx
end
end N6
end Go.Proofs.YteppichfkeknbaaDoor
