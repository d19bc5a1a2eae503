/- What is laid for a call: bytes and options with wide room behind them; and that all of it still stands. -/
import Derived.Test.YteppichfkeknbaaDoorCc
import Derived.Test.YteppichfkeknbaaDoorBl
namespace Go.Eng
open Go Go.RowKit
def marksB (n : Nat) : List Int := (List.range n).map fun i => ((201 + i % 5 : Nat) : Int)
theorem marksB_succ (n : Nat) : marksB (n + 1) = marksB n ++ [((201 + n % 5 : Nat) : Int)] := by unfold marksB; rw [List.range_succ, List.map_append]; rfl
theorem marksB_len (n : Nat) : (marksB n).length = n := by simp [marksB]
theorem marksB_bts (n : Nat) : Bts (marksB n) := fun x hx => by
  obtain ⟨k, _, rfl⟩ := List.mem_map.1 hx
  omega
def roomyL (l : List Int) : List Int := l ++ marksB 75
/-- An option laid so: its bytes stand at the front of a longer row. -/
structure LaidR where
  kind : Int
  row : Sl
  data : List Int
def LaidR.opt (x : LaidR) : OptR := ⟨⟨x.kind, ⟨x.row.A, x.data.length, x.row.k⟩⟩, x.data⟩
/-- Lists of bytes, by where they lie. -/
structure SlsAt (w : World) (s : Sl) (vs : List (Sl × List Int)) : Prop where
  len : vs.length = s.n
  small : s.n ≤ 5000000000000
  cells : Cells w s.A (vs.map fun v => v.1.val)
  each : ∀ v ∈ vs, BytesAt w v.1 v.2
theorem SlsAt.ext {w w' : World} {s : Sl} {vs : List (Sl × List Int)} (h : SlsAt w s vs) (hE : Ext w w') : SlsAt w' s vs := { h with cells := h.cells.ext hE, each := fun v hv => (h.each v hv).ext hE }
def markO : OptV := ⟨-201, ⟨none, 0, 0⟩⟩
end Go.Eng
namespace Go.Proofs.YteppichfkeknbaaDoor
namespace N6
open Go.Eng Go.RowKit
theorem tS : TypeIs Tryd.prog 26 (.slice none 0 0) 1 24 := .of (by kernel_rfl)
section
variable {w : World} {Γ : List Fct} {s : Sl}
theorem roomy_spec {l : List Int} (h : BytesAt w s l) (hl : l.length ≤ 3900000) : Calls Tryd.prog 61 #[s.val] w fun e w' => ∃ s' : Sl, e = .returned s'.val ∧ s'.n = l.length + 75 ∧ BFine s' (roomyL l) ∧ Sep [Fct.rest w None, rowB w.heap.size s' (roomyL l)] w' := by
  refine weirlaw13_roomy_of s.A s.n s.k w _ ?_
  unfold weirlaw13_roomy_VC
  have hs := h.small
  have hsl := h.len
  refine appB (m := s.n) (xs := []) (ys := l) ((Sep.start0 w).nil _ _ _) 1 rfl h.cells h.len (by omega) (Nat.le_refl _) fun A2 c2 w1 H hc2 => ?_
  rw [Nat.zero_add] at H ⊢
  refine LoopVC.of (fun st w' => ∃ i : Nat, st.2 = i ∧ i ≤ 75 ∧ st.1.2.1 = l.length + i ∧ Sep [Fct.rest w None, ownB w.heap.size (.slice st.1.1 st.1.2.1 st.1.2.2) st.1.2.1 (l ++ marksB i)] w') (fun st _ => ((75 : Int) - st.2).toNat)
    ⟨0, rfl, Nat.zero_le _, hsl.symm, by show Sep [_, ownB _ _ _ (l ++ [])] _; rw [List.append_nil]; exact H⟩ ?_
  rintro ⟨⟨A1, n1, q1⟩, _⟩ w2 ⟨i, rfl, hi, hn1, H⟩
  simp only at hn1
  show weirlaw13_roomy_L122 _ A1 n1 q1 (i : Int) w2 _
  unfold weirlaw13_roomy_L122
  refine Br.dec (fun hlt => ?_) fun hge => ?_
  · have e1 : IntKind.u8.wrap (IntKind.i64.wrap (201 + Int.tmod (i : Int) 5)) = ((201 + i % 5 : Nat) : Int) := by
      have : Int.tmod (i : Int) 5 = ((i % 5 : Nat) : Int) := tmod_nat i 5
      rw [this, w64 (by omega) (by omega), wu8 (by omega) (by omega)]; omega
    have e2 : IntKind.i64.wrap ((i : Int) + 1) = ((i + 1 : Nat) : Int) := by rw [w64 (by omega) (by omega)]; omega
    rw [e1, e2]
    have hz := (H.restOf 0 rfl).size
    refine NewVC.sep H fun g1 w3 H => ?_
    have hz3 := (H.restOf 0 rfl).size
    refine appB (m := 1) (ys := [((201 + i % 5 : Nat) : Int)]) H 1 rfl (Cells.blk0 (H.blk 2 rfl)) rfl (show n1 + 1 ≤ 140737488355328 by omega) (by omega) fun A3 c3 w4 H hc3 => ⟨⟨i + 1, rfl, by omega, by show n1 + 1 = _; omega, ?_⟩, by simp only; omega⟩
    rw [marksB_succ, ← List.append_assoc]
    exact H.take 2
  · have : i = 75 := by omega
    subst this
    refine ⟨⟨A1, n1, q1⟩, rfl, hn1, ⟨by show n1 ≤ 4000000; omega, h.bts.append (marksB_bts 75)⟩, H⟩
def laidM (ls : List LaidR) : List Value := (ls.map fun x => x.opt.v.cells).flatten
def laidW (ls : List LaidR) : List Value := ls.map fun x => x.row.val
def laidF (b : Nat) (ls : List LaidR) : List Fct := ls.map fun x => rowB b x.row (roomyL x.data)
structure LaidFine (ls : List LaidR) : Prop where
  each : ∀ x ∈ ls, x.row.n = x.data.length + 75 ∧ BFine x.row (roomyL x.data) ∧ Bts x.data
theorem appS (H : Sep Γ w) (i : Nat) {b n c : Nat} {A A' : Option Addr} {xs : List Value} {o : Sl} {c' : Nat} (hi : Γ[i]? = some (Fct.own b 26 1 (.slice A n c) n xs)) (hs : Cells w A' [o.val]) (hn : n ≤ 5000000000000) (hb : b ≤ w.heap.size)
    {F : Option Addr → Nat → Nat → World → Prop} (h : ∀ A2 c2 w', Sep (Γ.set i (Fct.own b 26 1 (.slice A2 (n + 1) c2) (n + 1) (xs ++ [o.val]))) w' → n + 1 ≤ c2 → F A2 (n + 1) c2 w') :
    AppVC Tryd.prog #[49, 49] 49 (.slice A n c) (.slice A' 1 c') w F :=
  AppVC.sep H i Tryd.underlying49 tS rfl (by decide) hi hs rfl (fun v hv => by simp at hv; subst hv; rfl) (by omega) (by decide) hb h
/-- What is laid, as it lies. -/
structure LaidAt (w : World) (so sw : Sl) (ls : List LaidR) : Prop where
  opts : OptsAt w so (ls.map LaidR.opt)
  room : so.n + 20 ≤ so.k
  recs : Recs w so.A 2 ((ls.map fun x => x.opt.v.cells) ++ List.replicate 20 markO.cells)
  lists : SlsAt w sw (ls.map fun x => (x.row, roomyL x.data))
theorem LaidAt.ext {w' : World} {so sw : Sl} {ls : List LaidR} (h : LaidAt w so sw ls) (hE : Ext w w') : LaidAt w' so sw ls := ⟨h.opts.ext hE, h.room, h.recs.ext hE, h.lists.ext hE⟩
/-- What is laid, row by row. -/
structure LaidOk (so sw : Sl) (ls : List LaidR) : Prop where
  len : ls.length = so.n
  small : so.n ≤ 1048576
  room : so.n + 20 ≤ so.k
  lists : sw.n = so.n
  fine : LaidFine ls
def laidFs (b : Nat) (so sw : Sl) (ls : List LaidR) : List Fct :=
  Fct.own b 94 2 (.slice so.A (so.n + 20) so.k) (so.n + 20) (laidM ls ++ (List.replicate 20 markO.cells).flatten) :: Fct.own b 26 1 sw.val sw.n (laidW ls) :: laidF b ls
theorem laidAt_of {b : Nat} {so sw : Sl} {ls : List LaidR} (h : ∀ f ∈ laidFs b so sw ls, f.φ w) (hk : LaidOk so sw ls) : LaidAt w so sw ls := by
  have h1 := h _ (List.mem_cons_self)
  have h2 := h (Fct.own b 26 1 sw.val sw.n (laidW ls)) (by simp [laidFs])
  have hf := hk.fine
  have hn := hk.len
  have hsm := hk.small
  have hrm := hk.room
  have hall : Recs w so.A 2 ((ls.map fun x => x.opt.v.cells) ++ List.replicate 20 markO.cells) := by
    refine Recs.of_cells (by decide) (fun r hr => ?_) ?_
    · rcases List.mem_append.1 hr with hr | hr
      · obtain ⟨x, _, rfl⟩ := List.mem_map.1 hr; rfl
      · rw [(List.mem_replicate.1 hr).2]; rfl
    · rw [List.flatten_append]; exact own_cells h1
  have hrow : ∀ x ∈ ls, BytesAt w x.row (roomyL x.data) := fun x hx => bytesAt_of (b := b) (h (rowB b x.row (roomyL x.data)) (by simp only [laidFs, List.mem_cons]; exact .inr (.inr (List.mem_map.2 ⟨x, hx, rfl⟩)))) (hf.each x hx).2.1
  refine ⟨⟨by simp [hn], by omega, by omega, ?_, fun r hr => ?_⟩, hrm, hall, ⟨by simp [hn, hk.lists], by have := hk.lists; omega, ?_, fun v hv => ?_⟩⟩
  · intro k cs hkk
    refine hall k cs ?_
    have hk' : k < ls.length := by have := (List.getElem?_eq_some_iff.1 hkk).1; simpa using this
    rw [List.getElem?_append_left (by simpa using hk')]
    rw [List.map_map] at hkk; exact hkk
  · obtain ⟨x, hx, rfl⟩ := List.mem_map.1 hr
    have hB := hrow x hx
    have hxf := hf.each x hx
    refine ⟨rfl, by show x.data.length ≤ x.row.k; have := hB.cap; omega, by show x.data.length ≤ 4000000; have := hB.small; omega, hxf.2.2, ?_⟩
    have := hB.cells.take x.data.length
    rw [← List.map_take] at this
    have e : (roomyL x.data).take x.data.length = x.data := by unfold roomyL; rw [List.take_left' rfl]
    rw [e] at this
    exact this
  · rw [List.map_map]
    exact own_cells (A := sw.A) (c := sw.k) h2
  · obtain ⟨x, hx, rfl⟩ := List.mem_map.1 hv
    exact hrow x hx
theorem laidFs_less {b b' : Nat} {so sw : Sl} {ls : List LaidR} (h : b' ≤ b) : AllLe (laidFs b so sw ls) (laidFs b' so sw ls) :=
  .cons (own_less h).1 (own_less h).2 (.cons (own_less h).1 (own_less h).2 (AllLe.map ls fun _ _ => own_less h))
set_option maxHeartbeats 2000000 in
theorem laidOpts_sep {rs : List OptR} (hO : OptsAt w s rs) (hsm : s.n ≤ 1048576 ∧ ∀ r ∈ rs, r.data.length ≤ 3900000) : Calls Tryd.prog 62 #[s.val] w fun e w' => ∃ (so sw : Sl) (ls : List LaidR), e = .returned (.tuple #[so.val, sw.val]) ∧
    (ls.map LaidR.opt).map OptR.d = rs.map OptR.d ∧ LaidOk so sw ls ∧ Sep (Fct.rest w None :: laidFs w.heap.size so sw ls) w' := by
  refine weirlaw13_laidOpts_of s.A s.n s.k w _ ?_
  unfold weirlaw13_laidOpts_VC
  have hl := hO.len
  refine LoopVC.of (fun st w' => ∃ (i : Nat) (ls : List LaidR), st.2.2 = i ∧ i ≤ s.n ∧ (ls.map LaidR.opt).map OptR.d = (rs.take i).map OptR.d ∧ ls.length = i ∧ st.1.2.1 = i ∧ st.2.1.2.1 = i ∧ LaidFine ls ∧
      Sep (Fct.rest w None :: Fct.own w.heap.size 94 2 (.slice st.1.1 st.1.2.1 st.1.2.2) st.1.2.1 (laidM ls) :: Fct.own w.heap.size 26 1 (.slice st.2.1.1 st.2.1.2.1 st.2.1.2.2) st.2.1.2.1 (laidW ls) :: laidF w.heap.size ls) w') (fun st _ => ((s.n : Int) - st.2.2).toNat)
    ⟨0, [], rfl, Nat.zero_le _, rfl, rfl, rfl, rfl, ⟨fun x hx => by cases hx⟩, ((Sep.start0 w).nil _ _ _).nil _ _ _⟩ ?_
  rintro ⟨⟨A1, n1, q1⟩, ⟨A2, n2, q2⟩, _⟩ w1 ⟨i, ls, rfl, hi, hd, hll, hn1, hn2, hf, H⟩
  simp only at hn1 hn2
  subst hn1
  have hn2 := hn2.symm
  subst hn2
  show weirlaw13_laidOpts_L122 _ s.A s.n A1 n1 q1 A2 n1 q2 (n1 : Int) w1 _
  unfold weirlaw13_laidOpts_L122
  refine Br.dec (fun hlt => ?_) fun hge => ?_
  · have hri : rs[n1]? = some rs[n1] := List.getElem?_eq_getElem (by omega)
    have hmem : rs[n1] ∈ rs := List.getElem_mem _
    have htake : rs.take (n1 + 1) = rs.take n1 ++ [rs[n1]] := by rw [List.take_add_one, hri]; rfl
    have hi1 : IntKind.i64.wrap ((n1 : Int) + 1) = ((n1 + 1 : Nat) : Int) := by rw [w64 (by omega) (by omega)]; omega
    have hdl := (hO.each _ hmem).len
    refine OptsAt.idxR (hO.ext H.start1) hri fun a ha => ⟨_, _, _, c1 ha, ?_⟩
    have hz1 := H.start1.size
    refine (roomy_spec (s := rs[n1].v.data) (l := rs[n1].data) ((hO.each _ hmem).ext H.start1) (hsm.2 _ hmem)).mono ?_
    rintro _ w2 ⟨R, rfl, hRn, hRf, H2⟩
    have H := H.made (H2.lower 1 rfl hz1)
    refine ⟨_, _, _, rfl, NewVC.sep H fun g1 w3 H => ?_⟩
    have H := H.front
    have hz3 := (H.restOf 1 rfl).size
    refine appS (o := R) H 3 rfl (Cells.blk0 (H.blk 0 rfl)) (show n1 ≤ 5000000000000 by omega) (by omega) fun A3 c3 w4 H hc3 => ?_
    have H := H.tail
    refine DrawVC.sep H (fun w' => OptsAt w' s rs) fun w5 H => ⟨hO.ext (H.restOf 0 rfl), ?_⟩
    have hS := hO.ext (H.restOf 0 rfl)
    refine OptsAt.idxD (S := fun w' => OptsAt w' s rs) hS (fun w' h => h) hri fun a ha => ⟨_, fun w' h => c0 (ha w' h), ?_⟩
    refine OptsAt.idxD (S := fun w' => OptsAt w' s rs) hS (fun w' h => h) hri fun a ha => ⟨_, _, _, fun w' h => c1 (ha w' h), ?_⟩
    have hRk : R.n ≤ R.k := own_le (H2.own 1 rfl)
    refine ⟨by omega, by omega, NewVC.sep H fun g2 w6 H => ?_⟩
    have H := H.front
    have hz6 := (H.restOf 1 rfl).size
    refine ⟨hO.ext (H.restOf 1 rfl), ?_⟩
    have hnat : ((rs[n1].v.data.n : Int)).toNat = rs[n1].data.length := by omega
    refine appO (o := (LaidR.opt ⟨rs[n1].v.kind, R, rs[n1].data⟩).v) H 2 rfl (by have := Cells.blk0 (H.blk 0 rfl); rw [hnat] at this; exact this) (show n1 ≤ 1000000000 by omega) (by omega) fun A4 c4 w7 H hc4 =>
      ⟨hO.ext (H.restOf 1 rfl), ⟨n1 + 1, ls ++ [⟨rs[n1].v.kind, R, rs[n1].data⟩], hi1, by omega, ?_, by simp [hll], rfl, rfl, ⟨fun x hx => ?_⟩, ?_⟩, by simp only [hi1]; omega⟩
    · rw [htake, List.map_append, List.map_append, List.map_append, hd]; rfl
    · rcases List.mem_append.1 hx with hx | hx
      · exact hf.each x hx
      · simp at hx; subst hx; exact ⟨hRn, hRf, (hO.each _ hmem).bts⟩
    · have H := H.tail
      simp only [laidM, laidW, laidF, List.map_append, List.flatten_append, List.map_cons, List.map_nil, List.flatten_cons, List.flatten_nil, List.append_nil]
      exact H
  · have hin : n1 = s.n := by omega
    have htk : rs.take n1 = rs := List.take_of_length_le (by omega)
    rw [htk] at hd
    refine LoopVC.of (fun st w' => ∃ j : Nat, st.2 = j ∧ j ≤ 20 ∧ st.1.2.1 = n1 + j ∧ Sep (Fct.rest w None :: Fct.own w.heap.size 94 2 (.slice st.1.1 st.1.2.1 st.1.2.2) st.1.2.1 (laidM ls ++ (List.replicate j markO.cells).flatten) :: Fct.own w.heap.size 26 1 (.slice A2 n1 q2) n1 (laidW ls) :: laidF w.heap.size ls) w') (fun st _ => ((20 : Int) - st.2).toNat)
      ⟨0, rfl, Nat.zero_le _, rfl, by simpa using H⟩ ?_
    rintro ⟨⟨A5, n5, q5⟩, _⟩ w8 ⟨j, rfl, hj, hn5, H⟩
    simp only at hn5
    show weirlaw13_laidOpts_L250 _ s.n A2 n1 q2 A5 n5 q5 (j : Int) w8 _
    unfold weirlaw13_laidOpts_L250
    refine Br.dec (fun hlt => ?_) fun hge2 => ?_
    · refine NewVC.sep H fun g3 w9 H => ?_
      have H := H.front
      have hz9 := (H.restOf 1 rfl).size
      have hj1 : IntKind.i64.wrap ((j : Int) + 1) = ((j + 1 : Nat) : Int) := by rw [w64 (by omega) (by omega)]; omega
      refine appO (o := markO) H 2 rfl (Cells.blk0 (H.blk 0 rfl)) (show n5 ≤ 1000000000 by omega) (by omega) fun A6 c6 w10 H hc6 => ⟨⟨j + 1, hj1, by omega, by show n5 + 1 = _; omega, ?_⟩, by simp only [hj1]; omega⟩
      have H := H.tail
      rw [List.replicate_succ', List.flatten_append, ← List.append_assoc]
      simp only [List.flatten_cons, List.flatten_nil, List.append_nil]
      exact H
    · have hj20 : j = 20 := by omega
      subst hj20
      have hk5 : n5 ≤ q5 := own_le (s := ⟨A5, n5, q5⟩) (H.own 1 rfl)
      refine ⟨by omega, by omega, ?_⟩
      rw [Int.toNat_natCast]
      refine ⟨⟨A5, s.n, q5⟩, ⟨A2, n1, q2⟩, ls, rfl, hd, ⟨by show ls.length = s.n; omega, hsm.1, by show s.n + 20 ≤ q5; omega, hin, hf⟩, ?_⟩
      unfold laidFs
      show Sep (Fct.rest w None :: Fct.own w.heap.size _ 2 (.slice A5 (s.n + 20) q5) (s.n + 20) _ :: _) w8
      rw [← hin, ← hn5]
      exact H
theorem laidOpts_spec {rs : List OptR} (hO : OptsAt w s rs) (hsm : s.n ≤ 1048576 ∧ ∀ r ∈ rs, r.data.length ≤ 3900000) : Calls Tryd.prog 62 #[s.val] w fun e w' => ∃ (so sw : Sl) (ls : List LaidR), e = .returned (.tuple #[so.val, sw.val]) ∧
    (ls.map LaidR.opt).map OptR.d = rs.map OptR.d ∧ LaidAt w' so sw ls ∧ Ext w w' :=
  (laidOpts_sep hO hsm).mono fun _ _ ⟨so, sw, ls, h1, h2, h3, h4⟩ => ⟨so, sw, ls, h1, h2, laidAt_of (fun _ hf => h4.mem (List.mem_cons_of_mem _ hf)) h3, h4.start1⟩
end
end N6
end Go.Proofs.YteppichfkeknbaaDoor
/- SplitFour: what Split4 and Fits4 answer is the document's, and what was handed in stands. -/
namespace Go.Eng
open Go Go.RowKit
theorem flat_one {α β : Type} (f : α → β) : ∀ l : List α, (l.map fun v => [f v]).flatten = l.map f
  | [] => rfl
  | x :: l => by simp only [List.map_cons, List.flatten_cons, List.singleton_append]; rw [flat_one f l]
end Go.Eng
namespace Go.Proofs.YteppichfkeknbaaDoor
namespace N6
open Go.Eng Go.RowKit
section
variable {w : World}
theorem sameAll_spec {a b : Sl} {va vb : List (Sl × List Int)} (ha : SlsAt w a va) (hb : SlsAt w b vb) (he : va.map Prod.snd = vb.map Prod.snd) : Calls Tryd.prog 63 #[a.val, b.val] w fun e w' => Ext w w' ∧ e = .returned (.bool true) := by
  refine weirlaw13_sameAll_of a.A a.n a.k b.A b.n b.k w _ ?_
  unfold weirlaw13_sameAll_VC
  have la := ha.len
  have lb := hb.len
  have hs := ha.small
  have hlen : va.length = vb.length := by have := congrArg List.length he; simpa using this
  refine Br.no (by omega) ?_
  refine LoopVC.of (fun st w' => ∃ i : Nat, st = (i : Int) ∧ i ≤ va.length ∧ Ext w w') (fun st _ => ((va.length : Int) - st).toNat) ⟨0, rfl, Nat.zero_le _, Mod.refl _ _⟩ ?_
  rintro _ w1 ⟨i, rfl, hi, hE⟩
  unfold weirlaw13_sameAll_L58
  refine Br.dec (fun hlt => ?_) fun hge => ⟨hE, rfl⟩
  have hva : va[i]? = some va[i] := List.getElem?_eq_getElem (by omega)
  have hvb : vb[i]? = some vb[i] := List.getElem?_eq_getElem (by omega)
  have hv : va[i].2 = vb[i].2 := by
    have := congrArg (·[i]?) he
    simpa [List.getElem?_map, hva, hvb] using this
  refine DrawVC.of (fun w' => SlsAt w' a va ∧ SlsAt w' b vb) fun w2 hE2 _ => ⟨⟨ha.ext (hE.trans hE2), hb.ext (hE.trans hE2)⟩, ?_⟩
  have hE := hE.trans hE2
  have hS : SlsAt w2 a va ∧ SlsAt w2 b vb := ⟨ha.ext hE, hb.ext hE⟩
  have idx : ∀ {s : Sl} {vs : List (Sl × List Int)} (hS : ∀ w', (SlsAt w' a va ∧ SlsAt w' b vb) → SlsAt w' s vs) {x : Sl × List Int} (hx : vs[i]? = some x) {F : Addr → Prop}, (∀ q, (∀ w', (SlsAt w' a va ∧ SlsAt w' b vb) → w'.cell? q = some x.1.val) → F q) → IdxVC s.A s.n 1 (i : Int) F := by
    intro s vs hS' x hx F hF
    refine IdxVC.recD (size := 1) (rs := vs.map fun v => [v.1.val]) (cs := [x.1.val]) (fun w' => SlsAt w' a va ∧ SlsAt w' b vb) hS (fun w' hw' => ?_) (by simpa using (hS' w2 hS).len) (by rw [List.getElem?_map, hx]; rfl) fun q hq => hF q fun w' hw' => c0 (hq w' hw')
    refine Recs.of_cells (by decide) (fun r hr => ?_) ?_
    · obtain ⟨y, _, rfl⟩ := List.mem_map.1 hr; rfl
    · have := (hS' w' hw').cells
      rw [flat_one]; exact this
  refine idx (fun w' h => h.1) hva fun q hq => ⟨_, _, _, hq, ?_⟩
  refine idx (fun w' h => h.2) hvb fun q' hq' => ⟨_, _, _, hq', ?_⟩
  refine (alike7_spec (s := va[i].1) (t := vb[i].1) (hS.1.each _ (List.getElem_mem _)) (hS.2.each _ (List.getElem_mem _))).mono ?_
  rintro _ w3 ⟨hw3, rfl⟩
  subst w3
  rw [decide_eq_true hv]
  refine ⟨_, rfl, hS, Br.f rfl ?_⟩
  rw [w64 (by omega) (by omega)]
  exact ⟨⟨i + 1, by omega, by omega, hE⟩, by omega⟩
theorem marks_spec {so sw : Sl} {ls : List LaidR} (h : LaidAt w so sw ls) : Calls Tryd.prog 64 #[so.val] w fun e w' => Ext w w' ∧ e = .returned (.bool true) := by
  refine weirlaw13_marks_of so.A so.n so.k w _ ?_
  unfold weirlaw13_marks_VC
  have hs := h.opts.small
  have hl := h.opts.len
  have hr := h.room
  rw [w64 (by omega) (by omega)]
  refine ⟨by omega, by omega, ?_⟩
  rw [show ((so.n : Int) + 20).toNat = so.n + 20 by omega]
  refine LoopVC.of (fun st w' => w' = w ∧ ∃ i : Nat, st = ((so.n + i : Nat) : Int) ∧ i ≤ 20) (fun st _ => ((so.n : Int) + 20 - st).toNat) ⟨rfl, 0, rfl, Nat.zero_le _⟩ ?_
  rintro _ w1 ⟨hw1, i, rfl, hi⟩
  subst w1
  unfold weirlaw13_marks_L58
  refine Br.dec (fun hlt => ?_) fun hge => ⟨Mod.refl _ _, rfl⟩
  have hll : ls.length = so.n := by simpa using hl
  refine IdxVC.recD (rs := (ls.map fun x => x.opt.v.cells) ++ List.replicate 20 markO.cells) (cs := markO.cells) (fun w' => w' = w) rfl (fun w' e => by subst e; exact h.recs) (by simp [hll]) ?_ fun a ha => ⟨_, c0 (ha w rfl), Br.no (fun h => h rfl) ?_⟩
  · rw [List.getElem?_append_right (by simp [hll]), List.length_map, hll, Nat.add_sub_cancel_left]
    exact List.getElem?_replicate_of_lt (by omega)
  · rw [w64 (by omega) (by omega)]
    exact ⟨⟨rfl, i + 1, by omega, by omega⟩, by omega⟩
set_option maxHeartbeats 2000000 in
theorem cuts4_spec {h : Ip4V} {os : List OptR} {data : List Int} {mtu : Int} (hA : Ip4At w h os data) (hb : Small4 1048576 h os) : Calls Tryd.prog 30 #[h.val, .int .i64 mtu] w fun e w' => Ext w w' ∧ e = .returned (.bool true) := by
  refine weirlaw13_cuts4_of h mtu w _ ?_
  unfold weirlaw13_cuts4_VC
  have hdl := hA.data.len
  have hb1 := hb.1
  have hsmall : h.opts.n ≤ 1048576 ∧ ∀ r ∈ os, r.data.length ≤ 3900000 := ⟨hb.2.1, fun r hr => by have := hb.2.2 r hr; have := (hA.opts.each r hr).len; omega⟩
  refine NewVC.sep (Sep.start0 w) fun g1 w1 H => ⟨_, _, _, H.cell 1 rfl 42 rfl, ?_⟩
  refine (roomy_spec (s := h.data) (l := data) (hA.data.ext (H.restOf 0 rfl)) (by omega)).mono ?_
  rintro _ w2 ⟨R, rfl, hRn, hRf, H2⟩
  have H := H.ext (H2.restOf 0 rfl)
  have hRB : BytesAt w2 R (roomyL data) := bytesAt_of (b := w1.heap.size) (H2.own 1 rfl) hRf
  refine ⟨_, _, _, rfl, _, _, _, H.cell 1 rfl 41 rfl, ?_⟩
  refine (laidOpts_spec (s := h.opts) (rs := os) (hA.opts.ext (H.restOf 0 rfl)) hsmall).mono ?_
  rintro _ w3 ⟨so, sw, ls, rfl, hls, hL, hE3⟩
  have H := H.ext hE3
  have hRB := hRB.ext hE3
  have hE03 := H.restOf 0 rfl
  have hg1 := H.blk 1 rfl
  refine ⟨_, _, _, _, _, _, rfl, Ip4V.of h ⟨H.at 1 rfl, NewVC.sep (Sep.start0 w3) fun g2 w4 H => ?_⟩⟩
  refine Stores.sep H 1 rfl (Ip4V.one _) (Nat.le_refl _) (splice_all rfl) fun w5 H => ⟨_, _, _, (hg1.ext (H.restOf 0 rfl)).cell 42, ?_⟩
  have hcap := hRB.cap
  refine ⟨by omega, by omega, SetVC.sep H 1 rfl (show 42 < 43 by decide) fun w6 H => SetVC.sep H 1 rfl (show 41 < 43 by decide) fun w7 H => ?_⟩
  obtain ⟨g, hg⟩ : ∃ g : Ip4V, g = { h with data := ⟨R.A, h.data.n, R.k⟩, opts := so } := ⟨_, rfl⟩
  have H : Sep [Fct.rest w3 None, Fct.blk g2 28 g.cells] w7 := by rw [hg]; exact H
  have hE7 := H.restOf 0 rfl
  have hcut : BytesAt w3 ⟨R.A, h.data.n, R.k⟩ data := by
    refine ⟨hdl, by show h.data.n ≤ R.k; omega, by show h.data.n ≤ 4000000; omega, hA.data.bts, ?_⟩
    have := hRB.cells.take data.length
    rw [← List.map_take] at this
    have e : (roomyL data).take data.length = data := by unfold roomyL; rw [List.take_left' rfl]
    rw [e] at this
    exact this
  have hgA : Ip4At w3 g (ls.map LaidR.opt) data := by
    rw [hg]; exact ⟨hL.opts, hcut, hA.src, hA.dst⟩
  have hgd : g.d (ls.map LaidR.opt) data = h.d os data := by
    rw [ip4_key, hg]
    exact ⟨rfl, rfl, rfl, rfl, rfl, rfl, rfl, rfl, rfl, hls, rfl⟩
  have hA3 := hA.ext hE03
  refine Ip4V.of g ⟨H.at 1 rfl, ?_⟩
  refine (split4_spec (mtu := mtu) (hgA.ext hE7)).mono ?_
  intro e w8 hc
  obtain ⟨s1, r1, rfl, hr1, hat1, hF8⟩ := hc.at
  rw [hgd] at hr1 ⊢
  have H := H.ext hF8
  have hE8 := H.restOf 0 rfl
  refine ⟨_, _, _, _, rfl, Ip4V.of h ⟨CellsAt.blk (hg1.ext hE8), ?_⟩⟩
  refine (refSplit4_spec (mtu := mtu) (hA3.ext hE8)).mono ?_
  intro e w9 hc
  obtain ⟨s2, r2, rfl, hr2, hat2, hF9⟩ := hc.at
  have hat1 := hat1.ext hF9
  have H := H.ext hF9
  refine ⟨_, _, _, _, rfl, Ip4V.of g ⟨H.at 1 rfl, ?_⟩⟩
  refine (fits4_spec (mtu := mtu) (hgA.ext (H.restOf 0 rfl))).mono ?_
  rintro _ w10 ⟨hF10, rfl⟩
  have hat1 := hat1.ext hF10
  have hat2 := hat2.ext hF10
  have H := H.ext hF10
  rw [hgd]
  refine ⟨_, rfl, ?_⟩
  refine num_spec.mono ?_
  rintro _ w11 ⟨hw11, rfl⟩
  subst w11
  refine ⟨_, rfl, Br.no (fun x => x rfl) ?_⟩
  refine (sames4_spec (s := s1) (t := s2) hat1 hat2).mono ?_
  rintro _ w12 ⟨x, rfl, hx, hF12⟩
  have hxt := hx.2 (hr1.trans hr2.symm)
  subst hxt
  have H := H.ext hF12
  refine ⟨_, rfl, Br.f rfl (Ip4V.of h ⟨CellsAt.blk (hg1.ext (H.restOf 0 rfl)), ?_⟩)⟩
  refine (refFits4_spec (mtu := mtu) (hA3.ext (H.restOf 0 rfl))).mono ?_
  rintro _ w13 ⟨hF13, rfl⟩
  have H := H.ext hF13
  refine ⟨_, rfl, bne_br (fun x => absurd rfl x) fun _ => ⟨_, _, _, (hg1.ext (H.restOf 0 rfl)).cell 41, ?_⟩⟩
  refine (laidOpts_spec (s := h.opts) (rs := os) (hA3.opts.ext (H.restOf 0 rfl)) hsmall).mono ?_
  rintro _ w14 ⟨so2, sw2, ls2, rfl, hls2, hL2, hF14⟩
  have H := H.ext hF14
  refine ⟨_, _, _, _, _, _, rfl, Ip4V.of g ⟨H.at 1 rfl, Ip4V.of h ⟨CellsAt.blk (hg1.ext (H.restOf 0 rfl)), ?_⟩⟩⟩
  refine (same4_spec (hgA.ext (H.restOf 0 rfl)) (hA3.ext (H.restOf 0 rfl))).mono ?_
  rintro _ w15 ⟨x, rfl, hx, hF15⟩
  have hxt := hx.2 hgd
  subst hxt
  have H := H.ext hF15
  have hL2 := hL2.ext hF15
  refine ⟨_, rfl, Br.t rfl ⟨_, _, _, (hg1.ext (H.restOf 0 rfl)).cell 42, ?_⟩⟩
  refine (roomy_spec (s := h.data) (l := data) (hA3.data.ext (H.restOf 0 rfl)) (by omega)).mono ?_
  rintro _ w16 ⟨R2, rfl, hR2n, hR2f, H16⟩
  have hF16 := H16.restOf 0 rfl
  have H := H.ext hF16
  have hL2 := hL2.ext hF16
  have hR2B : BytesAt w16 R2 (roomyL data) := bytesAt_of (b := w15.heap.size) (H16.own 1 rfl) hR2f
  refine ⟨_, _, _, rfl, ?_⟩
  refine (alike7_spec (s := R) (t := R2) (hRB.ext (H.restOf 0 rfl)) hR2B).mono ?_
  rintro _ w17 ⟨hw17, rfl⟩
  subst w17
  rw [decide_eq_true rfl]
  refine ⟨_, rfl, Br.t rfl ?_⟩
  have hdata : (ls.map fun x => (x.row, roomyL x.data)).map Prod.snd = (ls2.map fun x => (x.row, roomyL x.data)).map Prod.snd := by
    have e := hls.trans hls2.symm
    have := congrArg (List.map fun d : OptD => roomyL d.data) e
    simpa [List.map_map, Function.comp_def, LaidR.opt, OptR.d] using this
  refine (sameAll_spec (a := sw) (b := sw2) ((hL.ext (H.restOf 0 rfl)).lists) hL2.lists hdata).mono ?_
  rintro _ w18 ⟨hF18, rfl⟩
  have H := H.ext hF18
  refine ⟨_, rfl, Br.t rfl ?_⟩
  refine (marks_spec (hL.ext (H.restOf 0 rfl))).mono ?_
  rintro _ w19 ⟨hF19, rfl⟩
  have H := H.ext hF19
  exact ⟨_, rfl, hE03.trans (H.restOf 0 rfl), rfl⟩
theorem splitFour_law {h : Ip4V} {os : List OptR} {data : List Int} {mtu : Int} (hA : Ip4At w h os data) (hb : Small4 1048576 h os) (hK : Kn w) : Calls Tryd.prog 6 #[h.val, .int .i64 mtu] w fun e w' => e = .returned (.bool true) ∧ Ext w w' := by
  refine weirlaw13_SplitFour_of h mtu w _ ?_
  unfold weirlaw13_SplitFour_VC
  refine NewVC.sep (Sep.start0 w) fun g1 w1 H => ?_
  refine (started_spec (hK.ext (H.restOf 0 rfl))).mono ?_
  rintro _ w2 ⟨hE2, rfl⟩
  have H := H.ext hE2
  refine ⟨_, rfl, Br.t rfl (Ip4V.of h ⟨H.at 1 rfl, ?_⟩)⟩
  refine (cuts4_spec (mtu := mtu) (hA.ext (H.restOf 0 rfl)) hb).mono ?_
  rintro _ w3 ⟨hE3, rfl⟩
  exact ⟨_, rfl, rfl, (H.restOf 0 rfl).trans hE3⟩
end
end N6
end Go.Proofs.YteppichfkeknbaaDoor
/- Extension headers laid with wide room behind all their lists. -/
namespace Go.Eng
open Go Go.RowKit
structure LaidX where
  kind : Int
  so : Sl
  sw : Sl
  ls : List LaidR
  row : Sl
  data : List Int
def LaidX.ext (x : LaidX) : ExtR := ⟨⟨x.kind, x.so, ⟨x.row.A, x.data.length, x.row.k⟩⟩, x.ls.map LaidR.opt, x.data⟩
def LaidX.lists (x : LaidX) : List (Sl × List Int) := (x.ls.map fun l => (l.row, roomyL l.data)) ++ [(x.row, roomyL x.data)]
def markE : ExtV := ⟨-202, ⟨none, 0, 0⟩, ⟨none, 0, 0⟩⟩
end Go.Eng
namespace Go.Proofs.YteppichfkeknbaaDoor
namespace N6
open Go.Eng Go.RowKit
section
variable {w : World} {Γ : List Fct} {s : Sl}
structure LaidXAt (w : World) (se sw : Sl) (xs : List LaidX) : Prop where
  exts : ExtsAt w se (xs.map LaidX.ext)
  room : se.n + 20 ≤ se.k
  recs : Recs w se.A 3 ((xs.map fun x => x.ext.v.cells) ++ List.replicate 20 markE.cells)
  lists : SlsAt w sw (xs.flatMap LaidX.lists)
  opts : ∀ x ∈ xs, LaidAt w x.so x.sw x.ls
theorem LaidXAt.ext {w' : World} {se sw : Sl} {xs : List LaidX} (h : LaidXAt w se sw xs) (hE : Ext w w') : LaidXAt w' se sw xs := ⟨h.exts.ext hE, h.room, h.recs.ext hE, h.lists.ext hE, fun x hx => (h.opts x hx).ext hE⟩
def xF (b : Nat) (x : LaidX) : List Fct := laidFs b x.so x.sw x.ls ++ [rowB b x.row (roomyL x.data)]
def xM (xs : List LaidX) : List Value := (xs.map fun x => x.ext.v.cells).flatten
def xW (xs : List LaidX) : List Value := xs.flatMap fun x => laidW x.ls ++ [x.row.val]
structure XOk (x : LaidX) : Prop where
  ok : LaidOk x.so x.sw x.ls
  n : x.row.n = x.data.length + 75
  fine : BFine x.row (roomyL x.data)
  bts : Bts x.data
theorem xW_eq (xs : List LaidX) : xW xs = (xs.flatMap LaidX.lists).map fun v => v.1.val := by
  unfold xW LaidX.lists laidW
  rw [List.map_flatMap]
  simp only [List.map_append, List.map_map, List.map_cons, List.map_nil]
  rfl
set_option maxHeartbeats 4000000 in
theorem laidExts_spec {rs : List ExtR} (hX : ExtsAt w s rs) (hsm : s.n ≤ 1048576 ∧ ∀ r ∈ rs, SmallE 1048576 r) : Calls Tryd.prog 65 #[s.val] w fun e w' => ∃ (se sw : Sl) (xs : List LaidX), e = .returned (.tuple #[se.val, sw.val]) ∧
    (xs.map LaidX.ext).map ExtR.d = rs.map ExtR.d ∧ LaidXAt w' se sw xs ∧ Ext w w' := by
  refine weirlaw13_laidExts_of s.A s.n s.k w _ ?_
  unfold weirlaw13_laidExts_VC
  have hl := hX.len
  refine LoopVC.of (fun st w' => ∃ (i : Nat) (xs : List LaidX), st.2.2 = i ∧ i ≤ s.n ∧ (xs.map LaidX.ext).map ExtR.d = (rs.take i).map ExtR.d ∧ xs.length = i ∧ st.1.2.1 = i ∧ st.2.1.2.1 ≤ i * 1048577 ∧ (∀ x ∈ xs, XOk x) ∧
      Sep (Fct.rest w None :: Fct.own w.heap.size 80 3 (.slice st.1.1 st.1.2.1 st.1.2.2) st.1.2.1 (xM xs) :: Fct.own w.heap.size 26 1 (.slice st.2.1.1 st.2.1.2.1 st.2.1.2.2) st.2.1.2.1 (xW xs) :: xs.flatMap (xF w.heap.size)) w') (fun st _ => ((s.n : Int) - st.2.2).toNat)
    ⟨0, [], rfl, Nat.zero_le _, rfl, rfl, rfl, Nat.zero_le _, (fun x hx => by cases hx), ((Sep.start0 w).nil _ _ _).nil _ _ _⟩ ?_
  rintro ⟨⟨A1, n1, q1⟩, ⟨A2, n2, q2⟩, _⟩ w1 ⟨i, xs, rfl, hi, hd, hxl, hn1, hn2, hf, H⟩
  simp only at hn1 hn2
  show weirlaw13_laidExts_L122 _ s.A s.n A1 n1 q1 A2 n2 q2 (i : Int) w1 _
  unfold weirlaw13_laidExts_L122
  have idx : ∀ {w'} (h : Ext w w') {r : ExtR} (hr : rs[i]? = some r) {F : Addr → Prop}, (∀ a, CellsAt w' a 0 r.v.cells → F a) → IdxVC s.A s.n 3 (i : Int) F := fun {w'} h {r} hr {F} hF =>
    ExtsAt.idxD (S := fun w' => ExtsAt w' s rs) (hX.ext h) (fun w' h => h) hr fun a ha => hF a (ha _ (hX.ext h))
  refine Br.dec (fun hlt => ?_) fun hge => ?_
  · have hri : rs[i]? = some rs[i] := List.getElem?_eq_getElem (by omega)
    have hmem : rs[i] ∈ rs := List.getElem_mem _
    have htake : rs.take (i + 1) = rs.take i ++ [rs[i]] := by rw [List.take_add_one, hri]; rfl
    have hi1 : IntKind.i64.wrap ((i : Int) + 1) = ((i + 1 : Nat) : Int) := by rw [w64 (by omega) (by omega)]; omega
    obtain ⟨b1, b2, b3⟩ := hsm.2 _ hmem
    have hdl := (hX.data _ hmem).len
    refine idx H.start1 hri fun a ha => ⟨_, _, _, c1 ha, ?_⟩
    have hz1 := H.start1.size
    refine (laidOpts_sep (s := rs[i].v.opts) (rs := rs[i].opts) ((hX.opts _ hmem).ext H.start1) ⟨b2, fun r hr => by have := b3 r hr; have := ((hX.opts _ hmem).each r hr).len; omega⟩).mono ?_
    rintro _ w2 ⟨so, sw, ls, rfl, hls, hok, H2⟩
    have H2 := (AllLe.append (AllLe.refl [Fct.rest w1 None]) (laidFs_less hz1)).sep H2
    have H := H.mades H2
    refine ⟨_, _, _, _, _, _, rfl, ?_⟩
    refine idx (H.restOf 0 rfl) hri fun a ha => ⟨_, _, _, c2 ha, ?_⟩
    have hz2 := (H.restOf 0 rfl).size
    refine (roomy_spec (s := rs[i].v.data) (l := rs[i].data) ((hX.data _ hmem).ext (H.restOf 0 rfl)) (by omega)).mono ?_
    rintro _ w3 ⟨R, rfl, hRn, hRf, H3⟩
    have hRk : R.n ≤ R.k := own_le (H3.own 1 rfl)
    have H := H.made (H3.lower 1 rfl hz2)
    refine ⟨_, _, _, rfl, ?_⟩
    have hz3 := (H.restOf 0 rfl).size
    have hswm : (Fct.own w.heap.size 26 1 sw.val sw.n (laidW ls)).φ w3 := H.mem (List.mem_append_left _ (List.mem_append_right _ (show _ ∈ laidFs w.heap.size so sw ls from List.mem_cons_of_mem _ List.mem_cons_self)))
    have hol := hok.len
    have hosm := hok.small
    have holi := hok.lists
    refine AppVC.sep H 2 Tryd.underlying49 tS rfl (by decide) rfl (own_cells (A := sw.A) (c := sw.k) hswm) (by unfold laidW; simp [hol, holi]) (fun v hv => by obtain ⟨x, _, rfl⟩ := List.mem_map.1 hv; rfl) (show (n2 + sw.n) * 24 ≤ 140737488355328 by omega) (by decide) (by omega) fun A3 c3 w4 H hc3 => ?_
    refine NewVC.sep H fun g1 w5 H => ?_
    have H := H.front
    have hz5 := (H.restOf 1 rfl).size
    refine appS (o := R) H 3 rfl (Cells.blk0 (H.blk 0 rfl)) (show n2 + sw.n ≤ 5000000000000 by omega) (by omega) fun A4 c4 w6 H hc4 => ?_
    have H := H.tail
    refine DrawVC.sep H (fun w' => ExtsAt w' s rs) fun w7 H => ⟨hX.ext (H.restOf 0 rfl), ?_⟩
    have hS := hX.ext (H.restOf 0 rfl)
    refine ExtsAt.idxD (S := fun w' => ExtsAt w' s rs) hS (fun w' h => h) hri fun a ha => ⟨_, fun w' h => c0 (ha w' h), ?_⟩
    refine ExtsAt.idxD (S := fun w' => ExtsAt w' s rs) hS (fun w' h => h) hri fun a ha => ⟨_, _, _, fun w' h => c2 (ha w' h), ?_⟩
    refine ⟨by omega, by omega, NewVC.sep H fun g2 w8 H => ?_⟩
    have H := H.front
    have hz8 := (H.restOf 1 rfl).size
    refine ⟨hX.ext (H.restOf 1 rfl), ?_⟩
    have hnat : ((rs[i].v.data.n : Int)).toNat = rs[i].data.length := by omega
    obtain ⟨x, hx⟩ : ∃ x : LaidX, x = ⟨rs[i].v.kind, so, sw, ls, R, rs[i].data⟩ := ⟨_, rfl⟩
    refine appE (o := x.ext.v) H 2 rfl (by have := Cells.blk0 (H.blk 0 rfl); rw [hnat] at this; rw [hx]; exact this) (show n1 ≤ 1000000000 by omega) (by omega) fun A5 c5 w9 H hc5 =>
      ⟨hX.ext (H.restOf 1 rfl), ⟨i + 1, xs ++ [x], hi1, by omega, ?_, by simp [hxl], by show n1 + 1 = i + 1; omega, by show n2 + sw.n + 1 ≤ (i + 1) * 1048577; omega, fun y hy => ?_, ?_⟩, by simp only [hi1]; omega⟩
    · rw [htake, List.map_append, List.map_append, List.map_append, hd, hx]
      simp only [List.map_cons, List.map_nil, ExtR.d, LaidX.ext, hls]
    · rcases List.mem_append.1 hy with hy | hy
      · exact hf y hy
      · simp at hy; subst hy; rw [hx]; exact ⟨hok, hRn, hRf, (hX.data _ hmem).bts⟩
    · have H := H.tail
      have e1 : xM (xs ++ [x]) = xM xs ++ x.ext.v.cells := by unfold xM; simp
      have e2 : xW (xs ++ [x]) = xW xs ++ laidW ls ++ [R.val] := by unfold xW; rw [hx]; simp
      have e3 : (xs ++ [x]).flatMap (xF w.heap.size) = xs.flatMap (xF w.heap.size) ++ laidFs w.heap.size so sw ls ++ [rowB w.heap.size R (roomyL rs[i].data)] := by rw [hx]; simp [xF]
      rw [e1, e2, e3]
      exact H
  · have hin : i = s.n := by omega
    have htk : rs.take i = rs := List.take_of_length_le (by omega)
    rw [htk] at hd
    refine LoopVC.of (fun st w' => ∃ j : Nat, st.2 = j ∧ j ≤ 20 ∧ st.1.2.1 = n1 + j ∧ Sep (Fct.rest w None :: Fct.own w.heap.size 80 3 (.slice st.1.1 st.1.2.1 st.1.2.2) st.1.2.1 (xM xs ++ (List.replicate j markE.cells).flatten) :: Fct.own w.heap.size 26 1 (.slice A2 n2 q2) n2 (xW xs) :: xs.flatMap (xF w.heap.size)) w') (fun st _ => ((20 : Int) - st.2).toNat)
      ⟨0, rfl, Nat.zero_le _, rfl, by simpa using H⟩ ?_
    rintro ⟨⟨A5, n5, q5⟩, _⟩ w8 ⟨j, rfl, hj, hn5, H⟩
    simp only at hn5
    show weirlaw13_laidExts_L250 _ s.n A2 n2 q2 A5 n5 q5 (j : Int) w8 _
    unfold weirlaw13_laidExts_L250
    refine Br.dec (fun hlt => ?_) fun hge2 => ?_
    · refine NewVC.sep H fun g3 w9 H => ?_
      have H := H.front
      have hz9 := (H.restOf 1 rfl).size
      have hj1 : IntKind.i64.wrap ((j : Int) + 1) = ((j + 1 : Nat) : Int) := by rw [w64 (by omega) (by omega)]; omega
      refine appE (o := markE) H 2 rfl (Cells.blk0 (H.blk 0 rfl)) (show n5 ≤ 1000000000 by omega) (by omega) fun A6 c6 w10 H hc6 => ⟨⟨j + 1, hj1, by omega, by show n5 + 1 = _; omega, ?_⟩, by simp only [hj1]; omega⟩
      have H := H.tail
      rw [List.replicate_succ', List.flatten_append, ← List.append_assoc]
      simp only [List.flatten_cons, List.flatten_nil, List.append_nil]
      exact H
    · have hj20 : j = 20 := by omega
      subst hj20
      have hk5 : n5 ≤ q5 := own_le (s := ⟨A5, n5, q5⟩) (H.own 1 rfl)
      refine ⟨by omega, by omega, ?_⟩
      rw [Int.toNat_natCast]
      have hall : Recs w8 A5 3 ((xs.map fun x => x.ext.v.cells) ++ List.replicate 20 markE.cells) := by
        refine Recs.of_cells (by decide) (fun r hr => ?_) ?_
        · rcases List.mem_append.1 hr with hr | hr
          · obtain ⟨x, _, rfl⟩ := List.mem_map.1 hr; rfl
          · rw [(List.mem_replicate.1 hr).2]; rfl
        · rw [List.flatten_append]; exact H.cells 1 rfl
      have hxm : ∀ x ∈ xs, ∀ f ∈ xF w.heap.size x, f.φ w8 := fun x hx f hf => H.mem (by
        simp only [List.mem_cons]
        exact .inr (.inr (.inr (List.mem_flatMap.2 ⟨x, hx, hf⟩))))
      have hL : ∀ x ∈ xs, LaidAt w8 x.so x.sw x.ls := fun x hx => laidAt_of (fun f hfm => hxm x hx f (List.mem_append_left _ hfm)) (hf x hx).ok
      have hrow : ∀ x ∈ xs, BytesAt w8 x.row (roomyL x.data) := fun x hx => bytesAt_of (b := w.heap.size) (hxm x hx _ (List.mem_append_right _ (by simp))) (hf x hx).fine
      have hWl : (xs.flatMap LaidX.lists).length = n2 := by
        have := (H.own 2 rfl).1
        rw [xW_eq, List.length_map] at this; omega
      refine ⟨⟨A5, s.n, q5⟩, ⟨A2, n2, q2⟩, xs, rfl, hd, ⟨⟨by show (xs.map LaidX.ext).length = s.n; rw [List.length_map]; omega, by show s.n ≤ q5; omega, by show s.n ≤ 4000000; omega, ?_, fun r hr => ?_, fun r hr => ?_⟩, by show s.n + 20 ≤ q5; omega, hall, ⟨hWl, by show n2 ≤ 5000000000000; omega, ?_, fun v hv => ?_⟩, hL⟩, H.start1⟩
      · intro k cs hkk
        refine hall k cs ?_
        have hk' : k < xs.length := by have := (List.getElem?_eq_some_iff.1 hkk).1; simpa using this
        rw [List.getElem?_append_left (by simpa using hk')]
        rw [List.map_map] at hkk; exact hkk
      · obtain ⟨x, hx, rfl⟩ := List.mem_map.1 hr
        exact (hL x hx).opts
      · obtain ⟨x, hx, rfl⟩ := List.mem_map.1 hr
        have hB := hrow x hx
        have hxf := hf x hx
        refine ⟨rfl, by show x.data.length ≤ x.row.k; have := hB.cap; have := hxf.n; omega, by show x.data.length ≤ 4000000; have := hB.small; have := hxf.n; omega, hxf.bts, ?_⟩
        have := hB.cells.take x.data.length
        rw [← List.map_take] at this
        have e : (roomyL x.data).take x.data.length = x.data := by unfold roomyL; rw [List.take_left' rfl]
        rw [e] at this
        exact this
      · rw [← xW_eq]
        exact H.cells 2 rfl
      · obtain ⟨x, hx, hv⟩ := List.mem_flatMap.1 hv
        rcases List.mem_append.1 hv with hv | hv
        · obtain ⟨l, hl, rfl⟩ := List.mem_map.1 hv
          exact (hL x hx).lists.each _ (List.mem_map.2 ⟨l, hl, rfl⟩)
        · simp at hv; subst hv; exact hrow x hx
end
end N6
end Go.Proofs.YteppichfkeknbaaDoor
/- SplitSix: what Split6 and Fits6 answer is the document's, and what was handed in stands. -/
namespace Go.Proofs.YteppichfkeknbaaDoor
namespace N6
open Go.Eng Go.RowKit
section
variable {w : World}
def roomD (d : ExtD) : List (List Int) := d.opts.map (fun o => roomyL o.data) ++ [roomyL d.data]
theorem lists_snd (xs : List LaidX) : (xs.flatMap LaidX.lists).map Prod.snd = ((xs.map LaidX.ext).map ExtR.d).flatMap roomD := by
  rw [List.map_flatMap, List.map_map, List.flatMap_map]
  congr 1
  funext x
  simp [LaidX.lists, roomD, LaidX.ext, ExtR.d, LaidR.opt, OptR.d, List.map_map, Function.comp_def]
set_option maxHeartbeats 2000000 in
theorem cuts6_spec {h : Ip6V} {es : List ExtR} {data : List Int} {mtu id : Int} (hA : Ip6At w h es data) (hb : Small6 1048576 h es) (hK : Kn w) : Calls Tryd.prog 31 #[h.val, .int .i64 mtu, .int .i64 id] w fun e w' => Ext w w' ∧ e = .returned (.bool true) := by
  refine weirlaw13_cuts6_of h mtu id w _ ?_
  unfold weirlaw13_cuts6_VC
  have hdl := hA.data.len
  have hb1 := hb.1
  have hsmall : h.exts.n ≤ 1048576 ∧ ∀ r ∈ es, SmallE 1048576 r := hb.2
  refine NewVC.sep (Sep.start0 w) fun g1 w1 H => ⟨_, _, _, H.cell 1 rfl 43 rfl, ?_⟩
  refine (roomy_spec (s := h.data) (l := data) (hA.data.ext (H.restOf 0 rfl)) (by omega)).mono ?_
  rintro _ w2 ⟨R, rfl, hRn, hRf, H2⟩
  have H := H.ext (H2.restOf 0 rfl)
  have hRB : BytesAt w2 R (roomyL data) := bytesAt_of (b := w1.heap.size) (H2.own 1 rfl) hRf
  refine ⟨_, _, _, rfl, _, _, _, H.cell 1 rfl 37 rfl, ?_⟩
  refine (laidExts_spec (s := h.exts) (rs := es) (hA.exts.ext (H.restOf 0 rfl)) hsmall).mono ?_
  rintro _ w3 ⟨so, sw, ls, rfl, hls, hL, hE3⟩
  have H := H.ext hE3
  have hRB := hRB.ext hE3
  have hE03 := H.restOf 0 rfl
  have hg1 := H.blk 1 rfl
  refine ⟨_, _, _, _, _, _, rfl, Ip6V.of h ⟨H.at 1 rfl, NewVC.sep (Sep.start0 w3) fun g2 w4 H => ?_⟩⟩
  refine Stores.sep H 1 rfl (Ip6V.one _) (Nat.le_refl _) (splice_all rfl) fun w5 H => ⟨_, _, _, (hg1.ext (H.restOf 0 rfl)).cell 43, ?_⟩
  have hcap := hRB.cap
  refine ⟨by omega, by omega, SetVC.sep H 1 rfl (show 43 < 44 by decide) fun w6 H => SetVC.sep H 1 rfl (show 37 < 44 by decide) fun w7 H => ?_⟩
  obtain ⟨g, hg⟩ : ∃ g : Ip6V, g = { h with data := ⟨R.A, h.data.n, R.k⟩, exts := so } := ⟨_, rfl⟩
  have H : Sep [Fct.rest w3 None, Fct.blk g2 44 g.cells] w7 := by rw [hg]; exact H
  have hE7 := H.restOf 0 rfl
  have hcut : BytesAt w3 ⟨R.A, h.data.n, R.k⟩ data := by
    refine ⟨hdl, by show h.data.n ≤ R.k; omega, by show h.data.n ≤ 4000000; omega, hA.data.bts, ?_⟩
    have := hRB.cells.take data.length
    rw [← List.map_take] at this
    have e : (roomyL data).take data.length = data := by unfold roomyL; rw [List.take_left' rfl]
    rw [e] at this
    exact this
  have hgA : Ip6At w3 g (ls.map LaidX.ext) data := by
    rw [hg]; exact ⟨hL.exts, hcut, hA.src, hA.dst⟩
  have hgd : g.d (ls.map LaidX.ext) data = h.d es data := by
    rw [ip6_key, hg]
    exact ⟨rfl, rfl, rfl, rfl, rfl, hls, rfl, rfl, rfl⟩
  have hA3 := hA.ext hE03
  refine Ip6V.of g ⟨H.at 1 rfl, ?_⟩
  refine (split6_spec (mtu := mtu) (id := id) (hgA.ext hE7) (hK.ext (hE03.trans hE7))).mono ?_
  intro e w8 hc
  obtain ⟨s1, r1, rfl, hr1, hat1, hF8⟩ := hc.at
  rw [hgd] at hr1 ⊢
  have H := H.ext hF8
  have hE8 := H.restOf 0 rfl
  refine ⟨_, _, _, _, rfl, Ip6V.of h ⟨CellsAt.blk (hg1.ext hE8), ?_⟩⟩
  refine (refSplit6_spec (mtu := mtu) (id := id) (hA3.ext hE8)).mono ?_
  intro e w9 hc
  obtain ⟨s2, r2, rfl, hr2, hat2, hF9⟩ := hc.at
  have hat1 := hat1.ext hF9
  have H := H.ext hF9
  refine ⟨_, _, _, _, rfl, Ip6V.of g ⟨H.at 1 rfl, ?_⟩⟩
  refine (fits6_spec (mtu := mtu) (hgA.ext (H.restOf 0 rfl)) (hK.ext (hE03.trans (H.restOf 0 rfl)))).mono ?_
  rintro _ w10 ⟨hF10, rfl⟩
  have hat1 := hat1.ext hF10
  have hat2 := hat2.ext hF10
  have H := H.ext hF10
  rw [hgd]
  refine ⟨_, rfl, ?_⟩
  refine num_spec.mono ?_
  rintro _ w11 ⟨hw11, rfl⟩
  subst w11
  refine ⟨_, rfl, Br.no (fun x => x rfl) ?_⟩
  refine (sames6_spec (s := s1) (t := s2) hat1 hat2).mono ?_
  rintro _ w12 ⟨x, rfl, hx, hF12⟩
  have hxt := hx.2 (hr1.trans hr2.symm)
  subst hxt
  have H := H.ext hF12
  refine ⟨_, rfl, Br.f rfl (Ip6V.of h ⟨CellsAt.blk (hg1.ext (H.restOf 0 rfl)), ?_⟩)⟩
  refine (refFits6_spec (mtu := mtu) (hA3.ext (H.restOf 0 rfl))).mono ?_
  rintro _ w13 ⟨hF13, rfl⟩
  have H := H.ext hF13
  refine ⟨_, rfl, bne_br (fun x => absurd rfl x) fun _ => ⟨_, _, _, (hg1.ext (H.restOf 0 rfl)).cell 37, ?_⟩⟩
  refine (laidExts_spec (s := h.exts) (rs := es) (hA3.exts.ext (H.restOf 0 rfl)) hsmall).mono ?_
  rintro _ w14 ⟨so2, sw2, ls2, rfl, hls2, hL2, hF14⟩
  have H := H.ext hF14
  have hE14 := H.restOf 0 rfl
  have hson := hL.exts.len
  have hsos := hL.exts.small
  have hsor := hL.room
  have hll : ls.length = so.n := by simpa using hson
  refine ⟨_, _, _, _, _, _, rfl, ?_⟩
  refine LoopVC.of (fun st w' => ∃ i : Nat, st = (i : Int) ∧ i ≤ so.n ∧ Ext w14 w') (fun st _ => ((so.n : Int) - st).toNat) ⟨0, rfl, Nat.zero_le _, Mod.refl _ _⟩ ?_
  rintro _ w15 ⟨i, rfl, hi, hE15⟩
  unfold weirlaw13_cuts6_L32762
  have H := H.ext hE15
  refine Br.dec (fun hlt => ?_) fun hge => ?_
  · have hxi : ls[i]? = some ls[i] := List.getElem?_eq_getElem (by omega)
    refine ExtsAt.idxD (S := fun w' => w' = w15) (s := so) (rs := ls.map LaidX.ext) rfl (fun w' e => by subst e; exact hL.exts.ext (H.restOf 0 rfl)) (r := ls[i].ext) (by rw [List.getElem?_map, hxi]; rfl) fun a ha => ⟨_, _, _, c1 (ha w15 rfl), ?_⟩
    refine (marks_spec ((hL.opts _ (List.getElem_mem _)).ext (H.restOf 0 rfl))).mono ?_
    rintro _ w16 ⟨hE16, rfl⟩
    refine ⟨_, rfl, Br.f rfl ?_⟩
    rw [w64 (by omega) (by omega)]
    exact ⟨⟨i + 1, by omega, by omega, hE15.trans hE16⟩, by omega⟩
  · rw [w64 (by omega) (by omega)]
    refine ⟨by omega, by omega, ?_⟩
    rw [show ((so.n : Int) + 20).toNat = so.n + 20 by omega]
    refine LoopVC.of (fun st w' => w' = w15 ∧ ∃ j : Nat, st = ((so.n + j : Nat) : Int) ∧ j ≤ 20) (fun st _ => ((so.n : Int) + 20 - st).toNat) ⟨rfl, 0, rfl, Nat.zero_le _⟩ ?_
    rintro _ w17 ⟨hw17, j, rfl, hj⟩
    subst w17
    unfold weirlaw13_cuts6_L131066
    refine Br.dec (fun hlt2 => ?_) fun hge2 => ?_
    · refine IdxVC.recD (rs := (ls.map fun x => x.ext.v.cells) ++ List.replicate 20 markE.cells) (cs := markE.cells) (fun w' => w' = w15) rfl (fun w' e => by subst e; exact hL.recs.ext (H.restOf 0 rfl)) (by simp [hll]) ?_ fun a ha => ⟨_, c0 (ha w15 rfl), Br.no (fun h => h rfl) ?_⟩
      · rw [List.getElem?_append_right (by simp [hll]), List.length_map, hll, Nat.add_sub_cancel_left]
        exact List.getElem?_replicate_of_lt (by omega)
      · rw [w64 (by omega) (by omega)]
        exact ⟨⟨rfl, j + 1, by omega, by omega⟩, by omega⟩
    · have hL2 := hL2.ext hE15
      refine Ip6V.of g ⟨H.at 1 rfl, Ip6V.of h ⟨CellsAt.blk (hg1.ext (H.restOf 0 rfl)), ?_⟩⟩
      refine (same6_spec (hgA.ext (H.restOf 0 rfl)) (hA3.ext (H.restOf 0 rfl))).mono ?_
      rintro _ w18 ⟨x, rfl, hx, hF18⟩
      have hxt := hx.2 hgd
      subst hxt
      have H := H.ext hF18
      have hL2 := hL2.ext hF18
      refine ⟨_, rfl, Br.t rfl ⟨_, _, _, (hg1.ext (H.restOf 0 rfl)).cell 43, ?_⟩⟩
      refine (roomy_spec (s := h.data) (l := data) (hA3.data.ext (H.restOf 0 rfl)) (by omega)).mono ?_
      rintro _ w19 ⟨R2, rfl, hR2n, hR2f, H19⟩
      have hF19 := H19.restOf 0 rfl
      have H := H.ext hF19
      have hL2 := hL2.ext hF19
      have hR2B : BytesAt w19 R2 (roomyL data) := bytesAt_of (b := w18.heap.size) (H19.own 1 rfl) hR2f
      refine ⟨_, _, _, rfl, ?_⟩
      refine (alike7_spec (s := R) (t := R2) (hRB.ext (H.restOf 0 rfl)) hR2B).mono ?_
      rintro _ w20 ⟨hw20, rfl⟩
      subst w20
      rw [decide_eq_true rfl]
      refine ⟨_, rfl, Br.t rfl ?_⟩
      refine (sameAll_spec (a := sw) (b := sw2) ((hL.ext (H.restOf 0 rfl)).lists) hL2.lists (by rw [lists_snd, lists_snd, hls, hls2])).mono ?_
      rintro _ w21 ⟨hF21, rfl⟩
      have H := H.ext hF21
      exact ⟨_, rfl, hE03.trans (H.restOf 0 rfl), rfl⟩
theorem splitSix_law {h : Ip6V} {es : List ExtR} {data : List Int} {mtu id : Int} (hA : Ip6At w h es data) (hb : Small6 1048576 h es) (hK : Kn w) : Calls Tryd.prog 7 #[h.val, .int .i64 mtu, .int .i64 id] w fun e w' => e = .returned (.bool true) ∧ Ext w w' := by
  refine weirlaw13_SplitSix_of h mtu id w _ ?_
  unfold weirlaw13_SplitSix_VC
  refine NewVC.sep (Sep.start0 w) fun g1 w1 H => ?_
  refine (started_spec (hK.ext (H.restOf 0 rfl))).mono ?_
  rintro _ w2 ⟨hE2, rfl⟩
  have H := H.ext hE2
  refine ⟨_, rfl, Br.t rfl (Ip6V.of h ⟨H.at 1 rfl, ?_⟩)⟩
  refine (cuts6_spec (mtu := mtu) (id := id) (hA.ext (H.restOf 0 rfl)) hb (hK.ext (H.restOf 0 rfl))).mono ?_
  rintro _ w3 ⟨hE3, rfl⟩
  exact ⟨_, rfl, rfl, (H.restOf 0 rfl).trans hE3⟩
end
end N6
end Go.Proofs.YteppichfkeknbaaDoor
