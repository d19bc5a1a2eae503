/- What Fields, Pack and Done hand out lies untouched, and each holds its own: the law. -/
import Derived.Test.YtdchpilghgnnoaaLent4
namespace Go.Proofs.Ytdchpilghgnnoaa
open Go.Eng Go.RowKit

/-- Lists of lists as they stand after i turns. -/
structure Kept (p q : Nat) (rows : Nat → List RowL) : Prop where
  h0 : (rows 0).length = p
  h2 : (rows 2).length = q
  t0 : (rows 0).map RowL.Z = (rows 1).map RowL.Z
  t2 : (rows 2).map RowL.Z = (rows 3).map RowL.Z
  full : ∀ r ∈ rows 0, r.c = r.n
  bts : ∀ r ∈ rows 0, Bts r.Z
  l0 : ∀ r ∈ rows 0, r.n ≤ 256
  l2 : ∀ r ∈ rows 2, r.n ≤ 64
theorem Kept.h1 {p q : Nat} {rows : Nat → List RowL} (h : Kept p q rows) : (rows 1).length = p := by have := congrArg List.length h.t0; simp at this; rw [← this]; exact h.h0
theorem Kept.h3 {p q : Nat} {rows : Nat → List RowL} (h : Kept p q rows) : (rows 3).length = q := by have := congrArg List.length h.t2; simp at this; rw [← this]; exact h.h2
theorem Kept.nil : Kept 0 0 (fun _ => []) := ⟨rfl, rfl, rfl, rfl, by simp, by simp, by simp, by simp⟩
theorem Kept.asked {p q : Nat} {rows rows' : Nat → List RowL} {w w' : World} {base g : Nat} {o o' : Marks} {T T' : Nat → Option Addr × Nat × Nat} {r0 r1 r2 r3 : RowL} (h : Kept p q rows) (a : Asked w w' base o o' g T T' rows rows' r0 r1 r2 r3) : Kept (p + 1) (q + 1) rows' := by
  refine ⟨by rw [a.e0]; simp [h.h0], by rw [a.e2]; simp [h.h2], by rw [a.e0, a.e1]; simp [h.t0, a.t0], by rw [a.e2, a.e3]; simp [h.t2, a.t2], ?_, ?_, ?_, ?_⟩
  · rw [a.e0]; intro r hr; rcases List.mem_append.1 hr with e | e
    · exact h.full r e
    · simp at e; subst e; exact a.full
  · rw [a.e0]; intro r hr; rcases List.mem_append.1 hr with e | e
    · exact h.bts r e
    · simp at e; subst e; exact a.bts
  · rw [a.e0]; intro r hr; rcases List.mem_append.1 hr with e | e
    · exact h.l0 r e
    · simp at e; subst e; exact a.l0
  · rw [a.e2]; intro r hr; rcases List.mem_append.1 hr with e | e
    · exact h.l2 r e
    · simp at e; subst e; exact a.l2
theorem RowsAt.mod {M : Nat → Prop} {w w' : World} {base : Nat} {PA : Option Addr} {rows : List RowV} {Ls : Nat → List Int} (h : RowsAt w base PA rows Ls) (hm : Mod M w w') (h1 : ∀ k, RF rows k → ¬ M k) (h2 : ∀ a, PA = some a → ¬ M a.block) : RowsAt w' base PA rows Ls :=
  ⟨fun i hi => own_mod (h.own i hi) hm fun k hk => h1 k ⟨_, List.getElem_mem hi, hk.symm⟩, h.dis, h.cells.mod hm fun a ha _ => h2 a ha, h.apart⟩
theorem MoreAt.mod {M : Nat → Prop} {w w' : World} {b1 m mc : Nat} {MA : Option Addr} {rows : List RowV} {ms : List (Option Addr × Nat × Nat)} (h : MoreAt w b1 rows MA mc m ms) (hm : Mod M w w') (h1 : ∀ k, M k → k < b1) : MoreAt w' b1 rows MA mc m ms :=
  ⟨h.len, own_mod h.own hm fun k hk e => by have := own_new h.own k hk; have := h1 k e; omega,
    fun i hi => own_mod (h.each i hi) hm fun k hk e => by have := own_new (h.each i hi) k hk; have := h1 k e; omega, h.ne⟩
theorem lent_cell0 {w : World} {g : Nat} {T : Nat → Option Addr × Nat × Nat} (h : Blk w g 87 (LC T)) : w.cell? ⟨g, 0, none⟩ = some (.slice (T 0).1 (T 0).2.1 (T 0).2.2) := by rw [h.cell]; rfl
/-- The first of the four, as filled takes it. -/
theorem lent_rows {w : World} {base : Nat} {o : Marks} {T : Option Addr × Nat × Nat} {rows : List RowL} (h : LolAt w base o 0 T rows) (hf : ∀ r ∈ rows, r.c = r.n) :
    RowsAt w base T.1 (rows.map fun r => (⟨r.A, r.n⟩ : RowV)) (fun i => (rows.map RowL.Z).getD i []) ∧ (∀ k, RF (rows.map fun r => (⟨r.A, r.n⟩ : RowV)) k → (base ≤ k ∧ k < w.heap.size) ∧ ∃ i, o k = (0, i + 1)) ∧
      (∀ a, T.1 = some a → rows ≠ [] → o a.block = (0, 0)) := by
  have hv : ∀ r ∈ rows, (⟨r.A, r.n⟩ : RowV).val = r.val := fun r hr => by unfold RowV.val RowL.val; rw [hf r hr]
  have hRF : ∀ k, RF (rows.map fun r => (⟨r.A, r.n⟩ : RowV)) k → (base ≤ k ∧ k < w.heap.size) ∧ ∃ i, o k = (0, i + 1) := fun k hk => by
    obtain ⟨x, hx, hk⟩ := hk
    obtain ⟨r, hr, rfl⟩ := List.mem_map.1 hx
    obtain ⟨i, hi, rfl⟩ := List.getElem_of_mem hr
    rw [hv _ hr] at hk
    exact ⟨(h.each i hi).lt k hk.symm, i, h.eid i hi k hk.symm⟩
  have hA : ∀ a, T.1 = some a → rows ≠ [] → o a.block = (0, 0) := fun a ha hne => h.oid _ (by unfold sv; rw [ha]; rfl)
  refine ⟨⟨fun i hi => ?_, fun i j hi hj hij k hk hk' => ?_, ?_, fun a ha k hk e => ?_⟩, hRF, hA⟩
  · have hi' : i < rows.length := by simpa using hi
    have : w.ownsRow base 5 1 rows[i].val rows[i].n (rows[i].Z.map (.int .u8)) := h.each i hi'
    simp only [List.getElem_map]
    rw [hv _ (List.getElem_mem hi')]
    simpa [hi'] using this
  · have hi' : i < rows.length := by simpa using hi
    have hj' : j < rows.length := by simpa using hj
    simp only [List.getElem_map] at hk hk'
    rw [hv _ (List.getElem_mem hi')] at hk
    rw [hv _ (List.getElem_mem hj')] at hk'
    have h1 := h.eid i hi' k hk.symm
    rw [h.eid j hj' k hk'.symm] at h1
    simp at h1
    exact hij h1.symm
  · have e : (rows.map fun r => (⟨r.A, r.n⟩ : RowV)).map RowV.val = rows.map RowL.val := by
      rw [List.map_map]; exact List.map_congr_left fun r hr => hv r hr
    rw [e]; exact own_cells h.own
  · obtain ⟨-, i, hi⟩ := hRF k hk
    have hne : rows ≠ [] := by
      rintro rfl
      obtain ⟨x, hx, _⟩ := hk
      simp at hx
    have h2 := hA a ha hne
    rw [e, h2] at hi
    simp at hi

section
variable {w0 w : World} {A B W V U X : Option Addr} {n c m d l f b e p q r s : Nat} {as_ bs ws vs us xs : List Int}
/-- The arguments, as they stand. -/
structure Given (w : World) (A : Option Addr) (n c : Nat) (as_ : List Int) (W : Option Addr) (m : Nat) (ws : List Int) (V : Option Addr) (l : Nat) (vs : List Int) : Prop where
  ha : Cells w A (as_.map (.int .u8))
  la : as_.length = n
  ba : Bts as_
  ca : n ≤ c
  na : n ≤ 1048576
  hw : Cells w W (ws.map (.int .i64))
  lw : ws.length = m
  hv : Cells w V (vs.map (.int .i64))
  lv : vs.length = l
theorem Given.ext {w' : World} (h : Given w A n c as_ W m ws V l vs) (hE : Ext w w') : Given w' A n c as_ W m ws V l vs :=
  { h with ha := h.ha.ext hE, hw := h.hw.ext hE, hv := h.hv.ext hE }
theorem Given.asked {g base P Q : Nat} {o : Marks} {T : Nat → Option Addr × Nat × Nat} {rows : Nat → List RowL} (h : Given w A n c as_ W m ws V l vs) (C : Core w base o g T rows) (k : Kept P Q rows) (hp : P ≤ 100) (hq : Q ≤ 100) :
    Calls Try.prog 43 #[.pointer (some ⟨g, 0, none⟩), .slice A n c, .slice W m d, .slice V l f] w fun e w' => e = .returned (.bool true) ∧ ∃ o' T' rows' r0 r1 r2 r3, Asked w w' base o o' g T T' rows rows' r0 r1 r2 r3 :=
  asked_spec C k.h0 k.h1 k.h2 k.h3 hp hq h.ha h.la h.ba h.ca h.na h.hw h.lw h.hv h.lv

variable {R : Ending → World → Prop} {g gb bc : Nat} {BA : Option Addr}
set_option maxHeartbeats 2000000 in
/-- Behind the lists that were lengthened: the two asked again, and all looked at. -/
theorem lent_last {T : Nat → Option Addr × Nat × Nat} {rows : List RowL} {es : List (Option Addr × Nat × Nat)} {LA MA : Option Addr} {lc mc b1 base bb : Nat} {rv : List RowV} {ms : List (Option Addr × Nat × Nat)} {K : (Option Addr × Nat × Nat) × Int → World → Prop}
    (hE : Ext w0 w) (G1 : Given w A n c as_ W m ws V l vs) (G2 : Given w B b e bs U p us X q xs) (hbd : Bd w bb gb BA bc 2 [2, 3] 65535)
    (h : LongAt w g T rows LA es) (hq : rows.length ≤ 100) (hz : ∀ r ∈ rows, r.n ≤ 1000) (hMk : Marked w base (T 0).1 rv) (hMo : MoreAt w b1 rv MA mc 12 ms) (hr : rv.length = 12) (hn : ∀ r ∈ rv, r.n ≤ 1048700) (hT : (T 0).2.1 = 12)
    (hR : ∀ w', Ext w0 w' → R (.returned (.bool true)) w') :
    weirlaw1_ViewLent_L16378 R A n c B b e W m d V l f U p r X q s (some ⟨gb, 0, none⟩) g MA 36 mc LA rows.length lc (rows.length : Int) w K := by
  unfold weirlaw1_ViewLent_L16378
  refine ⟨_, rfl, _, _, _, lent_cell h.blk, Br.no (by have := h.tlen; omega) ?_⟩
  refine NewVC.blk fun g8 w37 hg8 hz37 hE37 hb37 => ?_
  let o : Marks := fun k => if k = g8 then (4, 0) else (5, 0)
  have C37 : Core w37 g8 o g8 (fun _ => (none, 0, 0)) (fun _ => []) := ⟨hb37, if_pos rfl, Nat.le_refl _, fun f _ => ⟨rfl, World.ownsRow_nil _ _ _ _, fun k hk => by simp [sv, Value.ownBlock] at hk, fun i hi => by simp at hi, fun i hi => by simp at hi⟩⟩
  refine JoinVC.of (fun s w' => s = true ∧ Ext w w' ∧ ∃ o' T' rows', Core w' g8 o' g8 T' rows' ∧ Kept 2 2 rows') ?_ ?_
  · refine ((G1.ext hE37).asked C37 Kept.nil (by decide) (by decide)).mono ?_
    rintro _ w38 ⟨rfl, o1, T1, r1, x0, x1, x2, x3, a1⟩
    refine ⟨_, rfl, Br.t rfl ?_⟩
    have hE38 : Ext w w38 := hE37.trans' a1.mod fun k hk e => by have := e.1; omega
    have K1 := Kept.nil.asked a1
    refine ((G2.ext hE38).asked a1.core K1 (by decide) (by decide)).mono ?_
    rintro _ w39 ⟨rfl, o2, T2, r2, y0, y1, y2, y3, a2⟩
    exact ⟨_, rfl, rfl, hE38.trans' a2.mod fun k hk e => by have := e.1; omega, o2, T2, r2, a2.core, K1.asked a2⟩
  rintro ok w40 ⟨rfl, hE40, o3, T3, r3, C40, K3⟩
  unfold weirlaw1_ViewLent_J8191
  refine Br.f rfl ?_
  refine (as_spec C40 K3.h0 K3.h2 (by decide) (by decide) K3.t0 K3.t2 K3.bts (fun r hr => by have := K3.l2 r hr; omega)).mono ?_
  rintro _ w41 ⟨hE41, rfl⟩
  refine ⟨_, rfl, Br.f rfl ?_⟩
  refine (bdDone_spec (hbd.ext (hE40.ext hE41))).mono ?_
  rintro _ w42 ⟨hE42, gd, hgd, rfl, hbd42⟩
  refine ⟨_, _, _, rfl, ?_⟩
  refine NewVC.blk fun g9 w43 hg9 hz43 hE43 hb43 => ?_
  have hB23 : Bts [2, 3] := by intro x hx; simp at hx; omega
  refine (same_spec (xs := [2, 3]) (ys := [2, 3]) (by simpa using Cells.of_blk (hbd42.ext hE43) 0) (by simpa using Cells.of_blk hb43 0) rfl rfl hB23 hB23).mono ?_
  rintro _ w44 ⟨rfl, rfl⟩
  refine ⟨_, rfl, Br.f (by simp) ?_⟩
  have hE43' : Ext w w43 := ((hE40.ext hE41).ext hE42).ext hE43
  refine ⟨_, rfl, _, _, _, lent_cell0 (h.ext hE43').blk, ?_⟩
  rw [hT]
  refine (stand_spec (m := 12) (RowsAt.ext hMk hE43') (hMo.ext hE43') hr (by decide) hn).mono ?_
  rintro _ w45 ⟨rfl, rfl⟩
  refine ⟨_, rfl, Br.f rfl ?_⟩
  exact lent_look (h.ext hE43') hq hz fun w' hE' => hR w' ((hE.ext hE43').ext hE')

set_option maxHeartbeats 2000000 in
/-- When all is there. -/
theorem lent_tail {o : Marks} {T : Nat → Option Addr × Nat × Nat} {rows : Nat → List RowL} {g2 bb : Nat} {K : Int → World → Prop}
    (C : Core w g o g T rows) (k : Kept 12 6 rows) (hE : Ext w0 w) (hg : w0.heap.size ≤ g) (G1 : Given w0 A n c as_ W m ws V l vs) (G2 : Given w0 B b e bs U p us X q xs) (hbd : Bd w bb gb BA bc 2 [2, 3] 65535) (hlt : ∀ i, BF gb BA bc 2 i → i < g)
    (hR : ∀ w', Ext w0 w' → R (.returned (.bool true)) w') :
    weirlaw1_ViewLent_L506 R A n c B b e W m d V l f U p r X q s (some ⟨gb, 0, none⟩) g g2 6 w K := by
  unfold weirlaw1_ViewLent_L506
  refine Br.no (by decide) ?_
  refine (as_spec C k.h0 k.h2 (by decide) (by decide) k.t0 k.t2 k.bts (fun r hr => by have := k.l2 r hr; omega)).mono ?_
  rintro _ w26 ⟨hE26, rfl⟩
  have C26 := C.ext hE26
  refine ⟨_, rfl, Br.f rfl ⟨_, rfl, _, _, _, C26.cell (f := 0) (by decide), ?_⟩⟩
  have hT0 : (T 0).2.1 = 12 := by rw [(C.lol 0 (by decide)).len, k.h0]
  obtain ⟨hRw, hRF, hRA⟩ := lent_rows (C26.lol 0 (by decide)) k.full
  have hrn : ∀ x ∈ (rows 0).map fun r => (⟨r.A, r.n⟩ : RowV), x.n ≤ 1048700 := fun x hx => by
    obtain ⟨y, hy, rfl⟩ := List.mem_map.1 hx
    have := k.l0 y hy
    simp only; omega
  rw [hT0]
  refine (filled_spec (m := 12) hRw (by simp [k.h0]) (by decide) hrn).mono ?_
  rintro _ w27 ⟨wA, MA, mc, ms, rfl, hmA, hzA, hEA, hMk, hMo⟩
  refine ⟨_, _, _, rfl, ?_⟩
  have s26 := hE26.size
  have hgo := C.gid
  have hb27 := (C26.blk.mod hmA fun e => by obtain ⟨-, i, hi⟩ := hRF _ e; rw [hgo] at hi; simp at hi).ext hEA
  have hl27 := ((C26.lol 2 (by decide)).mod hmA fun i hi e => by
    obtain ⟨-, j, hj⟩ := hRF _ e
    have := (C26.lol 2 (by decide)).mark hi
    rw [hj] at this
    simp at this).ext hEA
  refine lent_fill hb27 hgo hl27 (by rw [k.h2]; decide) (fun r hr => by have := k.l2 r hr; omega) fun w28 r2 hM28 hb28 hl28 hs28 hI28 => ?_
  have hlen2 : r2.length = 6 := by rw [len_val hs28, k.h2]
  have hz2 : ∀ r ∈ r2, r.n ≤ 1000 := fun r hr => by
    have hm := List.mem_map_of_mem (f := RowL.val) hr
    rw [hs28] at hm
    obtain ⟨y, hy, hyv⟩ := List.mem_map.1 hm
    unfold RowL.val at hyv
    injection hyv with _ hn _
    have := k.l2 y hy
    omega
  have s27 := hEA.size
  have s28 := hM28.size
  refine lent_long hb28 hgo hl28 (by have := C26.bnd; omega) (by omega) hz2 hI28 fun w' LA lc es K' hM' hL => ?_
  have hIF : ∀ i, IF r2 i → IF (rows 2) i := fun i hi => by unfold IF at hi ⊢; rw [hs28] at hi; exact hi
  have hM : Mod (IF (rows 2)) w27 w' := hM28.trans' hM' fun i _ e => hIF i e
  have hI2 : ∀ i, IF (rows 2) i → (g ≤ i ∧ i < w26.heap.size) ∧ ∃ j, o i = (2, j + 1) := fun i hi => by
    obtain ⟨j, hj, hk⟩ := hi.at
    exact ⟨((C26.lol 2 (by decide)).each j hj).lt i hk, j, (C26.lol 2 (by decide)).eid j hj i hk⟩
  have hE27 : Ext w0 w27 := ((hE.ext hE26).trans' hmA fun i hi e => by have := (hRF i e).1; omega).ext hEA
  have hEw : Ext w0 w' := hE27.trans' hM fun i hi e => by have := (hI2 i e).1; omega
  have hbd' := (((hbd.ext hE26).mod hmA fun i hi e => by have := (hRF i e).1; have := hlt i hi; omega).ext hEA).mod hM fun i hi e => by have := (hI2 i e).1; have := hlt i hi; omega
  have hMk' : Marked w' g (T 0).1 ((rows 0).map fun r => (⟨r.A, r.n⟩ : RowV)) := RowsAt.mod hMk hM (fun i hi e => by
    obtain ⟨-, j, hj⟩ := hRF i hi
    obtain ⟨-, j', hj'⟩ := hI2 i e
    rw [hj] at hj'
    simp at hj') (fun a ha e => by
    have h1 := hRA a ha (by intro e0; have := k.h0; rw [e0] at this; simp at this)
    obtain ⟨-, j', hj'⟩ := hI2 _ e
    rw [h1] at hj'
    simp at hj')
  have hMo' := hMo.mod hM fun i hi => (hI2 i hi).1.2
  exact lent_last hEw (G1.ext hEw) (G2.ext hEw) hbd' hL (by omega) hz2 hMk' hMo' (by simp [k.h0]) hrn hT0 hR

set_option maxHeartbeats 2000000 in
/-- One turn, behind the question: what Done answers is kept. -/
theorem lent_turn {o : Marks} {T : Nat → Option Addr × Nat × Nat} {rows : Nat → List RowL} {bb P Q : Nat} {i : Int} {K : Int → World → Prop} {base : Nat}
    (C : Core w base o g T rows) (k : Kept P Q rows) (hP : P ≤ 100) (hbd : Bd w bb gb BA bc 2 [2, 3] 65535) (hi : 0 ≤ i ∧ i < 6)
    (hK : ∀ w' o' T' rows', Core w' base o' g T' rows' → Kept (P + 1) Q rows' → (∀ j, j < w.heap.size → o' j = o j) → Mod (CF base o) w w' → K (i + 1) w') :
    weirlaw1_ViewLent_J16201 R (some ⟨gb, 0, none⟩) g i K true w := by
  unfold weirlaw1_ViewLent_J16201
  refine Br.f rfl ?_
  refine DrawVC.of (fun w' => w'.cell? ⟨g, 0, none⟩ = some (sv (T 0))) fun w17 hE17 _ => ⟨(C.ext hE17).cell (f := 0) (by decide), ⟨_, rfl, _, _, _, fun w' h => h, ?_⟩⟩
  refine (bdDone_spec (hbd.ext hE17)).mono ?_
  rintro _ w18 ⟨hE18, gd, hgd, rfl, hbd18⟩
  have hE018 := hE17.ext hE18
  refine ⟨_, _, _, rfl, (C.ext hE018).cell (f := 0) (by decide), ?_⟩
  refine NewVC.blk fun g3 w19 hg3 hz19 hE19 hb19 => ?_
  have s17 := hE17.size
  have s18 := hE18.size
  have hb0 := C.bnd
  let o5 : Marks := fun j => if j < w17.heap.size then o j else (0, P + 1)
  have C19 : Core w19 base o5 g T rows := ((C.ext hE17).re (o' := o5) fun j hj => if_pos hj).ext (hE18.ext hE19)
  refine ⟨C19.cell (f := 0) (by decide), ?_⟩
  let r0 : RowL := ⟨some ⟨gd, 0, none⟩, 2, 2, [2, 3]⟩
  refine Core.app (f := 0) (r := r0) (by decide) C19 (own_of_blk (n := 2) (c := 2) (hbd18.ext hE19) (by omega) rfl (Nat.le_refl _) (by decide)) (fun j hj => by
    have ej : j = gd := by simp [r0, RowL.val, Value.ownBlock] at hj; omega
    show (if _ then _ else _) = _
    rw [if_neg (by omega), k.h0]) (by simpa [r0, RowL.val] using Cells.of_blk hb19 0) (by rw [k.h0]; omega) fun A2 c2 w20 o6 hm20 ho20 hcell hset => ⟨hcell, _, rfl, ?_⟩
  refine hset _ fun w21 hm21 C21 => ?_
  refine ⟨_, rfl, _, _, _, C21.cell (f := 1) (by decide), ?_⟩
  refine NewVC.blk fun g4 w22 hg4 hz22 hE22 hb22 => ?_
  let o7 : Marks := fun j => if j < w21.heap.size then o6 j else (1, P + 1)
  have C22 := (C21.re (o' := o7) fun j hj => if_pos hj).ext hE22
  let r1 : RowL := ⟨some ⟨g4, 0, none⟩, 2, 2, [2, 3]⟩
  have hb21 := C21.bnd
  refine Core.push (f := 1) (r := r1) (by decide) C22 (own_of_blk (n := 2) (c := 2) hb22 (by omega) rfl (Nat.le_refl _) (by decide)) (fun j hj => by
    have ej : j = g4 := by simp [r1, RowL.val, Value.ownBlock] at hj; omega
    show (if _ then _ else _) = (1, (rows 1).length + 1)
    rw [if_neg (by omega), k.h1]) (by show (rows 1).length ≤ _; rw [k.h1]; omega) fun w25 o8 A8 c8 C25 ho25 hm25 => ?_
  rw [w64 (n := i + 1) (by omega) (by omega)]
  have s19 := hE19.size
  have s20 := hm20.size
  have s21 := hm21.size
  have s22 := hE22.size
  have a5 : ∀ j, j < w.heap.size → o5 j = o j := fun j hj => by
    show (if _ then _ else _) = _
    rw [if_pos (by omega)]
  have a6 : ∀ j, j < w.heap.size → o6 j = o j := fun j hj => by rw [ho20 j (by omega), a5 j hj]
  have a7 : ∀ j, j < w.heap.size → o7 j = o j := fun j hj => by
    show (if _ then _ else _) = _
    rw [if_pos (by omega), a6 j hj]
  refine hK w25 o8 _ _ C25 ?_ (fun j hj => by rw [ho25 j (by omega), a7 j hj]) ?_
  · have hB23 : Bts [2, 3] := by intro x hx; simp at hx; omega
    refine ⟨by show (rows 0 ++ [r0]).length = _; simp [k.h0], k.h2, by show (rows 0 ++ [r0]).map _ = (rows 1 ++ [r1]).map _; simp [k.t0, r0, r1], k.t2, ?_, ?_, ?_, k.l2⟩
    · show ∀ x ∈ rows 0 ++ [r0], _
      intro x hx; rcases List.mem_append.1 hx with h | h
      · exact k.full x h
      · simp at h; subst h; rfl
    · show ∀ x ∈ rows 0 ++ [r0], _
      intro x hx; rcases List.mem_append.1 hx with h | h
      · exact k.bts x h
      · simp at h; subst h; exact hB23
    · show ∀ x ∈ rows 0 ++ [r0], _
      intro x hx; rcases List.mem_append.1 hx with h | h
      · exact k.l0 x h
      · simp at h; subst h; show 2 ≤ 256; decide
  · exact ((((hE17.ext (hE18.ext hE19)).to _).trans' hm20 fun j hj e => e.re (a5 j hj)).trans' hm21 fun j hj e => e.re (a6 j hj)).ext hE22 |>.trans' hm25 fun j hj e => e.re (a7 j hj)

set_option maxHeartbeats 4000000 in
theorem lent_law (G1 : Given w A n c as_ W m ws V l vs) (G2 : Given w B b e bs U p us X q xs) :
    Calls Try.prog 14 #[.slice A n c, .slice B b e, .slice W m d, .slice V l f, .slice U p r, .slice X q s] w fun e w' => e = .returned (.bool true) ∧ Ext w w' := by
  refine weirlaw1_ViewLent_of A n c B b e W m d V l f U p r X q s w _ ?_
  unfold weirlaw1_ViewLent_VC
  refine (newBuilder_spec (w := w) (max := 65535)).mono ?_
  rintro _ w1 ⟨hE1, ⟨hbad, rfl⟩ | ⟨_, rfl, hbd⟩⟩
  · omega
  refine ⟨_, _, rfl, Br.f rfl ?_⟩
  refine (num_spec _ w1).mono ?_
  rintro _ w2 ⟨rfl, rfl⟩
  refine ⟨_, rfl, Br.no (by decide) ?_⟩
  refine (bdPut_spec (k := 2) (v := 515) hbd ⟨by decide, by decide⟩).mono ?_
  rintro _ w3 ⟨rfl, hm3, BA, bc, hnear, hbd3⟩
  have hpe : putErr 2 515 0 65535 = 0 := by decide
  have hpn : putN 2 515 0 65535 = 2 := by unfold putN; rw [if_pos hpe]; rfl
  have hpl : putL 2 515 [] 0 65535 = [2, 3] := by unfold putL; rw [if_pos hpe]; decide
  rw [hpn, hpl] at hbd3
  rw [hpe]
  refine ⟨_, rfl, ?_⟩
  refine (num_spec _ w3).mono ?_
  rintro _ w4 ⟨rfl, rfl⟩
  refine ⟨_, rfl, Br.no (by decide) ?_⟩
  have hE3 : Ext w w3 := hE1.trans' hm3 fun k hk e => by
    rcases e with rfl | e
    · omega
    · simp [Value.ownBlock] at e
  have s3 := hE3.size
  refine NewVC.blk fun g1 w5 hg1 hz5 hE5 hb5 => ?_
  refine NewVC.blk fun g2 w6 hg2 hz6 hE6 hb6 => ?_
  have hE36 : Ext w3 w6 := hE5.ext hE6
  have hg2w : w5.heap.size ≤ g2 := by omega
  refine SetVC.blk hb6 (by decide) fun w7 hz7 hm7 hb7 => ?_
  refine SetVC.blk hb7 (by decide) fun w8 hz8 hm8 hb8 => ?_
  refine SetVC.blk hb8 (by decide) fun w9 hz9 hm9 hb9 => ?_
  refine SetVC.blk hb9 (by decide) fun w10 hz10 hm10 hb10 => ?_
  refine SetVC.blk hb10 (by decide) fun w11 hz11 hm11 hb11 => ?_
  refine SetVC.blk hb11 (by decide) fun w12 hz12 hm12 hb12 => ?_
  have hE512 : Ext w5 w12 := (((((hE6.set hm7 hg2w).set hm8 hg2w).set hm9 hg2w).set hm10 hg2w).set hm11 hg2w).set hm12 hg2w
  have hb12' : Blk w12 g2 _ ((([0, 0, 1, 1, 0, 1] : List Int)).map (.int .i64)) := hb12
  have hE312 := hE5.ext hE512
  have hE12 := hE3.ext hE312
  let o : Marks := fun k => if k < g1 then (6, 0) else if k = g1 then (4, 0) else (5, 0)
  have og1 : o g1 = (4, 0) := by
    show (if _ then _ else if _ then _ else _) = _
    rw [if_neg (by omega), if_pos rfl]
  have og2 : o g2 = (5, 0) := by
    show (if _ then _ else if _ then _ else _) = _
    rw [if_neg (by omega), if_neg (by omega)]
  have C12 : Core w12 g1 o g1 (fun _ => (none, 0, 0)) (fun _ => []) := ⟨hb5.ext hE512, og1, Nat.le_refl _, fun f _ => ⟨rfl, World.ownsRow_nil _ _ _ _, fun k hk => by simp [sv, Value.ownBlock] at hk, fun i hi => by simp at hi, fun i hi => by simp at hi⟩⟩
  have hblt : ∀ k, BF w.heap.size BA bc 2 k → k < g1 := fun k hk => by have := hbd3.lt k hk; omega
  have hbd12 := hbd3.ext hE312
  refine LoopVC.of (fun s w' => ∃ (i : Nat) (o' : Marks) (T : Nat → Option Addr × Nat × Nat) (rows : Nat → List RowL), s = (i : Int) ∧ i ≤ 6 ∧ Core w' g1 o' g1 T rows ∧ Kept (2 * i) i rows ∧ (∀ k, k < w12.heap.size → o' k = o k) ∧ Mod (CF g1 o) w12 w') (fun s _ => (6 - s).toNat)
    ⟨0, o, _, _, rfl, by omega, C12, Kept.nil, fun _ _ => rfl, Mod.refl _ _⟩ ?_
  rintro _ w13 ⟨i, o1, T, rows, rfl, hi, C, k, ho1, hM⟩
  have hEi : Ext w w13 := hE12.trans' hM fun j hj e => by have := e.1; omega
  have hbd13 := hbd12.mod hM fun j hj e => by have := e.1; have := hblt j hj; omega
  by_cases h6 : i = 6
  · subst h6
    exact lent_tail C k hEi (by omega) G1 G2 hbd13 hblt fun w' hE' => ⟨rfl, hE'⟩
  unfold weirlaw1_ViewLent_L506
  refine Br.yes (by omega) ?_
  have hb13 := hb12'.mod hM fun e => by have := e.2.2; rw [og2] at this; simp at this
  refine JoinVC.of (fun s w' => s = true ∧ ∃ o' T' rows' r0 r1 r2 r3, Asked w13 w' g1 o1 o' g1 T T' rows rows' r0 r1 r2 r3) ?_ ?_
  · refine IdxVC.blk (by omega) (by omega) ⟨([0, 0, 1, 1, 0, 1] : List Int)[i]'(by simp; omega), ?_, ?_⟩
    · rw [hb13.cell, Int.toNat_natCast, List.getElem?_map, List.getElem?_eq_getElem (by simp; omega)]; rfl
    · refine Br.dec (fun _ => ?_) (fun _ => ?_)
      · refine ((G1.ext hEi).asked C k (by omega) (by omega)).mono ?_
        rintro _ w14 ⟨rfl, h⟩
        exact ⟨_, rfl, rfl, h⟩
      · refine ((G2.ext hEi).asked C k (by omega) (by omega)).mono ?_
        rintro _ w14 ⟨rfl, h⟩
        exact ⟨_, rfl, rfl, h⟩
  rintro ok w16 ⟨rfl, o2, T2, rows2, r0, r1, r2, r3, a⟩
  have s13 := hM.size
  have s16 := a.mod.size
  have k2 := k.asked a
  have hM16 : Mod (CF g1 o) w12 w16 := hM.trans' a.mod fun j hj e => e.re (ho1 j hj)
  have ho2 : ∀ j, j < w12.heap.size → o2 j = o j := fun j hj => by rw [a.old j (by omega), ho1 j hj]
  have hbd16 := hbd12.mod hM16 fun j hj e => by have := e.1; have := hblt j hj; omega
  refine lent_turn a.core k2 (by omega) hbd16 (by omega) fun w' o3 T3 rows3 C3 k3 ho3 hM3 => ?_
  refine ⟨⟨i + 1, o3, T3, rows3, by omega, by omega, C3, ?_, fun j hj => by rw [ho3 j (by omega), ho2 j hj], hM16.trans' hM3 fun j hj e => e.re (ho2 j hj)⟩, by omega⟩
  rw [show 2 * (i + 1) = 2 * i + 1 + 1 by omega]; exact k3
end
end Go.Proofs.Ytdchpilghgnnoaa
