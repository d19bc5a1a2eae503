/- The lists of numbers that were handed out: lengthened by seventy, and looked at again. -/
import Derived.Test.YtdchpilghgnnoaaLent3
namespace Go.Proofs.Ytdchpilghgnnoaa
open Go.Eng Go.RowKit

structure LongAt (w : World) (g : Nat) (T : Nat → Option Addr × Nat × Nat) (rows : List RowL) (LA : Option Addr) (es : List (Option Addr × Nat × Nat)) : Prop where
  blk : Blk w g 87 (LC T)
  top : Cells w (T 2).1 (rows.map RowL.val)
  tlen : (T 2).2.1 = rows.length
  long : Cells w LA (es.map sv)
  len : es.length = rows.length
  ent : ∀ j (h : j < es.length) (h' : j < rows.length), es[j].2.1 = rows[j].n + 70 ∧ Cells w es[j].1 ((List.replicate (rows[j].n + 70) (-1 - (j : Int))).map (.int .i64))
  org : ∀ j (h : j < rows.length), Cells w rows[j].A ((List.replicate rows[j].n (-1 - (j : Int))).map (.int .i64))
theorem LongAt.ext {w w' : World} {g : Nat} {T : Nat → Option Addr × Nat × Nat} {rows : List RowL} {LA : Option Addr} {es : List (Option Addr × Nat × Nat)} (h : LongAt w g T rows LA es) (hE : Ext w w') : LongAt w' g T rows LA es :=
  ⟨h.blk.ext hE, h.top.ext hE, h.tlen, h.long.ext hE, h.len, fun j a b => ⟨(h.ent j a b).1, (h.ent j a b).2.ext hE⟩, fun j a => (h.org j a).ext hE⟩

section
variable {w : World} {base g : Nat} {o : Marks} {T : Nat → Option Addr × Nat × Nat} {rows : List RowL} {R : Ending → World → Prop}
/-- What was lengthened so far. -/
structure Mid (w0 w : World) (base : Nat) (o o' : Marks) (rows : List RowL) (LA : Option Addr) (lc i : Nat) (es : List (Option Addr × Nat × Nat)) : Prop where
  len : es.length = i
  mod : Mod (IF rows) w0 w
  own : w.ownsRow w0.heap.size 55 1 (.slice LA i lc) i (es.map sv)
  oid : ∀ k, (Value.slice LA i lc).ownBlock = some k → o' k = (7, 0)
  old : ∀ k, k < w0.heap.size → o' k = o k
  each : ∀ j (h : j < es.length) (h' : j < rows.length), es[j].2.1 = rows[j].n + 70 ∧ w.ownsRow base 3 1 (sv es[j]) (rows[j].n + 70) ((List.replicate (rows[j].n + 70) (-1 - (j : Int))).map (.int .i64)) ∧ ∀ k, (sv es[j]).ownBlock = some k → o' k = (2, j + 1)
  org : ∀ j (h : j < rows.length), Cells w rows[j].A ((List.replicate rows[j].n (-1 - (j : Int))).map (.int .i64))
  rest : ∀ j (h : j < rows.length), i ≤ j → w.ownsRow base 3 1 rows[j].val rows[j].n ((List.replicate rows[j].n (-1 - (j : Int))).map (.int .i64))
theorem cells_rep {A : Option Addr} {n m : Nat} {v : Int} (h : Cells w A ((List.replicate m v).map (.int .i64))) (hn : n ≤ m) : Cells w A ((List.replicate n v).map (.int .i64)) := by
  have := h.take n
  rwa [← List.map_take, List.take_replicate, Nat.min_eq_left hn] at this
theorem own_cells_sv {b e n : Nat} {p : Option Addr × Nat × Nat} {xs : List Value} (h : w.ownsRow b e 1 (sv p) n xs) : Cells w p.1 xs := by
  obtain ⟨A', c', hv, _⟩ := own_form h
  unfold sv at hv h
  injection hv with _ hn _
  rw [hn] at h
  exact own_cells h
theorem own_addr {b e n c : Nat} {A : Option Addr} {xs : List Value} (h : w.ownsRow b e 1 (.slice A n c) n xs) {k : Nat} (hk : (Value.slice A n c).ownBlock = some k) : A = some ⟨k, 0, none⟩ := by
  obtain ⟨A', c', hv, _, _, hf⟩ := own_form h
  injection hv with a _ c
  subst a; subst c
  exact hf k hk

variable {aA bA uA vA cA dA : Option Addr} {an ac bn bc un uc vn vc cn cc dn dc : Nat} {x0 xA : Option Addr} {xn xc : Nat}
set_option maxHeartbeats 4000000 in
theorem lent_long (hb : Blk w g 87 (LC T)) (hg : o g = (4, 0)) (h : LolAt w base o 2 (T 2) rows) (hbase : base ≤ w.heap.size) (hq : rows.length ≤ 100) (hz : ∀ r ∈ rows, r.n ≤ 1000) (hI : Inked rows rows.length)
    (hEnd : ∀ w' LA lc es K, Mod (IF rows) w w' → LongAt w' g T rows LA es → weirlaw1_ViewLent_L16378 R aA an ac bA bn bc uA un uc vA vn vc cA cn cc dA dn dc x0 g xA xn xc LA rows.length lc (rows.length : Int) w' K) :
    LoopVC (S := (Option Addr × Nat × Nat) × Int) (fun s w31 K16378 => weirlaw1_ViewLent_L16378 R aA an ac bA bn bc uA un uc vA vn vc cA cn cc dA dn dc x0 g xA xn xc s.1.1 s.1.2.1 s.1.2.2 s.2 w31 K16378) ((none, 0, 0), 0) w := by
  have hnotg : ∀ k, IF rows k → ¬ k = g := fun k hk e => by
    obtain ⟨-, i, hi⟩ := IF.mark h hk
    rw [e, hg] at hi
    simp at hi
  have hown : ∀ j (hj : j < rows.length), w.ownsRow base 3 1 rows[j].val rows[j].n ((List.replicate rows[j].n (-1 - (j : Int))).map (.int .i64)) := fun j hj => by
    have := h.each j hj
    rw [hI j hj hj] at this
    exact this
  have htop : ∀ {w' : World}, Mod (IF rows) w w' → Cells w' (T 2).1 (rows.map RowL.val) := fun hM => own_cells (own_mod h.own hM fun k hk e => by
    obtain ⟨-, i, hi⟩ := IF.mark h e
    rw [h.oid k hk] at hi
    simp at hi)
  refine LoopVC.of (fun s w' => ∃ (i : Nat) (LA : Option Addr) (lc : Nat) (es : List (Option Addr × Nat × Nat)) (o' : Marks), s = ((LA, i, lc), (i : Int)) ∧ i ≤ rows.length ∧ Mid w w' base o o' rows LA lc i es) (fun s _ => ((rows.length : Int) - s.2).toNat)
    ⟨0, none, 0, [], o, rfl, by omega, rfl, Mod.refl _ _, World.ownsRow_nil _ _ _ _, fun k hk => by simp [Value.ownBlock] at hk, fun _ _ => rfl, fun j hj => by simp at hj, fun j hj => own_cells (hown j hj), fun j hj _ => hown j hj⟩ ?_
  rintro _ w1 ⟨i, LA, lc, es, o1, rfl, hi, m1⟩
  show weirlaw1_ViewLent_L16378 R aA an ac bA bn bc uA un uc vA vn vc cA cn cc dA dn dc x0 g xA xn xc LA i lc (i : Int) w1 _
  by_cases hil : i < rows.length
  rotate_left
  · have hie : i = rows.length := by omega
    subst hie
    exact hEnd w1 LA lc es _ m1.mod ⟨hb.mod m1.mod fun e => hnotg _ e rfl, htop m1.mod, h.len, own_cells m1.own, m1.len, fun j a b => ⟨(m1.each j a b).1, own_cells_sv (m1.each j a b).2.1⟩, m1.org⟩
  unfold weirlaw1_ViewLent_L16378
  have hb1 := hb.mod m1.mod fun e => hnotg _ e rfl
  have hzi := hz _ (List.getElem_mem hil)
  have htl := h.len
  have hread : ∀ {w' : World}, Mod (IF rows) w w' → ∀ {F : Addr → Prop}, (∀ a, w'.cell? a = some (.slice rows[i].A rows[i].n rows[i].c) → F a) → IdxVC (T 2).1 (T 2).2.1 1 (i : Int) F := fun {_} hM {F} hF =>
    IdxVC.of (htop hM) (by omega) (by omega) (by simp [htl]) fun a _ ha => hF _ (by rw [ha]; simp [RowL.val])
  refine ⟨_, rfl, _, _, _, lent_cell hb1, Br.yes (by simp; omega) ?_⟩
  refine ⟨_, rfl, _, _, _, lent_cell hb1, hread m1.mod fun a ha => ⟨_, _, _, ha, ?_⟩⟩
  have s1 := m1.mod.size
  have hri := m1.rest i hil (Nat.le_refl _)
  have hkey : ∀ k, rows[i].val.ownBlock = some k → k < w.heap.size ∧ o1 k = (2, i + 1) := fun k hk => by
    have hlt := ((h.each i hil).lt k hk).2
    exact ⟨hlt, by rw [m1.old k hlt]; exact h.eid i hil k hk⟩
  refine LoopVC.of (fun s w' => ∃ m : Nat, m ≤ 70 ∧ s.2.1 = rows[i].n + m ∧ w'.ownsRow base 3 1 (.slice s.1 s.2.1 s.2.2) (rows[i].n + m) ((List.replicate (rows[i].n + m) (-1 - (i : Int))).map (.int .i64)) ∧
      (∀ k, (Value.slice s.1 s.2.1 s.2.2).ownBlock = some k → rows[i].val.ownBlock = some k ∨ w1.heap.size ≤ k) ∧ Mod (fun k => rows[i].val.ownBlock = some k) w1 w' ∧ Cells w' rows[i].A ((List.replicate rows[i].n (-1 - (i : Int))).map (.int .i64)))
    (fun s _ => rows[i].n + 70 - s.2.1) ⟨0, by omega, rfl, hri, fun k hk => .inl hk, Mod.refl _ _, own_cells hri⟩ ?_
  rintro ⟨GA, gn, gc⟩ w2 ⟨m, hm, hgn, hcur, hcb, hM2, horg⟩
  simp only at hgn hcur hcb
  subst hgn
  have hM02 : Mod (IF rows) w w2 := m1.mod.trans' hM2 fun k _ e => IF.of hil e
  have hb2 := hb.mod hM02 fun e => hnotg _ e rfl
  show weirlaw1_ViewLent_L2096420 g LA i lc (i : Int) _ GA (rows[i].n + m) gc w2 _
  unfold weirlaw1_ViewLent_L2096420
  refine ⟨_, rfl, _, _, _, lent_cell hb2, hread hM02 fun a ha => ⟨_, _, _, ha, ?_⟩⟩
  rw [w64 (n := (rows[i].n : Int) + 70) (by omega) (by omega), w64 (n := -1 - (i : Int)) (by omega) (by omega), w64 (n := (i : Int) + 1) (by omega) (by omega)]
  have s2 := hM2.size
  refine Br.dec (fun hlt => ?_) (fun hge => ?_)
  · have hm70 : m < 70 := by omega
    refine NewVC.blk fun g6 w3 hg6 hz3 hE3 hb3 => ?_
    have hsrc : Cells w3 (some ⟨g6, 0, none⟩) [.int .i64 (-1 - (i : Int))] := by simpa using Cells.of_blk hb3 0
    have hA := AppVC.at (F := fun A2 n2 c2 w' => n2 = rows[i].n + m + 1 ∧ w'.ownsRow base 3 1 (.slice A2 (rows[i].n + m + 1) c2) (rows[i].n + m + 1) ((List.replicate (rows[i].n + m) (-1 - (i : Int))).map (.int .i64) ++ [.int .i64 (-1 - (i : Int))]) ∧
        Mod (fun k => some k = (Value.slice GA (rows[i].n + m) gc).ownBlock) w3 w' ∧ ∀ k, some k = (Value.slice A2 (rows[i].n + m + 1) c2).ownBlock → some k = (Value.slice GA (rows[i].n + m) gc).ownBlock ∨ w3.heap.size ≤ k)
      (t := 55) (ty := 55) Try.underlying55 tyInt rfl (own_ext hcur hE3) hsrc (m := 1) (c' := 1) rfl (by intro u hu; simp at hu; subst hu; rfl) (by omega) (by decide) (by omega) fun A2 c2 w' a b _ d => ⟨rfl, a, b, d⟩
    have hB := AppVC.keep (F := fun _ _ _ w' => w'.ownsRow base 3 1 (.slice GA (rows[i].n + m) gc) (rows[i].n + m) ((List.replicate (rows[i].n + m) (-1 - (i : Int))).map (.int .i64)))
      (t := 55) (ty := 55) Try.underlying55 tyInt rfl (own_ext hcur hE3) hsrc (m := 1) (c' := 1) rfl (by omega) (by intro u hu; simp at hu; subst hu; rfl) (by omega) (by decide) fun _ _ w' a _ => a
    obtain ⟨A2, n2, c2, w4, hrun, ⟨rfl, hnew, hm4, hat⟩, hkept⟩ := AppVC.both hA hB
    refine ⟨A2, _, c2, w4, hrun, ?_⟩
    have hM4 : Mod (fun k => rows[i].val.ownBlock = some k) w1 w4 := (hM2.ext hE3).trans' hm4 fun k hk e => by
      rcases hcb k e.symm with e' | e'
      · exact e'
      · omega
    refine ⟨⟨m + 1, by omega, by simp only; omega, ?_, fun k hk => ?_, hM4, ?_⟩, by simp only; omega⟩
    · have e : (List.replicate (rows[i].n + (m + 1)) (-1 - (i : Int))).map (Value.int .i64) = (List.replicate (rows[i].n + m) (-1 - (i : Int))).map (.int .i64) ++ [.int .i64 (-1 - (i : Int))] := by
        rw [← Nat.add_assoc, List.replicate_succ', List.map_append]; rfl
      rw [e]; exact hnew
    · rcases hat k hk.symm with e | e
      · exact hcb k e.symm
      · have := hE3.size; exact .inr (by omega)
    · by_cases hsame : ∃ k, rows[i].val.ownBlock = some k ∧ (Value.slice GA (rows[i].n + m) gc).ownBlock = some k
      · obtain ⟨k, k1, k2⟩ := hsame
        have e1 := own_addr (by exact hri) k1
        have e2 := own_addr hcur k2
        have := cells_rep (own_cells hkept) (show rows[i].n ≤ rows[i].n + m by omega)
        rw [e2, ← e1] at this
        exact this
      · refine (horg.ext hE3).mod hm4 fun a ha _ e => hsame ⟨a.block, ?_, e.symm⟩
        unfold RowL.val
        rw [ha]; rfl
  · have hm70 : m = 70 := by omega
    subst hm70
    refine NewVC.blk fun g7 w3 hg7 hz3 hE3 hb3 => ?_
    have hM13 : Mod (fun k => rows[i].val.ownBlock = some k) w1 w3 := hM2.ext hE3
    have hlong3 : w3.ownsRow w.heap.size 55 1 (.slice LA i lc) i (es.map sv) := own_mod m1.own hM13 fun k hk e => by
      have := m1.oid k hk
      rw [(hkey k e).2] at this
      simp at this
    have s3 := hE3.size
    refine AppVC.at Try.underlying85 (tl_is 2) rfl hlong3 (by simpa using Cells.of_blk hb3 0) (m := 1) rfl (by intro u hu; simp at hu; subst hu; rfl) (by omega) (by decide) (by omega) fun A2 c2 w4 hnew hm4 _ hat => ?_
    have s4 := hm4.size
    let o2 : Marks := fun k => if k < w1.heap.size then o1 k else if k < w3.heap.size then (2, i + 1) else (7, 0)
    have hlw : ∀ k, some k = (Value.slice LA i lc).ownBlock → w.heap.size ≤ k ∧ k < w1.heap.size := fun k hk => m1.own.lt k hk.symm
    have hM04 : Mod (IF rows) w w4 := (hM02.ext hE3).trans' hm4 fun k hk e => by have := hlw k e; omega
    have hcid : ∀ k, (Value.slice GA (rows[i].n + 70) gc).ownBlock = some k → k < w3.heap.size ∧ o2 k = (2, i + 1) := fun k hk => by
      have hlt := (hcur.lt k hk).2
      refine ⟨by omega, ?_⟩
      show (if _ then _ else if _ then _ else _) = _
      rcases hcb k hk with e | e
      · rw [if_pos (by have := (hkey k e).1; omega)]; exact (hkey k e).2
      · rw [if_neg (by omega), if_pos (by omega)]
    refine ⟨⟨i + 1, A2, c2, es ++ [(GA, rows[i].n + 70, gc)], o2, rfl, by omega, ?_⟩, by simp only; omega⟩
    refine ⟨by simp [m1.len], hM04, by rw [List.map_append]; exact hnew, fun k hk => ?_, fun k hk => ?_, fun j hj hj' => ?_, fun j hj => ?_, fun j hj hij => ?_⟩
    · show (if _ then _ else if _ then _ else _) = _
      rcases hat k hk.symm with e | e
      · rw [if_pos (hlw k e).2]; exact m1.oid k e.symm
      · rw [if_neg (by omega), if_neg (by omega)]
    · show (if _ then _ else if _ then _ else _) = _
      rw [if_pos (by omega)]; exact m1.old k hk
    · by_cases e : j < es.length
      · simp only [List.getElem_append_left e]
        obtain ⟨a1, a2, a3⟩ := m1.each j e hj'
        have hlt1 : ∀ k, (sv es[j]).ownBlock = some k → k < w1.heap.size := fun k hk => (a2.lt k hk).2
        refine ⟨a1, own_mod (own_mod a2 hM13 fun k hk e' => ?_) hm4 fun k hk e' => ?_, fun k hk => ?_⟩
        · have := a3 k hk
          rw [(hkey k e').2] at this
          have := m1.len
          simp at *
          omega
        · have := a3 k hk
          rw [m1.oid k e'.symm] at this
          simp at this
        · show (if _ then _ else if _ then _ else _) = _
          rw [if_pos (hlt1 k hk)]; exact a3 k hk
      · have ej : j = es.length := by simp at hj; omega
        have eji : j = i := by rw [ej, m1.len]
        subst eji
        have hel : (es ++ [(GA, rows[j].n + 70, gc)])[j] = (GA, rows[j].n + 70, gc) := by
          simp [List.getElem_append_right (show es.length ≤ j by omega), show j - es.length = 0 by omega]
        rw [hel]
        refine ⟨rfl, own_mod (own_ext hcur hE3) hm4 fun k hk e' => ?_, fun k hk => (hcid k hk).2⟩
        rcases hcb k hk with e2 | e2
        · have := m1.oid k e'.symm
          rw [(hkey k e2).2] at this
          simp at this
        · have := hlw k e'.symm.symm; omega
    · by_cases e : j = i
      · subst e
        exact (horg.ext hE3).mod hm4 fun a ha hp e' => by
          have hk : rows[j].val.ownBlock = some a.block := by unfold RowL.val; rw [ha]; rfl
          have := (hkey _ hk).1
          have := (hlw _ e').1
          omega
      · refine ((m1.org j hj).mod hM13 fun a ha hp e' => ?_).mod hm4 fun a ha hp e' => ?_
        · have hk : rows[j].val.ownBlock = some a.block := by unfold RowL.val; rw [ha]; rfl
          have h1 := h.eid j hj _ hk
          have h2 := h.eid i hil _ e'
          rw [h1] at h2
          simp at h2
          exact e h2
        · have hk : rows[j].val.ownBlock = some a.block := by unfold RowL.val; rw [ha]; rfl
          have := ((h.each j hj).lt _ hk).2
          have := (hlw _ e').1
          omega
    · refine own_mod (own_mod (m1.rest j hj (by omega)) hM13 fun k hk e' => ?_) hm4 fun k hk e' => ?_
      · have h1 := h.eid j hj _ hk
        have h2 := h.eid i hil _ e'
        rw [h1] at h2
        simp at h2
        omega
      · have := ((h.each j hj).lt _ hk).2
        have := (hlw _ e').1
        omega

set_option maxHeartbeats 1000000 in
theorem lent_look {LA : Option Addr} {es : List (Option Addr × Nat × Nat)} (h : LongAt w g T rows LA es) (hq : rows.length ≤ 100) (hz : ∀ r ∈ rows, r.n ≤ 1000) (hR : ∀ w', Ext w w' → R (.returned (.bool true)) w') :
    LoopVC (S := Int) (fun s w46 K262138 => weirlaw1_ViewLent_L262138 R g LA rows.length s w46 K262138) 0 w := by
  have hel := h.len
  have htl := h.tlen
  refine LoopVC.of (fun s w' => w = w' ∧ ∃ i : Nat, s = (i : Int) ∧ i ≤ rows.length) (fun s _ => ((rows.length : Int) - s).toNat) ⟨rfl, 0, rfl, by omega⟩ ?_
  rintro _ w1 ⟨rfl, i, rfl, hi⟩
  unfold weirlaw1_ViewLent_L262138
  refine Br.dec (fun hlt => ?_) (fun _ => ?_)
  rotate_left
  · refine (started_spec _).mono ?_
    rintro _ w2 ⟨hE2, rfl⟩
    exact ⟨_, rfl, hR _ hE2⟩
  have hil : i < rows.length := by omega
  have hie : i < es.length := by omega
  have hzi := hz _ (List.getElem_mem hil)
  obtain ⟨he, hec⟩ := h.ent i hie hil
  have hread : ∀ {F : Addr → Prop}, (∀ a, w.cell? a = some (.slice rows[i].A rows[i].n rows[i].c) → F a) → IdxVC (T 2).1 (T 2).2.1 1 (i : Int) F := fun {F} hF =>
    IdxVC.of h.top (by omega) (by omega) (by simp [htl]) fun a _ ha => hF _ (by rw [ha]; simp [RowL.val])
  have hlong : ∀ {F : Addr → Prop}, (∀ a, w.cell? a = some (.slice es[i].1 es[i].2.1 es[i].2.2) → F a) → IdxVC LA rows.length 1 (i : Int) F := fun {F} hF =>
    IdxVC.of h.long (by omega) (by omega) (by simp [hel]) fun a _ ha => hF _ (by rw [ha]; simp [sv])
  refine LoopVC.of (fun s w' => w = w' ∧ ∃ k : Nat, s = (k : Int) ∧ k ≤ rows[i].n + 70) (fun s _ => ((rows[i].n : Int) + 70 - s).toNat) ⟨rfl, 0, rfl, by omega⟩ ?_
  rintro _ w2 ⟨rfl, k, rfl, hk⟩
  unfold weirlaw1_ViewLent_L16776850
  rw [w64 (n := (i : Int) + 1) (by omega) (by omega), w64 (n := (k : Int) + 1) (by omega) (by omega), w64 (n := -1 - (i : Int)) (by omega) (by omega)]
  refine hlong fun a ha => ⟨_, _, _, ha, Br.dec (fun hlt => ?_) (fun _ => ⟨⟨rfl, i + 1, by omega, by omega⟩, by omega⟩)⟩
  rw [he] at hlt
  refine hlong fun a ha => ⟨_, _, _, ha, ?_⟩
  refine IdxVC.int (n := es[i].2.1) hec (by omega) (by rw [he]; omega) (by simp [he]) fun a ha => ⟨_, ha, Br.no ?_ ?_⟩
  · rw [Int.toNat_natCast]
    simp [List.getD_eq_getElem?_getD, show k < rows[i].n + 70 by omega]
  refine ⟨_, rfl, _, _, _, lent_cell h.blk, hread fun a ha => ⟨_, _, _, ha, Br.dec (fun hkn => ?_) (fun _ => ⟨⟨rfl, k + 1, by omega, by omega⟩, by omega⟩)⟩⟩
  refine ⟨_, rfl, _, _, _, lent_cell h.blk, hread fun a ha => ⟨_, _, _, ha, ?_⟩⟩
  refine IdxVC.int (h.org i hil) (by omega) hkn (by simp) fun a ha => ⟨_, ha, Br.no ?_ ⟨⟨rfl, k + 1, by omega, by omega⟩, by omega⟩⟩
  rw [Int.toNat_natCast]
  simp [List.getD_eq_getElem?_getD, show k < rows[i].n by omega]
end
end Go.Proofs.Ytdchpilghgnnoaa
