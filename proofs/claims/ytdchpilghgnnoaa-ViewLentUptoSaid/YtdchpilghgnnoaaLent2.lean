/- One more question, its answers kept (asked), and whether all are what the document says (as). -/
import Derived.Test.YtdchpilghgnnoaaLent
namespace Go.Proofs.Ytdchpilghgnnoaa
open Go.Eng Go.RowKit

theorem CF.re {base k : Nat} {o o' : Marks} (h : o' k = o k) (hc : CF base o' k) : CF base o k := ⟨hc.1, by rw [← h]; exact hc.2.1, by rw [← h]; exact hc.2.2⟩
/-- What asked leaves. -/
structure Asked (w w' : World) (base : Nat) (o o' : Marks) (g : Nat) (T T' : Nat → Option Addr × Nat × Nat) (rows rows' : Nat → List RowL) (r0 r1 r2 r3 : RowL) : Prop where
  core : Core w' base o' g T' rows'
  old : ∀ k, k < w.heap.size → o' k = o k
  mod : Mod (CF base o) w w'
  e0 : rows' 0 = rows 0 ++ [r0]
  e1 : rows' 1 = rows 1 ++ [r1]
  e2 : rows' 2 = rows 2 ++ [r2]
  e3 : rows' 3 = rows 3 ++ [r3]
  t0 : r0.Z = r1.Z
  t2 : r2.Z = r3.Z
  full : r0.c = r0.n
  bts : Bts r0.Z
  l0 : r0.n ≤ 256
  l2 : r2.n ≤ 64
section
variable {w : World} {base g p q : Nat} {o : Marks} {T : Nat → Option Addr × Nat × Nat} {rows : Nat → List RowL}
set_option maxHeartbeats 4000000 in
theorem asked_spec {A W V : Option Addr} {n c m d l f : Nat} {bs ws vs : List Int} (h : Core w base o g T rows) (h0 : (rows 0).length = p) (h1 : (rows 1).length = p) (h2 : (rows 2).length = q) (h3 : (rows 3).length = q) (hp : p ≤ 100) (hq : q ≤ 100)
    (hb : Cells w A (bs.map (.int .u8))) (hl : bs.length = n) (hB : Bts bs) (hc : n ≤ c) (hn : n ≤ 1048576) (hws : Cells w W (ws.map (.int .i64))) (hm : ws.length = m) (hvs : Cells w V (vs.map (.int .i64))) (hv : vs.length = l) :
    Calls Try.prog 43 #[.pointer (some ⟨g, 0, none⟩), .slice A n c, .slice W m d, .slice V l f] w fun e w' => e = .returned (.bool true) ∧ ∃ o' T' rows' r0 r1 r2 r3, Asked w w' base o o' g T T' rows rows' r0 r1 r2 r3 := by
  refine weirlaw1_Lent_asked_of _ A n c W m d V l f w _ ?_
  unfold weirlaw1_Lent_asked_VC
  refine (fields_fn (p := 0) hb hl hB hc (by omega) hws hm).mono ?_
  rintro _ w1 ⟨hE1, F1, fc1, rfl, hf1⟩
  refine ⟨_, _, _, _, _, rfl, ?_⟩
  refine (refFields_fn (p := 0) (hb.ext hE1) hl hB (by omega) (hws.ext hE1) hm).mono ?_
  rintro _ w2 ⟨hE2, F2, fc2, rfl, hf2⟩
  refine ⟨_, _, _, _, _, rfl, ?_⟩
  have hE12 := hE1.ext hE2
  refine (pack_fn (hws.ext hE12) hm (hvs.ext hE12) hv).mono ?_
  rintro _ w3 ⟨hE3, P1, ds, err, hp1, rfl, hpo1⟩
  refine ⟨_, _, _, _, rfl, ?_⟩
  have hE13 := hE12.ext hE3
  refine (refPack_fn (hws.ext hE13) hm (hvs.ext hE13) hv).mono ?_
  rintro _ w4 ⟨hE4, Q1, qc, es, err2, hp2, rfl, hpo2⟩
  obtain ⟨rfl, rfl⟩ := hp1.unique hp2
  refine ⟨_, _, _, _, rfl, ?_⟩
  have hfl := fieldsS_length bs 0 ws
  generalize hFe : fieldsS bs 0 ws = FF at hf1 hf2 hfl ⊢
  have hds := hp1.small
  have s1 := hE1.size
  have s2 := hE2.size
  have s3 := hE3.size
  have s4 := hE4.size
  have hbase := h.bnd
  let o1 : Marks := fun k => if k < w.heap.size then o k else if k < w1.heap.size then (2, q + 1) else if k < w2.heap.size then (3, q + 1) else (0, p + 1)
  have ho1 : ∀ k, k < w.heap.size → o1 k = o k := fun k hk => if_pos hk
  let r2 : RowL := ⟨F1, FF.1.length, fc1, FF.1⟩
  let r3 : RowL := ⟨F2, FF.1.length, fc2, FF.1⟩
  let r0 : RowL := ⟨P1, ds.length, ds.length, ds⟩
  have id2 : ∀ k, r2.val.ownBlock = some k → o1 k = (2, q + 1) := fun k hk => by
    have := hf1.lt k hk
    show (if _ then _ else if _ then _ else if _ then _ else _) = _
    rw [if_neg (by omega), if_pos this.2]
  have id3 : ∀ k, r3.val.ownBlock = some k → o1 k = (3, q + 1) := fun k hk => by
    have := hf2.lt k hk
    show (if _ then _ else if _ then _ else if _ then _ else _) = _
    rw [if_neg (by omega), if_neg (by omega), if_pos this.2]
  have id0 : ∀ k, r0.val.ownBlock = some k → o1 k = (0, p + 1) := fun k hk => by
    have := hpo1.lt k hk
    show (if _ then _ else if _ then _ else if _ then _ else _) = _
    rw [if_neg (by omega), if_neg (by omega), if_neg (by omega)]
  have C4 : Core w4 base o1 g T rows := (h.re ho1).ext (hE13.ext hE4)
  have hr2 : w4.ownsRow base (te 2) 1 r2.val r2.n (r2.Z.map (.int (kd 2))) := own_base (own_ext hf1 ((hE2.ext hE3).ext hE4)) hbase
  have hr3 : w4.ownsRow base (te 3) 1 r3.val r3.n (r3.Z.map (.int (kd 3))) := own_base (own_ext hf2 (hE3.ext hE4)) (by omega)
  have hr0 : w4.ownsRow base (te 0) 1 r0.val r0.n (r0.Z.map (.int (kd 0))) := own_base (own_ext hpo1 hE4) (by omega)
  have hl2 : ∀ k, r2.val.ownBlock = some k → k < w4.heap.size := fun k hk => (hr2.lt k hk).2
  have hl3 : ∀ k, r3.val.ownBlock = some k → k < w4.heap.size := fun k hk => (hr3.lt k hk).2
  have hl0 : ∀ k, r0.val.ownBlock = some k → k < w4.heap.size := fun k hk => (hr0.lt k hk).2
  refine ⟨_, rfl, _, _, _, C4.cell (f := 2) (by decide), ?_⟩
  refine Core.push (f := 2) (r := r2) (by decide) C4 hr2 (by rw [h2]; exact id2) (by omega) fun w7 o2 A7 c7 C7 ho7 hm7 => ?_
  have s7 := hm7.size
  have hr3 := C4.keep (i := q) hr3 id3 hm7
  have hr0 := C4.keep (i := p) hr0 id0 hm7
  have hq1 := C4.keep (v := .slice Q1 ds.length qc) (f := 0) (i := p) hpo2 (fun k hk => by
    have := hpo2.lt k hk
    show (if _ then _ else if _ then _ else if _ then _ else _) = _
    rw [if_neg (by omega), if_neg (by omega), if_neg (by omega)]) hm7
  refine ⟨_, rfl, _, _, _, C7.cell (f := 3) (by decide), ?_⟩
  refine Core.push (f := 3) (r := r3) (by decide) C7 hr3 (fun k hk => by rw [ho7 k (hl3 k hk), id3 k hk]; show _ = (3, (rows 3).length + 1); rw [h3]) (by show (rows 3).length ≤ _; omega) fun w10 o3 A10 c10 C10 ho10 hm10 => ?_
  have s10 := hm10.size
  have hr0 := C7.keep (f := 0) (i := p) hr0 (fun k hk => by rw [ho7 k (hl0 k hk), id0 k hk]) hm10
  have hq1 := C7.keep (v := .slice Q1 ds.length qc) (f := 0) (i := p) hq1 (fun k hk => by
    have := hpo2.lt k hk
    rw [ho7 k this.2]
    show (if _ then _ else if _ then _ else if _ then _ else _) = _
    rw [if_neg (by omega), if_neg (by omega), if_neg (by omega)]) hm10
  refine ⟨_, rfl, _, _, _, C10.cell (f := 0) (by decide), ?_⟩
  refine Core.push (f := 0) (r := r0) (by decide) C10 hr0 (fun k hk => by have := hl0 k hk; rw [ho10 k (by omega), ho7 k this, id0 k hk]; show _ = (0, (rows 0).length + 1); rw [h0]) (by show (rows 0).length ≤ _; omega) fun w13 o4 A13 c13 C13 ho13 hm13 => ?_
  have s13 := hm13.size
  have hq1 := C10.keep (v := .slice Q1 ds.length qc) (f := 0) (i := p) hq1 (fun k hk => by
    have := hpo2.lt k hk
    rw [ho10 k (by omega), ho7 k this.2]
    show (if _ then _ else if _ then _ else if _ then _ else _) = _
    rw [if_neg (by omega), if_neg (by omega), if_neg (by omega)]) hm13
  refine DrawVC.of (fun w' => w'.cell? ⟨g, 1, none⟩ = some (sv (T 1))) fun w14 hE14 _ => ⟨(C13.ext hE14).cell (f := 1) (by decide), ⟨_, rfl, _, _, _, fun w' h => h, ?_⟩⟩
  have s14 := hE14.size
  refine NewVC.blk fun g4 w15 hg4 hz15 hE15 hb4 => ⟨(C13.ext (hE14.ext hE15)).cell (f := 1) (by decide), ?_⟩
  refine AppVC.at Try.underlying22 tyByte rfl (own_of_blk (n := 0) (c := 0) (base := w14.heap.size) hb4 (by omega) rfl (Nat.le_refl _) (by decide)) (own_cells (own_ext hq1 (hE14.ext hE15))) (by simp) (ints_one _ _) (by omega) (by decide) (by omega) fun R1 rc w16 hown16 hm16 _ _ => ?_
  have hE16 : Ext w14 w16 := hE15.trans' hm16 fun k hk e => by simp [Value.ownBlock] at e; omega
  rw [Nat.zero_add] at hown16 ⊢
  have hE1316 := hE14.ext hE16
  refine ⟨(C13.ext hE1316).cell (f := 1) (by decide), ?_⟩
  let r1 : RowL := ⟨R1, ds.length, rc, ds⟩
  refine NewVC.blk fun g5 w17 hg5 hz17 hE17 hb5 => ?_
  have hE1417 := hE16.ext hE17
  have hE1317 := hE1316.ext hE17
  let o5 : Marks := fun k => if k < w14.heap.size then o4 k else (1, p + 1)
  have C17 : Core w17 base o5 g _ _ := ((C13.ext hE14).re (o' := o5) fun k hk => if_pos hk).ext hE1417
  refine ⟨C17.cell (f := 1) (by decide), ?_⟩
  have hb17 := C17.bnd
  refine Core.app (f := 1) (r := r1) (by decide) C17 (own_base (own_ext hown16 hE17) (by have := C13.bnd; omega)) (fun k hk => by
    have := hown16.lt k hk
    show (if _ then _ else _) = (1, (rows 1).length + 1)
    rw [if_neg (by omega), h1]) (by simpa [r1, RowL.val] using Cells.of_blk hb5 0) (by show (rows 1).length ≤ _; omega) fun A18 c18 w18 o6 hm18 ho18 hcell hset => ?_
  refine ⟨hcell, _, rfl, ?_⟩
  refine hset _ fun w19 hm19 C19 => ?_
  refine (num_spec _ w19).mono ?_
  rintro _ w20 ⟨rfl, rfl⟩
  refine ⟨_, rfl, Br.yes rfl ?_⟩
  refine (num_spec _ w19).mono ?_
  rintro _ w20 ⟨rfl, rfl⟩
  refine ⟨_, rfl, ?_⟩
  have s17 := hE1317.size
  have s18 := hm18.size
  have a4 : ∀ k, k < w.heap.size → o4 k = o k := fun k hk => by rw [ho13 k (by omega), ho10 k (by omega), ho7 k (by omega), ho1 k hk]
  have a5 : ∀ k, k < w.heap.size → o5 k = o k := fun k hk => by
    show (if _ then _ else _) = _
    rw [if_pos (by omega), a4 k hk]
  have a6 : ∀ k, k < w.heap.size → o6 k = o k := fun k hk => by rw [ho18 k (by omega), a5 k hk]
  refine ⟨by simp, o6, _, _, r0, r1, r2, r3, C19, a6, ?_, rfl, rfl, rfl, rfl, rfl, rfl, rfl, hp1.bts, hds, hfl⟩
  refine ((((((hE13.ext hE4).to _).trans' hm7 fun k hk e => ?_).trans' hm10 fun k hk e => ?_).trans' hm13 fun k hk e => ?_).ext hE1317).trans' hm18 (fun k hk e => ?_) |>.trans' hm19 fun k hk e => ?_
  · exact e.re (ho1 k hk)
  · exact e.re (by rw [ho7 k (by omega), ho1 k hk])
  · exact e.re (by rw [ho10 k (by omega), ho7 k (by omega), ho1 k hk])
  · exact e.re (a5 k hk)
  · exact e.re (a6 k hk)

set_option maxHeartbeats 1000000 in
theorem as_spec (h : Core w base o g T rows) (h0 : (rows 0).length = p) (h2 : (rows 2).length = q) (hp : p ≤ 100) (hq : q ≤ 100)
    (t0 : (rows 0).map RowL.Z = (rows 1).map RowL.Z) (t2 : (rows 2).map RowL.Z = (rows 3).map RowL.Z) (hb : ∀ r ∈ rows 0, Bts r.Z) (hz : ∀ r ∈ rows 2, r.n ≤ 1000) :
    Calls Try.prog 44 #[.pointer (some ⟨g, 0, none⟩)] w fun e w' => Ext w w' ∧ e = .returned (.bool true) := by
  refine weirlaw1_Lent_as_of _ w _ ?_
  unfold weirlaw1_Lent_as_VC
  have hlen : ∀ f, f < 4 → (T f).2.1 = (rows f).length := fun f hf => (h.lol f hf).len
  have l1 : (rows 1).length = p := by have := congrArg List.length t0; simp at this; omega
  have l3 : (rows 3).length = q := by have := congrArg List.length t2; simp at this; omega
  have n0 := hlen 0 (by decide)
  have n1 := hlen 1 (by decide)
  have n2 := hlen 2 (by decide)
  have n3 := hlen 3 (by decide)
  have hread : ∀ {w2 : World} {f i : Nat} (_ : Ext w w2) (hf : f < 4) (hi : i < (rows f).length) {F : Addr → Prop}, (∀ a, (∀ w', Ext w w' → w'.cell? a = some (.slice (rows f)[i].A (rows f)[i].n (rows f)[i].c)) → F a) → IdxVC (T f).1 (T f).2.1 1 (i : Int) F := fun {w2 f i} hE hf hi {F} hF => by
    have hc := own_cells (h.lol f hf).own
    obtain ⟨a, ha, _⟩ := hc.at (i := i) (by simpa using hi)
    refine ⟨a, ha, by omega, by have := hlen f hf; omega, hF _ fun w' hE' => ?_⟩
    obtain ⟨a', ha', hc'⟩ := (hc.ext hE').at (i := i) (by simpa using hi)
    rw [ha] at ha'; cases ha'
    rw [Int.toNat_natCast, Nat.mul_one, hc']; simp [RowL.val]
  refine LoopVC.of (fun s w' => Ext w w' ∧ ∃ i : Nat, i ≤ p ∧ s = (i : Int)) (fun s _ => ((p : Int) - s).toNat) ⟨Mod.refl _ _, 0, by omega, rfl⟩ ?_
  rintro _ w1 ⟨hE1, i, hi, rfl⟩
  unfold weirlaw1_Lent_as_L26
  refine ⟨_, rfl, _, _, _, (h.ext hE1).cell (f := 0) (by decide), ?_⟩
  refine Br.dec (fun hlt => ?_) (fun hge => ?_)
  · have hi0 : i < (rows 0).length := by omega
    have hi1 : i < (rows 1).length := by omega
    refine DrawVC.of (fun w' => Ext w w') fun w2 hE2 _ => ⟨hE1.ext hE2, ?_⟩
    have hE02 := hE1.ext hE2
    refine ⟨_, rfl, _, _, _, fun w' hE' => (h.ext hE').cell (f := 0) (by decide), ?_⟩
    refine hread hE02 (f := 0) (by decide) hi0 fun a ha => ⟨_, _, _, ha, ?_⟩
    refine ⟨_, rfl, _, _, _, fun w' hE' => (h.ext hE').cell (f := 1) (by decide), ?_⟩
    refine hread hE02 (f := 1) (by decide) hi1 fun a1 ha1 => ⟨_, _, _, ha1, ?_⟩
    have hz01 : (rows 0)[i].Z = (rows 1)[i].Z := by
      have := congrArg (fun l => l[i]?) t0
      simpa [hi0, hi1] using this
    have o0 := (h.lol 0 (by decide)).each i hi0
    have o1 := (h.lol 1 (by decide)).each i hi1
    have b0 := hb _ (List.getElem_mem hi0)
    refine (same_spec (own_cells (own_ext o0 hE02)) (own_cells (own_ext o1 hE02)) (by have := o0.1; simpa using this) (by have := o1.1; simpa using this) b0 (hz01 ▸ b0)).mono ?_
    rintro _ w3 ⟨rfl, rfl⟩
    refine ⟨_, rfl, hE02, Br.f (by simp [hz01]) ?_⟩
    rw [w64 (n := (i : Int) + 1) (by omega) (by omega)]
    exact ⟨⟨hE02, i + 1, by omega, by omega⟩, by omega⟩
  · refine LoopVC.of (fun s w' => Ext w w' ∧ ∃ i : Nat, i ≤ q ∧ s = (i : Int)) (fun s _ => ((q : Int) - s).toNat) ⟨hE1, 0, by omega, rfl⟩ ?_
    rintro _ w4 ⟨hE4, j, hj, rfl⟩
    unfold weirlaw1_Lent_as_L58
    refine ⟨_, rfl, _, _, _, (h.ext hE4).cell (f := 2) (by decide), ?_⟩
    refine Br.dec (fun hlt => ?_) (fun hge => ⟨hE4, rfl⟩)
    have hi0 : j < (rows 2).length := by omega
    have hi1 : j < (rows 3).length := by omega
    refine DrawVC.of (fun w' => Ext w w') fun w5 hE5 _ => ⟨hE4.ext hE5, ?_⟩
    have hE05 := hE4.ext hE5
    refine ⟨_, rfl, _, _, _, fun w' hE' => (h.ext hE').cell (f := 2) (by decide), ?_⟩
    refine hread hE05 (f := 2) (by decide) hi0 fun a ha => ⟨_, _, _, ha, ?_⟩
    refine ⟨_, rfl, _, _, _, fun w' hE' => (h.ext hE').cell (f := 3) (by decide), ?_⟩
    refine hread hE05 (f := 3) (by decide) hi1 fun a1 ha1 => ⟨_, _, _, ha1, ?_⟩
    have hz01 : (rows 2)[j].Z = (rows 3)[j].Z := by
      have := congrArg (fun l => l[j]?) t2
      simpa [hi0, hi1] using this
    have o0 := (h.lol 2 (by decide)).each j hi0
    have o1 := (h.lol 3 (by decide)).each j hi1
    refine (sameInts_spec (own_cells (own_ext o0 hE05)) (own_cells (own_ext o1 hE05)) (by have := o0.1; simpa using this) (by have := o1.1; simpa using this) (by have := hz _ (List.getElem_mem hi0); omega)).mono ?_
    rintro _ w6 ⟨hE6, rfl⟩
    refine ⟨_, rfl, hE05.ext hE6, Br.f (by simp [hz01]) ?_⟩
    rw [w64 (n := (j : Int) + 1) (by omega) (by omega)]
    exact ⟨⟨hE05.ext hE6, j + 1, by omega, by omega⟩, by omega⟩
end
end Go.Proofs.Ytdchpilghgnnoaa
