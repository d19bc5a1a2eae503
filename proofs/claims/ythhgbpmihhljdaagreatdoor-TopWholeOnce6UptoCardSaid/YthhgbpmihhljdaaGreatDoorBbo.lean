/- How a law's walk becomes its row: arguments opened to cells, the bound, what the row asks behind a call that left all as it was. It speaks of any law that says yes. -/
import Derived.Test.YthhgbpmihhljdaaGreatDoorRows
import Derived.WalkKit
import Derived.ProofKit
import Derived.OpenShut
import Derived.JoinedCond
import Derived.WideKeyArgs
import Derived.Test.YthhgbpmihhljdaaGreatDoorBaf
import Derived.Test.YthhgbpmihhljdaaGreatDoorBap
import Derived.Test.YthhgbpmihhljdaaGreatDoorBao
import Derived.Deep.Slices
import Derived.Deep.Fields
import Derived.Test.YthhgbpmihhljdaaGreatDoorBav
import Derived.Lib.LaidTab
import Derived.Test.YthhgbpmihhljdaaGreatDoorBbi
namespace Go.Proofs.YthhgbpmihhljdaaGreatDoor
open Go Go.ChangeShapes Go.WideShapes Go.ChangeAt Go.RowKit Go.Eng

theorem own_knob : ownKnob Tryz.prog.godebug = none := by kernel_rfl
theorem laid_out : laidOutB Tryz.prog = true := by kernel_rfl
theorem cells_byte : Tryz.prog.cellsOf 5 = 1 := by kernel_rfl

theorem bulk_one {H : Type} (d : DataW H) : 1 ≤ Rows.uptoBulk d := by
  cases d with
  | lit l => cases l <;> simp [Rows.uptoBulk]
  | nil => simp [Rows.uptoBulk]
  | ptr d => simp [Rows.uptoBulk]
  | slice elems spare => simp [Rows.uptoBulk]
  | agg parts => simp [Rows.uptoBulk]
  | iface t d => simp [Rows.uptoBulk]
  | map entries => simp [Rows.uptoBulk]
  | held h => simp [Rows.uptoBulk]
theorem bulk_part {H : Type} {d : DataW H} : ∀ {l : List (DataW H)}, d ∈ l → Rows.uptoBulk d ≤ Rows.uptoBulkAll l
  | x :: r, h => by
    simp only [Rows.uptoBulkAll]
    rcases List.mem_cons.1 h with e | e
    · subst e; omega
    · have := bulk_part e; omega
theorem bulk_length {H : Type} : ∀ l : List (DataW H), l.length ≤ Rows.uptoBulkAll l
  | [] => by simp
  | x :: r => by have := bulk_one x; have := bulk_length r; simp only [Rows.uptoBulkAll, List.length_cons]; omega
theorem bulk_slice {H : Type} (elems spare : List (DataW H)) : elems.length + spare.length + 1 ≤ Rows.uptoBulk (.slice elems spare) := by
  have h1 := bulk_length elems
  have h2 := bulk_length spare
  simp only [Rows.uptoBulk]
  omega
theorem small_part {H : Type} {d : DataW H} {l : List (DataW H)} (hk : Rows.uptoSmall H l = true) (h : d ∈ l) : Rows.uptoBulk d ≤ 1048576 := by
  have h1 : Rows.uptoBulkAll l ≤ 1048576 := of_decide_eq_true hk
  exact Nat.le_trans (bulk_part h) h1

section
variable {H : Type} {enc : TypeId × Value → H} {P : Program}
theorem trodAll_stays (hl : laidOutB P = true) {W W' : World} {sp : Nat → Bool} : ∀ {ts : List TypeId} {vs : List Value} {ds : List (DataW H)} {ps : List MemPlace},
    ts.all (fun t => P.readableRec t && decide (t < P.types.size)) = true → DataW.TrodAll enc P W 0 (fun _ => true) true ts vs ds ps →
    (∀ p ∈ ps, W.sameAt W' p) → (∀ p ∈ ps, sp p.block = true) → DataW.TrodAll enc P W' 0 sp true ts vs ds ps
  | [], _, _, _, _, h, _, _ => by
    obtain ⟨rfl, rfl, rfl⟩ := trodAll_nil h
    exact trodAll_mk0
  | t :: ts, _, _, _, hr, h, hs, hp => by
    obtain ⟨v, vs', d, ds', p, q, rfl, rfl, rfl, h1, h2⟩ := trodAll_cons h
    simp only [List.all_cons, Bool.and_eq_true, decide_eq_true_eq] at hr
    refine ⟨p, q, WideElems.Trod_stays hl hr.1.1 hr.1.2 h1 (fun x hx => hs x (List.mem_append_left _ hx)) (fun x hx => hp x (List.mem_append_left _ hx)), ?_, rfl⟩
    exact trodAll_stays hl (by simpa [List.all_eq_true] using hr.2) h2 (fun x hx => hs x (List.mem_append_right _ hx)) (fun x hx => hp x (List.mem_append_right _ hx))
theorem trodAll_len {w : World} {base : Nat} {spare : Nat → Bool} {held : Bool} : ∀ {ts : List TypeId} {vs : List Value} {ds : List (DataW H)} {ps : List MemPlace}, DataW.TrodAll enc P w base spare held ts vs ds ps → ds.length = ts.length
  | [], _, _, _, h => by
    obtain ⟨rfl, rfl, rfl⟩ := trodAll_nil h
    rfl
  | t :: ts, _, _, _, h => by
    obtain ⟨v, vs', d, ds', p, q, rfl, rfl, rfl, h1, h2⟩ := trodAll_cons h
    simp [trodAll_len h2]
/-- Behind a call that said yes and left all as it was. -/
theorem post_yes {f : Func} {s : ChangeSpec} {tb : TypeId} {apart fresh handsOn again : Bool} {W W' : World} {args : Array Value} {ds gs : List (DataW H)} {before : List MemPlace}
    (hl : laidOutB P = true) (hr : f.params.toList.all (fun t => P.readableRec t && decide (t < P.types.size)) = true)
    (hrt : f.resultTypes = #[tb]) (hb : P.underlying tb = some .bool) (hv : s.vars = [])
    (hs : ∀ ds' : List (DataW H), ds'.length = f.params.toList.length → s.fn H ds' = { results := [.lit (.bool true)], args := ds' })
    (hW : DataW.Whole enc P f.params.toList s.vars apart W args.toList ds gs before) (hx : Ext W W') :
    s.post enc P f apart fresh handsOn again W args (.bool true) W' := by
  have hW' := hW
  obtain ⟨p, q, hA, hV, rfl, _, _⟩ := hW
  rw [hv] at hV
  obtain ⟨rfl, rfl⟩ := trodVars_none hV
  have e := hs ds (trodAll_len hA)
  have hlt := DataW.TrodAll.lt hA
  have hB := Mod.below hx
  have hold : ∀ x ∈ p, (fun b => decide (b < W.heap.size)) x.block = true := fun x hx => by simpa using hlt x hx
  have hargs : ∀ sp : Nat → Bool, (∀ x ∈ p, sp x.block = true) → DataW.TrodAll enc P W' 0 sp true f.params.toList args.toList (s.fn H (ds ++ [])).args p := fun sp hsp => by
    rw [List.append_nil, e]
    exact trodAll_stays hl hr hA (fun x hx => hB.same (hlt x hx)) hsp
  have hres : ∀ (b : Nat) (sp : Nat → Bool) (hd : Bool), DataW.TrodAll enc P W' b sp hd f.resultTypes.toList ((Value.bool true).resultList f.resultTypes.size) (s.fn H (ds ++ [])).results [] := fun b sp hd => by
    rw [List.append_nil, e, hrt]
    exact trodAll_mk1 (shut_bool hb _)
  have hvars : ∀ sp : Nat → Bool, DataW.TrodVars enc P W' sp s.vars (s.fn H (ds ++ [])).vars [] := fun sp => by
    rw [List.append_nil, e, hv]; rfl
  refine ⟨ds, [], p ++ [], [], p, [], hW', hres _ _ _, hargs _ (fun x hx => by simpa using hlt x hx), hvars _, World.keptBut_mono (fun x hx => hx.elim) (hB.frame fun _ => False), fun _ => ?_⟩
  obtain ⟨_, _, _, _, _, hz, hn⟩ := hW'
  refine ⟨ok_one hrt rfl (okWide_bool_mk hb _), _, _, ([] ++ p) ++ [], ⟨[] ++ p, [], trodAll_append (hargs _ (fun _ _ => rfl)) (hres _ _ _), hvars _, rfl, ?_, ?_⟩, ?_⟩
  · intro b off hp
    have hp' : MemPlace.cell b off ∈ p := by simpa using hp
    have hfz : W'.frozen? ⟨b, off, none⟩ = W.frozen? ⟨b, off, none⟩ := hB.frozen (by simpa [MemPlace.block] using hlt _ hp')
    rw [hfz]
    exact hz b off (by simpa using hp)
  · intro ha
    simpa using hn ha
  · intro x hx _
    simpa using hx
theorem val_at {ps : Array TypeId} {W : World} {base : Nat} {args : Array Value} (hval : ∀ (j : Nat) t v, ps[j]? = some t → args[j]? = some v → Value.okWide P W .any base t v) (j : Nat) {t : TypeId} {v : Value}
    (h1 : ps[j]? = some t) (h2 : args[j]? = some v) : Value.okWide P W .any base t v := hval j t v h1 h2
/-- An argument that is a slice of whole numbers: its room, as cells. -/
theorem arg_ints {t e : TypeId} {k : IntKind} {W : World} {base : Nat} {v : Value} {d : DataW H} {p : List MemPlace} (ht : P.underlying t = some (.slice e)) (he : P.underlying e = some (.int k)) (hc : P.cellsOf e = 1)
    (hval : Value.okWide P W .any base t v) (h : DataW.Trod enc P W 0 (fun _ => true) true t v d p) :
    ∃ (A : Option Addr) (n c : Nat) (zs : List Int), v = .slice A n c ∧ n ≤ c ∧ zs.length = c ∧ Cells W A (zs.map (.int k)) ∧ (∀ z ∈ zs, (Lit.int k z).wf = true) ∧ (A = none → c = 0) ∧ c ≤ Rows.uptoBulk d := by
  obtain ⟨A, n, c, rfl⟩ := okWide_slice ht hval
  obtain ⟨fuel, hf⟩ := h
  rcases open_ints ht he hc hf with ⟨h1, h2⟩ | ⟨a, len, cap, zs, h1, _, hl, _, hz, hd, hcell, hw⟩
  · simp [Value.cells] at h1
    obtain ⟨rfl, rfl, rfl⟩ := h1
    exact ⟨none, 0, 0, [], rfl, Nat.le_refl _, rfl, Cells.nil _ _, (by simp), fun _ => rfl, Nat.zero_le _⟩
  · simp [Value.cells] at h1
    obtain ⟨rfl, rfl, rfl⟩ := h1
    simp only [if_true] at hz
    refine ⟨some a, n, c, zs, rfl, hl, hz, fun i u hu => ⟨a, rfl, ?_⟩, hw, (by simp), ?_⟩
    · rw [List.getElem?_map] at hu
      have hi : i < zs.length := by
        rcases Nat.lt_or_ge i zs.length with h | h
        · exact h
        · rw [List.getElem?_eq_none h] at hu; simp at hu
      rw [hcell i hi]
      simpa [List.getElem?_eq_getElem hi] using hu
    · have e : d = .slice (lits k (zs.take n)) (lits k (zs.drop n)) := congrArg Prod.fst hd
      rw [e]
      have := bulk_slice (H := H) (lits k (zs.take n)) (lits k (zs.drop n))
      simp only [lits, List.length_map, List.length_take, List.length_drop] at this ⊢
      omega
theorem _root_.Go.Eng.Cells.upto {w : World} {A : Option Addr} {k : IntKind} {zs : List Int} (h : Cells w A (zs.map (.int k))) (n : Nat) : Cells w A ((zs.take n).map (.int k)) := by
  rw [List.map_take]; exact h.take n
theorem bts_upto {zs : List Int} (h : ∀ z ∈ zs, (Lit.int .u8 z).wf = true) (n : Nat) : Bts (zs.take n) := by
  intro x hx
  have := h x (List.mem_of_mem_take hx)
  simp [Lit.wf, IntKind.min, IntKind.max, IntKind.signed, IntKind.bits] at this
  omega
end
end Go.Proofs.YthhgbpmihhljdaaGreatDoor
/- How an argument of any nesting is read: down to its cells, with the bound. -/
namespace Go.Proofs.YthhgbpmihhljdaaGreatDoor
open Go Go.ChangeShapes Go.WideShapes Go.ChangeAt Go.RowKit Go.Eng

/-- These cells read as a value of type t, of bulk at most b. -/
def Rd (P : Program) (W : World) (b : Nat) (t : TypeId) (cs : List Value) : Prop :=
  ∃ (H : Type) (enc : TypeId × Value → H) (n : Nat) (x : DataW H × List MemPlace), DataW.trod enc P W 0 (fun _ => true) true n t cs = some x ∧ Rows.uptoBulk x.1 ≤ b
section
variable {P : Program} {W : World} {b : Nat} {t e : TypeId} {cs : List Value}
theorem Rd.of {H : Type} {enc : TypeId × Value → H} {v : Value} {d : DataW H} {p : List MemPlace} (h : DataW.Trod enc P W 0 (fun _ => true) true t v d p) (hb : Rows.uptoBulk d ≤ b) : Rd P W b t v.cells.toList := by
  obtain ⟨n, hn⟩ := h
  exact ⟨H, enc, n, _, hn, hb⟩
theorem Rd.int {k : IntKind} (ht : P.underlying t = some (.int k)) (h : Rd P W b t cs) : ∃ n, cs = [.int k n] ∧ (Lit.int k n).wf = true := by
  obtain ⟨H, enc, n, x, hx, _⟩ := h
  obtain ⟨m, rfl, _, hw⟩ := DataW.trod_int ht hx
  exact ⟨m, rfl, hw⟩
theorem Rd.bool (ht : P.underlying t = some .bool) (h : Rd P W b t cs) : ∃ x : Bool, cs = [.bool x] := by
  obtain ⟨H, enc, n, x, hx, _⟩ := h
  obtain ⟨m, rfl, _⟩ := DataW.trod_bool ht hx
  exact ⟨m, rfl⟩
theorem Rd.slice (ht : P.underlying t = some (.slice e)) (h : Rd P W b t cs) :
    ∃ (A : Option Addr) (n c : Nat) (rs : List (List Value)), cs = [.slice A n c] ∧ n ≤ c ∧ c ≤ b ∧ (A = none → c = 0) ∧ rs.length = c ∧ Recs W A (P.cellsOf e) rs ∧ ∀ r ∈ rs, r.length = P.cellsOf e ∧ Rd P W b e r := by
  obtain ⟨H, enc, f, x, hx, hb⟩ := h
  rcases Deep.open_slice ht hx with ⟨rfl, rfl⟩ | ⟨a, len, cap, m, n, D, Pl, rfl, _, hl, _, hm, rfl, hel⟩
  · exact ⟨none, 0, 0, [], rfl, Nat.le_refl _, Nat.zero_le _, fun _ => rfl, rfl, fun i cs h => by simp at h, by simp⟩
  · simp only [if_true] at hm
    subst hm
    have hcap : m ≤ b := by
      have := bulk_slice (H := H) ((List.range len).map D) ((List.range (m - len)).map fun j => D (len + j))
      simp only [List.length_map, List.length_range] at this
      simp only at hb
      omega
    have hsub : ∀ i, i < m → Rows.uptoBulk (D i) ≤ b := by
      intro i hi
      have h1 : D i ∈ (List.range len).map D ∨ D i ∈ (List.range (m - len)).map fun j => D (len + j) := by
        by_cases hil : i < len
        · exact .inl (List.mem_map.2 ⟨i, by simpa using hil, rfl⟩)
        · exact .inr (List.mem_map.2 ⟨i - len, by simp; omega, by rw [show len + (i - len) = i by omega]⟩)
      simp only [Rows.uptoBulk] at hb
      rcases h1 with h1 | h1
      · have := bulk_part h1; omega
      · have := bulk_part h1; omega
    refine ⟨some a, len, m, (List.range m).map fun i => (W.cells? 0 (a.add (i * P.cellsOf e)) (P.cellsOf e)).getD [], rfl, hl, hcap, by simp, by simp, ?_, ?_⟩
    · intro i cs hi
      rw [List.getElem?_map] at hi
      have him : i < m := by
        rcases Nat.lt_or_ge i m with h | h
        · exact h
        · rw [List.getElem?_eq_none (by simpa using h)] at hi; cases hi
      rw [List.getElem?_range him] at hi
      obtain ⟨cs', hc, _⟩ := hel i him
      simp [hc] at hi
      subst hi
      obtain ⟨_, hlen, hat⟩ := World.cells?_some hc
      refine ⟨a, rfl, CellsAt.of _ 0 fun j v hv => ?_⟩
      have hj : j < P.cellsOf e := by rw [← hlen]; exact (List.getElem?_eq_some_iff.1 hv).1
      rw [Nat.zero_add, hat j hj, hv]
    · intro r hr
      obtain ⟨i, hi, rfl⟩ := List.mem_map.1 hr
      have him : i < m := by simpa using hi
      obtain ⟨cs', hc, ht'⟩ := hel i him
      rw [hc]
      exact ⟨(World.cells?_some hc).2.1, H, enc, n, _, ht', hsub i him⟩
theorem Rd.struct {fs : Array Field} (ht : P.underlying t = some (.struct fs)) (h : Rd P W b t cs) :
    cs.length = P.cellsOf t ∧ ∀ (i : Nat) (f : Field), fs[i]? = some f → Rd P W b f.type ((cs.drop f.offset).take (P.cellsOf f.type)) := by
  obtain ⟨H, enc, n, x, hx, hb⟩ := h
  obtain ⟨xs, n', _, rfl, hl, hlen, hf⟩ := DataW.trod_struct ht hx
  refine ⟨hl, fun i f hi => ?_⟩
  have hix : i < xs.length := by rw [hlen]; exact (Array.getElem?_eq_some_iff.1 hi).1
  refine ⟨H, enc, n', xs[i], ?_, ?_⟩
  · rw [hf i f hi, List.getElem?_eq_getElem hix]
  · have h1 := bulk_part (d := xs[i].1) (l := xs.map (·.1)) (List.mem_map.2 ⟨xs[i], List.getElem_mem hix, rfl⟩)
    simp only [Rows.uptoBulk] at hb
    omega
/-- A slice of whole numbers. -/
theorem Rd.ints {k : IntKind} (ht : P.underlying t = some (.slice e)) (he : P.underlying e = some (.int k)) (hc : P.cellsOf e = 1) (h : Rd P W b t cs) :
    ∃ (A : Option Addr) (n c : Nat) (zs : List Int), cs = [.slice A n c] ∧ n ≤ c ∧ c ≤ b ∧ (A = none → c = 0) ∧ zs.length = c ∧ Cells W A (zs.map (.int k)) ∧ ∀ z ∈ zs, (Lit.int k z).wf = true := by
  obtain ⟨A, n, c, rs, rfl, hn, hb, hA, hl, hr, hel⟩ := h.slice ht
  rw [hc] at hr
  have hone : ∀ r ∈ rs, ∃ z, r = [.int k z] ∧ (Lit.int k z).wf = true := fun r hr' => (hel r hr').2.int he
  refine ⟨A, n, c, rs.map fun r => match r with | [.int _ z] => z | _ => 0, rfl, hn, hb, hA, by simpa using hl, ?_, ?_⟩
  · intro i v hv
    rw [List.map_map, List.getElem?_map] at hv
    have hi : i < rs.length := by
      rcases Nat.lt_or_ge i rs.length with h | h
      · exact h
      · rw [List.getElem?_eq_none h] at hv; cases hv
    rw [List.getElem?_eq_getElem hi] at hv
    obtain ⟨z, hz, _⟩ := hone _ (List.getElem_mem hi)
    obtain ⟨a, ha, hcell⟩ := hr i _ (List.getElem?_eq_getElem hi)
    rw [hz] at hcell hv
    simp at hv
    subst hv
    refine ⟨a, ha, ?_⟩
    have := hcell.1
    rwa [add_zero, Nat.mul_one] at this
  · intro z hz
    obtain ⟨r, hr', rfl⟩ := List.mem_map.1 hz
    obtain ⟨z, rfl, hw⟩ := hone r hr'
    exact hw
end
theorem wf_u8 {z : Int} (h : (Lit.int .u8 z).wf = true) : 0 ≤ z ∧ z < 256 := by
  simp [Lit.wf, IntKind.min, IntKind.max, IntKind.signed, IntKind.bits] at h
  omega

set_option maxRecDepth 100000 in
/-- A script of looks, as an argument. -/
theorem Rd.array {P : Program} {W : World} {b n : Nat} {t e : TypeId} {cs : List Value} (ht : P.underlying t = some (.array n e)) (h : Rd P W b t cs) :
    cs.length = P.cellsOf t ∧ ∀ i, i < n → Rd P W b e ((cs.drop (i * P.cellsOf e)).take (P.cellsOf e)) := by
  obtain ⟨H, enc, f, x, hx, hb⟩ := h
  obtain ⟨xs, m, _, rfl, hl, hlen, hf⟩ := DataW.trod_array ht hx
  refine ⟨hl, fun i hi => ?_⟩
  have hix : i < xs.length := by omega
  refine ⟨H, enc, m, xs[i], ?_, ?_⟩
  · rw [hf i hi, List.getElem?_eq_getElem hix]
  · have h1 := bulk_part (d := xs[i].1) (l := xs.map (·.1)) (List.mem_map.2 ⟨xs[i], List.getElem_mem hix, rfl⟩)
    simp only [Rows.uptoBulk] at hb
    omega
end Go.Proofs.YthhgbpmihhljdaaGreatDoor
/- How long the lists of a datagram may be. -/
namespace Go.Eng
open Go Go.RowKit
def SmallE (b : Nat) (r : ExtR) : Prop := r.v.data.n ≤ b ∧ r.v.opts.n ≤ b ∧ ∀ o ∈ r.opts, o.v.data.n ≤ b
def Small6 (b : Nat) (h : Ip6V) (es : List ExtR) : Prop := h.data.n ≤ b ∧ h.exts.n ≤ b ∧ ∀ r ∈ es, SmallE b r
end Go.Eng
/- Options, headers and datagrams as arguments. -/
namespace Go.Eng
theorem exists_map {α β : Type} {f : α → β} {Q : α → Prop} : ∀ (l : List β), (∀ y ∈ l, ∃ x, y = f x ∧ Q x) → ∃ xs : List α, l = xs.map f ∧ ∀ x ∈ xs, Q x
  | [], _ => ⟨[], rfl, fun _ h => by cases h⟩
  | y :: l, h => by
    obtain ⟨x, hx, hq⟩ := h y (by simp)
    obtain ⟨xs, hxs, hqs⟩ := exists_map l fun z hz => h z (by simp [hz])
    exact ⟨x :: xs, by rw [List.map_cons, ← hx, ← hxs], fun z hz => by
      rcases List.mem_cons.1 hz with rfl | hz
      · exact hq
      · exact hqs z hz⟩
theorem cutN {α : Type} {cs xs : List α} {i n : Nat} (h : (cs.drop i).take n = xs) : cs.drop i = xs ++ cs.drop (i + n) := by
  rw [← h, ← List.drop_drop, List.take_append_drop]
end Go.Eng
namespace Go.Proofs.YthhgbpmihhljdaaGreatDoor
open Go Go.ChangeShapes Go.WideShapes Go.ChangeAt Go.RowKit Go.Eng
section
variable {W : World} {b : Nat} {cs : List Value}
theorem rd_bytes (hb : b ≤ 4000000) (h : Rd Tryz.prog W b 28 cs) : ∃ (s : Sl) (l : List Int), cs = [s.val] ∧ BytesAt W s l ∧ s.n ≤ b := by
  obtain ⟨A, n, c, zs, rfl, hn, hcb, -, hl, hc, hwf⟩ := h.ints Tryz.underlying28 Tryz.underlying5 cells_byte
  exact ⟨⟨A, n, c⟩, zs.take n, rfl, ⟨by simp; omega, hn, by show n ≤ 4000000; omega, bts_upto hwf n, Cells.upto hc n⟩, by show n ≤ b; omega⟩
theorem recs_take {A : Option Addr} {size : Nat} {rs : List (List Value)} (h : Recs W A size rs) (n : Nat) : Recs W A size (rs.take n) := fun i cs hi => by
  rw [List.getElem?_take] at hi
  split at hi
  · exact h i cs hi
  · cases hi
set_option maxRecDepth 100000 in
theorem rd_opt (hb : b ≤ 4000000) (h : Rd Tryz.prog W b 127 cs) : ∃ r : OptR, cs = r.v.cells ∧ BytesAt W r.v.data r.data ∧ r.v.data.n ≤ b := by
  have c2 : Tryz.prog.cellsOf 127 = 2 := by kernel_rfl
  have ci : Tryz.prog.cellsOf 3 = 1 := by kernel_rfl
  have cb : Tryz.prog.cellsOf 28 = 1 := by kernel_rfl
  obtain ⟨hl, hf⟩ := h.struct Tryz.underlying127
  have f0 : Rd Tryz.prog W b 3 ((cs.drop 0).take (Tryz.prog.cellsOf 3)) := hf 0 _ rfl
  have f1 : Rd Tryz.prog W b 28 ((cs.drop 1).take (Tryz.prog.cellsOf 28)) := hf 1 _ rfl
  rw [ci] at f0
  rw [cb] at f1
  obtain ⟨k, e0, -⟩ := f0.int Tryz.underlying3
  obtain ⟨s, l, e1, hB⟩ := rd_bytes hb f1
  refine ⟨⟨⟨k, s⟩, l⟩, ?_, hB.1, hB.2⟩
  have h2 : cs.drop 2 = [] := List.drop_of_length_le (by rw [hl, c2]; omega)
  rw [← List.drop_zero (l := cs), cutN e0, cutN e1, h2]
  rfl
theorem rd_opts (hb : b ≤ 4000000) (h : Rd Tryz.prog W b 54 cs) : ∃ (s : Sl) (rs : List OptR), cs = [s.val] ∧ OptsAt W s rs ∧ s.n ≤ b ∧ ∀ r ∈ rs, r.v.data.n ≤ b := by
  have c2 : Tryz.prog.cellsOf 127 = 2 := by kernel_rfl
  obtain ⟨A, n, c, rs, rfl, hn, hcb, -, hl, hr, hel⟩ := h.slice Tryz.underlying54
  rw [c2] at hr
  obtain ⟨xs, hxs, hq⟩ := exists_map (f := fun r : OptR => r.v.cells) (Q := fun r => BytesAt W r.v.data r.data ∧ r.v.data.n ≤ b) (rs.take n) fun y hy => rd_opt hb (hel y (List.mem_of_mem_take hy)).2
  refine ⟨⟨A, n, c⟩, xs, rfl, ⟨?_, hn, by show n ≤ 4000000; omega, ?_, fun r hr => (hq r hr).1⟩, by show n ≤ b; omega, fun r hr => (hq r hr).2⟩
  · have := congrArg List.length hxs; simp at this; show xs.length = n; omega
  · rw [← hxs]; exact recs_take hr n
set_option maxRecDepth 100000 in
theorem rd_ext (hb : b ≤ 4000000) (h : Rd Tryz.prog W b 56 cs) : ∃ r : ExtR, cs = r.v.cells ∧ OptsAt W r.v.opts r.opts ∧ BytesAt W r.v.data r.data ∧ SmallE b r := by
  have c3 : Tryz.prog.cellsOf 56 = 3 := by kernel_rfl
  have ci : Tryz.prog.cellsOf 3 = 1 := by kernel_rfl
  have cb : Tryz.prog.cellsOf 28 = 1 := by kernel_rfl
  have co : Tryz.prog.cellsOf 54 = 1 := by kernel_rfl
  obtain ⟨hl, hf⟩ := h.struct Tryz.underlying56
  have f0 : Rd Tryz.prog W b 3 ((cs.drop 0).take (Tryz.prog.cellsOf 3)) := hf 0 _ rfl
  have f1 : Rd Tryz.prog W b 54 ((cs.drop 1).take (Tryz.prog.cellsOf 54)) := hf 1 _ rfl
  have f2 : Rd Tryz.prog W b 28 ((cs.drop 2).take (Tryz.prog.cellsOf 28)) := hf 2 _ rfl
  rw [ci] at f0
  rw [co] at f1
  rw [cb] at f2
  obtain ⟨k, e0, -⟩ := f0.int Tryz.underlying3
  obtain ⟨so, os, e1, hO⟩ := rd_opts hb f1
  obtain ⟨s, l, e2, hB⟩ := rd_bytes hb f2
  refine ⟨⟨⟨k, so, s⟩, os, l⟩, ?_, hO.1, hB.1, hB.2, hO.2⟩
  have h2 : cs.drop 3 = [] := List.drop_of_length_le (by rw [hl, c3]; omega)
  rw [← List.drop_zero (l := cs), cutN e0, cutN e1, cutN e2, h2]
  rfl
theorem rd_exts (hb : b ≤ 4000000) (h : Rd Tryz.prog W b 25 cs) : ∃ (s : Sl) (rs : List ExtR), cs = [s.val] ∧ ExtsAt W s rs ∧ s.n ≤ b ∧ ∀ r ∈ rs, SmallE b r := by
  have c3 : Tryz.prog.cellsOf 56 = 3 := by kernel_rfl
  obtain ⟨A, n, c, rs, rfl, hn, hcb, -, hl, hr, hel⟩ := h.slice Tryz.underlying25
  rw [c3] at hr
  obtain ⟨xs, hxs, hq⟩ := exists_map (f := fun r : ExtR => r.v.cells) (Q := fun r => OptsAt W r.v.opts r.opts ∧ BytesAt W r.v.data r.data ∧ SmallE b r) (rs.take n) fun y hy => rd_ext hb (hel y (List.mem_of_mem_take hy)).2
  refine ⟨⟨A, n, c⟩, xs, rfl, ⟨?_, hn, by show n ≤ 4000000; omega, ?_, fun r hr => (hq r hr).1, fun r hr => (hq r hr).2.1⟩, by show n ≤ b; omega, fun r hr => (hq r hr).2.2⟩
  · have := congrArg List.length hxs; simp at this; show xs.length = n; omega
  · rw [← hxs]; exact recs_take hr n
set_option maxRecDepth 100000 in
theorem rd_ip (h : Rd Tryz.prog W b 24 cs) : ∃ q : IPV, cs = q.cells ∧ Bts q.bytes := by
  have c17 : Tryz.prog.cellsOf 24 = 17 := by kernel_rfl
  obtain ⟨hl, hf⟩ := h.struct Tryz.underlying24
  have ci : Tryz.prog.cellsOf 3 = 1 := by kernel_rfl
  have cu : Tryz.prog.cellsOf 5 = 1 := by kernel_rfl
  have ca : Tryz.prog.cellsOf 22 = 16 := by kernel_rfl
  have f0 : Rd Tryz.prog W b 3 ((cs.drop 0).take (Tryz.prog.cellsOf 3)) := hf 0 _ rfl
  have f1 : Rd Tryz.prog W b 22 ((cs.drop 1).take (Tryz.prog.cellsOf 22)) := hf 1 _ rfl
  rw [ci] at f0
  rw [ca] at f1
  obtain ⟨-, fa⟩ := f1.array Tryz.underlying22
  rw [cu] at fa
  rw [c17] at hl
  match cs, hl with
  | [x, y0, y1, y2, y3, y4, y5, y6, y7, y8, y9, y10, y11, y12, y13, y14, y15], _ =>
    simp only [List.drop_zero, List.take_succ_cons, List.take_zero, List.drop_succ_cons] at f0 fa
    obtain ⟨k, e, -⟩ := f0.int Tryz.underlying3
    have g : ∀ i (hi : i < 16) (u : Value), [y0, y1, y2, y3, y4, y5, y6, y7, y8, y9, y10, y11, y12, y13, y14, y15][i]? = some u → ∃ z, u = .int .u8 z ∧ 0 ≤ z ∧ z < 256 := fun i hi u hu => by
      have h1 := fa i hi
      rw [Nat.mul_one] at h1
      have h2 : (([y0, y1, y2, y3, y4, y5, y6, y7, y8, y9, y10, y11, y12, y13, y14, y15].drop i).take 1) = [u] := by
        rw [List.take_one, List.head?_drop, hu]; rfl
      rw [h2] at h1
      obtain ⟨z, hz, hw⟩ := h1.int Tryz.underlying5
      exact ⟨z, by simpa using hz, wf_u8 hw⟩
    obtain ⟨z0, rfl, w0⟩ := g 0 (by decide) _ rfl
    obtain ⟨z1, rfl, w1⟩ := g 1 (by decide) _ rfl
    obtain ⟨z2, rfl, w2⟩ := g 2 (by decide) _ rfl
    obtain ⟨z3, rfl, w3⟩ := g 3 (by decide) _ rfl
    obtain ⟨z4, rfl, w4⟩ := g 4 (by decide) _ rfl
    obtain ⟨z5, rfl, w5⟩ := g 5 (by decide) _ rfl
    obtain ⟨z6, rfl, w6⟩ := g 6 (by decide) _ rfl
    obtain ⟨z7, rfl, w7⟩ := g 7 (by decide) _ rfl
    obtain ⟨z8, rfl, w8⟩ := g 8 (by decide) _ rfl
    obtain ⟨z9, rfl, w9⟩ := g 9 (by decide) _ rfl
    obtain ⟨z10, rfl, w10⟩ := g 10 (by decide) _ rfl
    obtain ⟨z11, rfl, w11⟩ := g 11 (by decide) _ rfl
    obtain ⟨z12, rfl, w12⟩ := g 12 (by decide) _ rfl
    obtain ⟨z13, rfl, w13⟩ := g 13 (by decide) _ rfl
    obtain ⟨z14, rfl, w14⟩ := g 14 (by decide) _ rfl
    obtain ⟨z15, rfl, w15⟩ := g 15 (by decide) _ rfl
    simp only [List.cons.injEq, and_true] at e
    subst e
    refine ⟨⟨k, z0, z1, z2, z3, z4, z5, z6, z7, z8, z9, z10, z11, z12, z13, z14, z15⟩, rfl, fun z hz => ?_⟩
    simp only [IPV.bytes, List.mem_cons, List.not_mem_nil, or_false] at hz
    rcases hz with rfl | rfl | rfl | rfl | rfl | rfl | rfl | rfl | rfl | rfl | rfl | rfl | rfl | rfl | rfl | rfl <;> assumption
set_option maxRecDepth 100000 in
theorem rd_frag (h : Rd Tryz.prog W b 27 cs) : ∃ f : FragV, cs = f.cells := by
  have c4 : Tryz.prog.cellsOf 27 = 4 := by kernel_rfl
  have ci : Tryz.prog.cellsOf 3 = 1 := by kernel_rfl
  have cbo : Tryz.prog.cellsOf 4 = 1 := by kernel_rfl
  obtain ⟨hl, hf⟩ := h.struct Tryz.underlying27
  have f0 : Rd Tryz.prog W b 4 ((cs.drop 0).take (Tryz.prog.cellsOf 4)) := hf 0 _ rfl
  have f1 : Rd Tryz.prog W b 4 ((cs.drop 1).take (Tryz.prog.cellsOf 4)) := hf 1 _ rfl
  have f2 : Rd Tryz.prog W b 3 ((cs.drop 2).take (Tryz.prog.cellsOf 3)) := hf 2 _ rfl
  have f3 : Rd Tryz.prog W b 3 ((cs.drop 3).take (Tryz.prog.cellsOf 3)) := hf 3 _ rfl
  rw [ci] at f2 f3
  rw [cbo] at f0 f1
  obtain ⟨k0, e0⟩ := f0.bool Tryz.underlying4
  obtain ⟨k1, e1⟩ := f1.bool Tryz.underlying4
  obtain ⟨k2, e2, -⟩ := f2.int Tryz.underlying3
  obtain ⟨k3, e3, -⟩ := f3.int Tryz.underlying3
  refine ⟨⟨k0, k1, k2, k3⟩, ?_⟩
  have h2 : cs.drop 4 = [] := List.drop_of_length_le (by rw [hl, c4]; omega)
  rw [← List.drop_zero (l := cs), cutN e0, cutN e1, cutN e2, cutN e3, h2]
  rfl
set_option maxRecDepth 100000 in
theorem rd_ip6 (hb : b ≤ 4000000) (h : Rd Tryz.prog W b 30 cs) : ∃ (h : Ip6V) (es : List ExtR) (data : List Int), cs = h.cells ∧ Ip6At W h es data ∧ Small6 b h es := by
  have c44 : Tryz.prog.cellsOf 30 = 44 := by kernel_rfl
  have ci : Tryz.prog.cellsOf 3 = 1 := by kernel_rfl
  have cf : Tryz.prog.cellsOf 27 = 4 := by kernel_rfl
  have cp : Tryz.prog.cellsOf 24 = 17 := by kernel_rfl
  have cb : Tryz.prog.cellsOf 28 = 1 := by kernel_rfl
  have ce : Tryz.prog.cellsOf 25 = 1 := by kernel_rfl
  obtain ⟨hl, hf⟩ := h.struct Tryz.underlying30
  have f0 : Rd Tryz.prog W b 3 ((cs.drop 0).take (Tryz.prog.cellsOf 3)) := hf 0 _ rfl
  have f1 : Rd Tryz.prog W b 3 ((cs.drop 1).take (Tryz.prog.cellsOf 3)) := hf 1 _ rfl
  have f2 : Rd Tryz.prog W b 3 ((cs.drop 2).take (Tryz.prog.cellsOf 3)) := hf 2 _ rfl
  have f3 : Rd Tryz.prog W b 24 ((cs.drop 3).take (Tryz.prog.cellsOf 24)) := hf 3 _ rfl
  have f4 : Rd Tryz.prog W b 24 ((cs.drop 20).take (Tryz.prog.cellsOf 24)) := hf 4 _ rfl
  have f5 : Rd Tryz.prog W b 25 ((cs.drop 37).take (Tryz.prog.cellsOf 25)) := hf 5 _ rfl
  have f6 : Rd Tryz.prog W b 27 ((cs.drop 38).take (Tryz.prog.cellsOf 27)) := hf 6 _ rfl
  have f7 : Rd Tryz.prog W b 3 ((cs.drop 42).take (Tryz.prog.cellsOf 3)) := hf 7 _ rfl
  have f8 : Rd Tryz.prog W b 28 ((cs.drop 43).take (Tryz.prog.cellsOf 28)) := hf 8 _ rfl
  rw [ci] at f0 f1 f2 f7
  rw [cp] at f3 f4
  rw [ce] at f5
  rw [cf] at f6
  rw [cb] at f8
  obtain ⟨k0, e0, -⟩ := f0.int Tryz.underlying3
  obtain ⟨k1, e1, -⟩ := f1.int Tryz.underlying3
  obtain ⟨k2, e2, -⟩ := f2.int Tryz.underlying3
  obtain ⟨q1, e3, b1⟩ := rd_ip f3
  obtain ⟨q2, e4, b2⟩ := rd_ip f4
  obtain ⟨se, es, e5, hX⟩ := rd_exts hb f5
  obtain ⟨fr, e6⟩ := rd_frag f6
  obtain ⟨k7, e7, -⟩ := f7.int Tryz.underlying3
  obtain ⟨s, l, e8, hB⟩ := rd_bytes hb f8
  refine ⟨⟨k0, k1, k2, q1, q2, se, fr, k7, s⟩, es, l, ?_, ⟨hX.1, hB.1, b1, b2⟩, hB.2, hX.2⟩
  have h2 : cs.drop 44 = [] := List.drop_of_length_le (by rw [hl, c44]; omega)
  rw [← List.drop_zero (l := cs), cutN e0, cutN e1, cutN e2, cutN e3, cutN e4, cutN e5, cutN e6, cutN e7, cutN e8, h2]
  rfl
end
set_option maxRecDepth 100000 in
theorem arg_ip6s {W : World} {base : Nat} {v : Value} {H : Type} {enc : TypeId × Value → H} {d : DataW H} {p : List MemPlace} (hval : Value.okWide Tryz.prog W .any base 30 v)
    (h : DataW.Trod enc Tryz.prog W 0 (fun _ => true) true 30 v d p) (hb : Rows.uptoBulk d ≤ 1048576) : ∃ (h : Ip6V) (es : List ExtR) (data : List Int), v = h.val ∧ Ip6At W h es data ∧ Small6 1048576 h es := by
  obtain ⟨cs, rfl, hsz⟩ := okWide_struct Tryz.underlying30 hval
  obtain ⟨h, es, data, hc, hA⟩ := rd_ip6 (by omega) (Rd.of h hb)
  have hc : cs.toList = h.cells := hc
  exact ⟨h, es, data, by rw [show cs = cs.toList.toArray by simp, hc]; rfl, hA⟩
set_option maxRecDepth 100000 in
theorem arg_ip6 {W : World} {base : Nat} {v : Value} {H : Type} {enc : TypeId × Value → H} {d : DataW H} {p : List MemPlace} (hval : Value.okWide Tryz.prog W .any base 30 v)
    (h : DataW.Trod enc Tryz.prog W 0 (fun _ => true) true 30 v d p) (hb : Rows.uptoBulk d ≤ 1048576) : ∃ (h : Ip6V) (es : List ExtR) (data : List Int), v = h.val ∧ Ip6At W h es data := by
  obtain ⟨h, es, data, e, hA, _⟩ := arg_ip6s hval h hb
  exact ⟨h, es, data, e, hA⟩
end Go.Proofs.YthhgbpmihhljdaaGreatDoor
/- The tables of kinds and of widths, as the row lists them. -/
namespace Go.Proofs.YthhgbpmihhljdaaGreatDoor
open Go Go.ChangeShapes Go.WideShapes Go.ChangeAt Go.RowKit Go.Eng
def pairD {H : Type} (a b : Int) : DataW H := .agg [.lit (.int .i64 a), .lit (.int .i64 b)]
def knownD {H : Type} : DataW H := .agg [pairD 0 1, pairD 43 2, pairD 44 3, pairD 60 1]
theorem knownD_eq {H : Type} : (Rows.laid_weir_ip6_known : DataW H) = knownD := rfl
section
variable {H : Type} {enc : TypeId × Value → H} {W : World} {base : Nat} {sp : Nat → Bool} {held : Bool}
theorem pair_cells {fuel : Nat} {cs : List Value} {x : DataW H × List MemPlace} {a b : Int} (h : DataW.trod enc Tryz.prog W base sp held fuel 139 cs = some x) (hx : x.1 = pairD a b) : cs = [.int .i64 a, .int .i64 b] := by
  have c2 : Tryz.prog.cellsOf 139 = 2 := by kernel_rfl
  have ci : Tryz.prog.cellsOf 3 = 1 := by kernel_rfl
  obtain ⟨ys, m, rfl, rfl, hl, hlen, hf⟩ := DataW.trod_struct Tryz.underlying139 h
  have hlen : ys.length = 2 := hlen
  have f0 : DataW.trod enc Tryz.prog W base sp held m 3 ((cs.drop 0).take (Tryz.prog.cellsOf 3)) = ys[0]? := hf 0 _ rfl
  have f1 : DataW.trod enc Tryz.prog W base sp held m 3 ((cs.drop 1).take (Tryz.prog.cellsOf 3)) = ys[1]? := hf 1 _ rfl
  rw [ci] at f0 f1
  rw [c2] at hl
  match ys, hlen with
  | [y0, y1], _ =>
    simp only [pairD, List.map_cons, List.map_nil, DataW.agg.injEq, List.cons.injEq, and_true] at hx
    obtain ⟨h0, h1⟩ := hx
    obtain ⟨k0, e0, q0, -⟩ := DataW.trod_int Tryz.underlying3 (f0.trans rfl)
    obtain ⟨k1, e1, q1, -⟩ := DataW.trod_int Tryz.underlying3 (f1.trans rfl)
    have g0 : k0 = a := by rw [q0] at h0; simpa using h0
    have g1 : k1 = b := by rw [q1] at h1; simpa using h1
    subst g0; subst g1
    rw [← List.drop_zero (l := cs), cutN e0, cutN e1, List.drop_of_length_le (by omega)]
    rfl
end
set_option maxRecDepth 100000 in
theorem known_of {W : World} {cs : Array Value} {fuel : Nat} {p : List MemPlace} (hvar : W.var? Tryz.prog "weir/ip6.known" = some cs)
    (hd : DataW.trod (fun _ => ()) Tryz.prog W 0 (fun _ => true) false fuel 140 cs.toList = some (Rows.laid_weir_ip6_known, p)) : N6.Kn W := by
  have hg : Tryz.prog.globalNamed "weir/ip6.known" = some 0 := by kernel_rfl
  have c2 : Tryz.prog.cellsOf 139 = 2 := by kernel_rfl
  have c8 : Tryz.prog.cellsOf 140 = 8 := by kernel_rfl
  obtain ⟨xs, n, q, hx, hl, hlen, hf⟩ := DataW.trod_array Tryz.underlying140 hd
  rw [c8] at hl
  rw [c2] at hf
  have hD : (knownD : DataW Unit) = .agg (xs.map (·.1)) := by rw [← knownD_eq]; exact congrArg Prod.fst hx
  unfold knownD at hD
  injection hD with hD
  match xs, hlen with
  | [x0, x1, x2, x3], _ =>
    simp only [List.map_cons, List.map_nil, List.cons.injEq, and_true] at hD
    obtain ⟨h0, h1, h2, h3⟩ := hD
    have k0 := pair_cells (hf 0 (by decide)) h0.symm
    have k1 := pair_cells (hf 1 (by decide)) h1.symm
    have k2 := pair_cells (hf 2 (by decide)) h2.symm
    have k3 := pair_cells (hf 3 (by decide)) h3.symm
    have hL : cs.toList = N6.knownL := by
      rw [← List.drop_zero (l := cs.toList), cutN k0, cutN k1, cutN k2, cutN k3, List.drop_of_length_le (by omega)]
      rfl
    refine CellsAt.of N6.knownL 0 fun j v hv => ?_
    have := World.var?_cell hg hvar j
    rw [addr_add, Nat.zero_add, Nat.zero_add, this, ← hv, ← hL]
    simp
theorem known_tab {W : World} {rest : List (String × DataW Unit)} (h : laidMet Tryz.prog (("weir/ip6.known", Rows.laid_weir_ip6_known) :: rest) W) : N6.Kn W := by
  obtain ⟨ps, ⟨g', t', cs, fuel, p, q, hg', ht', hvar, hd, _, _⟩, _⟩ := h
  have hg : Tryz.prog.globalNamed "weir/ip6.known" = some 0 := by kernel_rfl
  have hty : (Tryz.prog.globals[0]?).map (·.type) = some 140 := by kernel_rfl
  obtain rfl := Option.some.inj (hg.symm.trans hg')
  obtain rfl := Option.some.inj (hty.symm.trans ht')
  exact known_of hvar hd
end Go.Proofs.YthhgbpmihhljdaaGreatDoor
/- Lists of datagrams, and of whole numbers, as arguments. -/
namespace Go.Proofs.YthhgbpmihhljdaaGreatDoor
open Go Go.ChangeShapes Go.WideShapes Go.ChangeAt Go.RowKit Go.Eng N6
section
variable {W : World} {cs : List Value}
set_option maxRecDepth 100000 in
theorem rd_l6 (h : Rd Tryz.prog W 1048576 32 cs) : ∃ (s : Sl) (rs : List R6), cs = [s.val] ∧ L6At W s rs := by
  have c3 : Tryz.prog.cellsOf 30 = 44 := by kernel_rfl
  obtain ⟨A, n, c, rs, rfl, hn, hcb, -, hl, hr, hel⟩ := h.slice Tryz.underlying32
  rw [c3] at hr
  obtain ⟨xs, hxs, hat⟩ := exists_map (f := fun r : R6 => r.v.cells) (Q := fun r => Ip6At W r.v r.exts r.data) (rs.take n) fun y hy => by
    obtain ⟨v, es, data, hc, hA, -⟩ := rd_ip6 (by decide) (hel y (List.mem_of_mem_take hy)).2
    exact ⟨⟨v, es, data⟩, hc, hA⟩
  refine ⟨⟨A, n, c⟩, xs, rfl, ?_, by show n ≤ 4000000; omega, ?_, hat⟩
  · have := congrArg List.length hxs; simp at this; show xs.length = n; omega
  · have := recs_take hr n
    rw [hxs] at this; exact this
end
section
variable {W : World} {base : Nat} {v : Value} {H : Type} {enc : TypeId × Value → H} {d : DataW H} {p : List MemPlace}
set_option maxRecDepth 100000 in
theorem arg_l6 (hval : Value.okWide Tryz.prog W .any base 32 v) (h : DataW.Trod enc Tryz.prog W 0 (fun _ => true) true 32 v d p) (hb : Rows.uptoBulk d ≤ 1048576) : ∃ (s : Sl) (rs : List R6), v = s.val ∧ L6At W s rs := by
  obtain ⟨A, n, c, rfl⟩ := okWide_slice Tryz.underlying32 hval
  obtain ⟨s, rs, hc, hT⟩ := rd_l6 (Rd.of h hb)
  have hc : [Value.slice A n c] = [s.val] := hc
  injection hc with hc
  exact ⟨s, rs, hc, hT⟩
set_option maxRecDepth 100000 in
theorem arg_li (hval : Value.okWide Tryz.prog W .any base 31 v) (h : DataW.Trod enc Tryz.prog W 0 (fun _ => true) true 31 v d p) (hb : Rows.uptoBulk d ≤ 1048576) : ∃ (s : Sl) (zs : List Int), v = s.val ∧ Cells W s.A (zs.map (.int .i64)) ∧ zs.length = s.n ∧ s.n ≤ 1048576 := by
  obtain ⟨A, n, c, zs, rfl, hn, hl, hc, -, -, hcb⟩ := arg_ints Tryz.underlying31 Tryz.underlying3 (by kernel_rfl) hval h
  exact ⟨⟨A, n, c⟩, zs.take n, rfl, Cells.upto hc n, by simp; omega, by show n ≤ 1048576; omega⟩
end
end Go.Proofs.YthhgbpmihhljdaaGreatDoor
