/- How a law's walk becomes its row: arguments opened to cells, the bound, what the row asks behind a call that left all as it was. It speaks of any law that says yes. -/
import Derived.Test.YtjngdcilnipjcaaDoorRows
import Derived.WalkKit
import Derived.ProofKit
import Derived.OpenShut
import Derived.JoinedCond
import Derived.WideKeyArgs
import Derived.Test.YtjngdcilnipjcaaDoorMem
import Derived.Test.YtjngdcilnipjcaaDoorPlain
namespace Go.Proofs.YtjngdcilnipjcaaDoor
open Go Go.ChangeShapes Go.WideShapes Go.ChangeAt Go.RowKit Go.Eng

theorem own_knob : ownKnob Tryd.prog.godebug = none := by kernel_rfl
theorem laid_out : laidOutB Tryd.prog = true := by kernel_rfl
theorem cells_int : Tryd.prog.cellsOf 3 = 1 := by kernel_rfl
theorem cells_byte : Tryd.prog.cellsOf 5 = 1 := by kernel_rfl

theorem bulk_one {H : Type} (d : DataW H) : 1 ≤ Rows.uptoBulk d := by
  cases d with
  | lit l => cases l <;> simp [Rows.uptoBulk]
  | nil => simp [Rows.uptoBulk]
  | ptr d => simp [Rows.uptoBulk]
  | slice elems spare => simp [Rows.uptoBulk]
  | agg parts => simp [Rows.uptoBulk]
  | iface t d => simp [Rows.uptoBulk]
  | map entries => simp [Rows.uptoBulk]
  | held h => simp [Rows.uptoBulk]
theorem bulk_part {H : Type} {d : DataW H} : ∀ {l : List (DataW H)}, d ∈ l → Rows.uptoBulk d ≤ Rows.uptoBulkAll l
  | x :: r, h => by
    simp only [Rows.uptoBulkAll]
    rcases List.mem_cons.1 h with e | e
    · subst e; omega
    · have := bulk_part e; omega
theorem bulk_length {H : Type} : ∀ l : List (DataW H), l.length ≤ Rows.uptoBulkAll l
  | [] => by simp
  | x :: r => by have := bulk_one x; have := bulk_length r; simp only [Rows.uptoBulkAll, List.length_cons]; omega
theorem bulk_slice {H : Type} (elems spare : List (DataW H)) : elems.length + spare.length + 1 ≤ Rows.uptoBulk (.slice elems spare) := by
  have h1 := bulk_length elems
  have h2 := bulk_length spare
  simp only [Rows.uptoBulk]
  omega
theorem small_part {H : Type} {d : DataW H} {l : List (DataW H)} (hk : Rows.uptoSmall H l = true) (h : d ∈ l) : Rows.uptoBulk d ≤ 1048576 := by
  have h1 : Rows.uptoBulkAll l ≤ 1048576 := of_decide_eq_true hk
  exact Nat.le_trans (bulk_part h) h1

section
variable {H : Type} {enc : TypeId × Value → H} {P : Program}
theorem trodAll_stays (hl : laidOutB P = true) {W W' : World} {sp : Nat → Bool} : ∀ {ts : List TypeId} {vs : List Value} {ds : List (DataW H)} {ps : List MemPlace},
    ts.all (fun t => P.readableRec t && decide (t < P.types.size)) = true → DataW.TrodAll enc P W 0 (fun _ => true) true ts vs ds ps →
    (∀ p ∈ ps, W.sameAt W' p) → (∀ p ∈ ps, sp p.block = true) → DataW.TrodAll enc P W' 0 sp true ts vs ds ps
  | [], _, _, _, _, h, _, _ => by
    obtain ⟨rfl, rfl, rfl⟩ := trodAll_nil h
    exact trodAll_mk0
  | t :: ts, _, _, _, hr, h, hs, hp => by
    obtain ⟨v, vs', d, ds', p, q, rfl, rfl, rfl, h1, h2⟩ := trodAll_cons h
    simp only [List.all_cons, Bool.and_eq_true, decide_eq_true_eq] at hr
    refine ⟨p, q, WideElems.Trod_stays hl hr.1.1 hr.1.2 h1 (fun x hx => hs x (List.mem_append_left _ hx)) (fun x hx => hp x (List.mem_append_left _ hx)), ?_, rfl⟩
    exact trodAll_stays hl (by simpa [List.all_eq_true] using hr.2) h2 (fun x hx => hs x (List.mem_append_right _ hx)) (fun x hx => hp x (List.mem_append_right _ hx))
theorem trodAll_len {w : World} {base : Nat} {spare : Nat → Bool} {held : Bool} : ∀ {ts : List TypeId} {vs : List Value} {ds : List (DataW H)} {ps : List MemPlace}, DataW.TrodAll enc P w base spare held ts vs ds ps → ds.length = ts.length
  | [], _, _, _, h => by
    obtain ⟨rfl, rfl, rfl⟩ := trodAll_nil h
    rfl
  | t :: ts, _, _, _, h => by
    obtain ⟨v, vs', d, ds', p, q, rfl, rfl, rfl, h1, h2⟩ := trodAll_cons h
    simp [trodAll_len h2]
/-- Behind a call that said yes and left all as it was. -/
theorem post_yes {f : Func} {s : ChangeSpec} {tb : TypeId} {apart fresh handsOn again : Bool} {W W' : World} {args : Array Value} {ds gs : List (DataW H)} {before : List MemPlace}
    (hl : laidOutB P = true) (hr : f.params.toList.all (fun t => P.readableRec t && decide (t < P.types.size)) = true)
    (hrt : f.resultTypes = #[tb]) (hb : P.underlying tb = some .bool) (hv : s.vars = [])
    (hs : ∀ ds' : List (DataW H), ds'.length = f.params.toList.length → s.fn H ds' = { results := [.lit (.bool true)], args := ds' })
    (hW : DataW.Whole enc P f.params.toList s.vars apart W args.toList ds gs before) (hx : Ext W W') :
    s.post enc P f apart fresh handsOn again W args (.bool true) W' := by
  have hW' := hW
  obtain ⟨p, q, hA, hV, rfl, _, _⟩ := hW
  rw [hv] at hV
  obtain ⟨rfl, rfl⟩ := trodVars_none hV
  have e := hs ds (trodAll_len hA)
  have hlt := DataW.TrodAll.lt hA
  have hB := Mod.below hx
  have hold : ∀ x ∈ p, (fun b => decide (b < W.heap.size)) x.block = true := fun x hx => by simpa using hlt x hx
  have hargs : ∀ sp : Nat → Bool, (∀ x ∈ p, sp x.block = true) → DataW.TrodAll enc P W' 0 sp true f.params.toList args.toList (s.fn H (ds ++ [])).args p := fun sp hsp => by
    rw [List.append_nil, e]
    exact trodAll_stays hl hr hA (fun x hx => hB.same (hlt x hx)) hsp
  have hres : ∀ (b : Nat) (sp : Nat → Bool) (hd : Bool), DataW.TrodAll enc P W' b sp hd f.resultTypes.toList ((Value.bool true).resultList f.resultTypes.size) (s.fn H (ds ++ [])).results [] := fun b sp hd => by
    rw [List.append_nil, e, hrt]
    exact trodAll_mk1 (shut_bool hb _)
  have hvars : ∀ sp : Nat → Bool, DataW.TrodVars enc P W' sp s.vars (s.fn H (ds ++ [])).vars [] := fun sp => by
    rw [List.append_nil, e, hv]; rfl
  refine ⟨ds, [], p ++ [], [], p, [], hW', hres _ _ _, hargs _ (fun x hx => by simpa using hlt x hx), hvars _, World.keptBut_mono (fun x hx => hx.elim) (hB.frame fun _ => False), fun _ => ?_⟩
  obtain ⟨_, _, _, _, _, hz, hn⟩ := hW'
  refine ⟨ok_one hrt rfl (okWide_bool_mk hb _), _, _, ([] ++ p) ++ [], ⟨[] ++ p, [], trodAll_append (hargs _ (fun _ _ => rfl)) (hres _ _ _), hvars _, rfl, ?_, ?_⟩, ?_⟩
  · intro b off hp
    have hp' : MemPlace.cell b off ∈ p := by simpa using hp
    have hfz : W'.frozen? ⟨b, off, none⟩ = W.frozen? ⟨b, off, none⟩ := hB.frozen (by simpa [MemPlace.block] using hlt _ hp')
    rw [hfz]
    exact hz b off (by simpa using hp)
  · intro ha
    simpa using hn ha
  · intro x hx _
    simpa using hx
theorem val_at {ps : Array TypeId} {W : World} {base : Nat} {args : Array Value} (hval : ∀ (j : Nat) t v, ps[j]? = some t → args[j]? = some v → Value.okWide P W .any base t v) (j : Nat) {t : TypeId} {v : Value}
    (h1 : ps[j]? = some t) (h2 : args[j]? = some v) : Value.okWide P W .any base t v := hval j t v h1 h2
/-- An argument that is a slice of whole numbers: its room, as cells. -/
theorem arg_ints {t e : TypeId} {k : IntKind} {W : World} {base : Nat} {v : Value} {d : DataW H} {p : List MemPlace} (ht : P.underlying t = some (.slice e)) (he : P.underlying e = some (.int k)) (hc : P.cellsOf e = 1)
    (hval : Value.okWide P W .any base t v) (h : DataW.Trod enc P W 0 (fun _ => true) true t v d p) :
    ∃ (A : Option Addr) (n c : Nat) (zs : List Int), v = .slice A n c ∧ n ≤ c ∧ zs.length = c ∧ Cells W A (zs.map (.int k)) ∧ (∀ z ∈ zs, (Lit.int k z).wf = true) ∧ (A = none → c = 0) ∧ c ≤ Rows.uptoBulk d := by
  obtain ⟨A, n, c, rfl⟩ := okWide_slice ht hval
  obtain ⟨fuel, hf⟩ := h
  rcases open_ints ht he hc hf with ⟨h1, h2⟩ | ⟨a, len, cap, zs, h1, _, hl, _, hz, hd, hcell, hw⟩
  · simp [Value.cells] at h1
    obtain ⟨rfl, rfl, rfl⟩ := h1
    exact ⟨none, 0, 0, [], rfl, Nat.le_refl _, rfl, Cells.nil _ _, (by simp), fun _ => rfl, Nat.zero_le _⟩
  · simp [Value.cells] at h1
    obtain ⟨rfl, rfl, rfl⟩ := h1
    simp only [if_true] at hz
    refine ⟨some a, n, c, zs, rfl, hl, hz, fun i u hu => ⟨a, rfl, ?_⟩, hw, (by simp), ?_⟩
    · rw [List.getElem?_map] at hu
      have hi : i < zs.length := by
        rcases Nat.lt_or_ge i zs.length with h | h
        · exact h
        · rw [List.getElem?_eq_none h] at hu; simp at hu
      rw [hcell i hi]
      simpa [List.getElem?_eq_getElem hi] using hu
    · have e : d = .slice (lits k (zs.take n)) (lits k (zs.drop n)) := congrArg Prod.fst hd
      rw [e]
      have := bulk_slice (H := H) (lits k (zs.take n)) (lits k (zs.drop n))
      simp only [lits, List.length_map, List.length_take, List.length_drop] at this ⊢
      omega
theorem _root_.Go.Eng.Cells.upto {w : World} {A : Option Addr} {k : IntKind} {zs : List Int} (h : Cells w A (zs.map (.int k))) (n : Nat) : Cells w A ((zs.take n).map (.int k)) := by
  rw [List.map_take]; exact h.take n
theorem bts_upto {zs : List Int} (h : ∀ z ∈ zs, (Lit.int .u8 z).wf = true) (n : Nat) : Bts (zs.take n) := by
  intro x hx
  have := h x (List.mem_of_mem_take hx)
  simp [Lit.wf, IntKind.min, IntKind.max, IntKind.signed, IntKind.bits] at this
  omega
end
end Go.Proofs.YtjngdcilnipjcaaDoor
