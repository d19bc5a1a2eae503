/- How an argument of any nesting is read: down to its cells, with the bound. -/
import Derived.Test.YtjngdcilnipjcaaDoorRow
import Derived.Test.YtjngdcilnipjcaaDoorGen
import Derived.Deep.Slices
import Derived.Deep.Fields
namespace Go.Proofs.YtjngdcilnipjcaaDoor
open Go Go.ChangeShapes Go.WideShapes Go.ChangeAt Go.RowKit Go.Eng

/-- These cells read as a value of type t, of bulk at most b. -/
def Rd (P : Program) (W : World) (b : Nat) (t : TypeId) (cs : List Value) : Prop :=
  ∃ (H : Type) (enc : TypeId × Value → H) (n : Nat) (x : DataW H × List MemPlace), DataW.trod enc P W 0 (fun _ => true) true n t cs = some x ∧ Rows.uptoBulk x.1 ≤ b
section
variable {P : Program} {W : World} {b : Nat} {t e : TypeId} {cs : List Value}
theorem Rd.of {H : Type} {enc : TypeId × Value → H} {v : Value} {d : DataW H} {p : List MemPlace} (h : DataW.Trod enc P W 0 (fun _ => true) true t v d p) (hb : Rows.uptoBulk d ≤ b) : Rd P W b t v.cells.toList := by
  obtain ⟨n, hn⟩ := h
  exact ⟨H, enc, n, _, hn, hb⟩
theorem Rd.int {k : IntKind} (ht : P.underlying t = some (.int k)) (h : Rd P W b t cs) : ∃ n, cs = [.int k n] ∧ (Lit.int k n).wf = true := by
  obtain ⟨H, enc, n, x, hx, _⟩ := h
  obtain ⟨m, rfl, _, hw⟩ := DataW.trod_int ht hx
  exact ⟨m, rfl, hw⟩
theorem Rd.bool (ht : P.underlying t = some .bool) (h : Rd P W b t cs) : ∃ x : Bool, cs = [.bool x] := by
  obtain ⟨H, enc, n, x, hx, _⟩ := h
  obtain ⟨m, rfl, _⟩ := DataW.trod_bool ht hx
  exact ⟨m, rfl⟩
theorem Rd.slice (ht : P.underlying t = some (.slice e)) (h : Rd P W b t cs) :
    ∃ (A : Option Addr) (n c : Nat) (rs : List (List Value)), cs = [.slice A n c] ∧ n ≤ c ∧ c ≤ b ∧ (A = none → c = 0) ∧ rs.length = c ∧ Recs W A (P.cellsOf e) rs ∧ ∀ r ∈ rs, r.length = P.cellsOf e ∧ Rd P W b e r := by
  obtain ⟨H, enc, f, x, hx, hb⟩ := h
  rcases Deep.open_slice ht hx with ⟨rfl, rfl⟩ | ⟨a, len, cap, m, n, D, Pl, rfl, _, hl, _, hm, rfl, hel⟩
  · exact ⟨none, 0, 0, [], rfl, Nat.le_refl _, Nat.zero_le _, fun _ => rfl, rfl, fun i cs h => by simp at h, by simp⟩
  · simp only [if_true] at hm
    subst hm
    have hcap : m ≤ b := by
      have := bulk_slice (H := H) ((List.range len).map D) ((List.range (m - len)).map fun j => D (len + j))
      simp only [List.length_map, List.length_range] at this
      simp only at hb
      omega
    have hsub : ∀ i, i < m → Rows.uptoBulk (D i) ≤ b := by
      intro i hi
      have h1 : D i ∈ (List.range len).map D ∨ D i ∈ (List.range (m - len)).map fun j => D (len + j) := by
        by_cases hil : i < len
        · exact .inl (List.mem_map.2 ⟨i, by simpa using hil, rfl⟩)
        · exact .inr (List.mem_map.2 ⟨i - len, by simp; omega, by rw [show len + (i - len) = i by omega]⟩)
      simp only [Rows.uptoBulk] at hb
      rcases h1 with h1 | h1
      · have := bulk_part h1; omega
      · have := bulk_part h1; omega
    refine ⟨some a, len, m, (List.range m).map fun i => (W.cells? 0 (a.add (i * P.cellsOf e)) (P.cellsOf e)).getD [], rfl, hl, hcap, by simp, by simp, ?_, ?_⟩
    · intro i cs hi
      rw [List.getElem?_map] at hi
      have him : i < m := by
        rcases Nat.lt_or_ge i m with h | h
        · exact h
        · rw [List.getElem?_eq_none (by simpa using h)] at hi; cases hi
      rw [List.getElem?_range him] at hi
      obtain ⟨cs', hc, _⟩ := hel i him
      simp [hc] at hi
      subst hi
      obtain ⟨_, hlen, hat⟩ := World.cells?_some hc
      refine ⟨a, rfl, CellsAt.of _ 0 fun j v hv => ?_⟩
      have hj : j < P.cellsOf e := by rw [← hlen]; exact (List.getElem?_eq_some_iff.1 hv).1
      rw [Nat.zero_add, hat j hj, hv]
    · intro r hr
      obtain ⟨i, hi, rfl⟩ := List.mem_map.1 hr
      have him : i < m := by simpa using hi
      obtain ⟨cs', hc, ht'⟩ := hel i him
      rw [hc]
      exact ⟨(World.cells?_some hc).2.1, H, enc, n, _, ht', hsub i him⟩
theorem Rd.struct {fs : Array Field} (ht : P.underlying t = some (.struct fs)) (h : Rd P W b t cs) :
    cs.length = P.cellsOf t ∧ ∀ (i : Nat) (f : Field), fs[i]? = some f → Rd P W b f.type ((cs.drop f.offset).take (P.cellsOf f.type)) := by
  obtain ⟨H, enc, n, x, hx, hb⟩ := h
  obtain ⟨xs, n', _, rfl, hl, hlen, hf⟩ := DataW.trod_struct ht hx
  refine ⟨hl, fun i f hi => ?_⟩
  have hix : i < xs.length := by rw [hlen]; exact (Array.getElem?_eq_some_iff.1 hi).1
  refine ⟨H, enc, n', xs[i], ?_, ?_⟩
  · rw [hf i f hi, List.getElem?_eq_getElem hix]
  · have h1 := bulk_part (d := xs[i].1) (l := xs.map (·.1)) (List.mem_map.2 ⟨xs[i], List.getElem_mem hix, rfl⟩)
    simp only [Rows.uptoBulk] at hb
    omega
/-- A slice of whole numbers. -/
theorem Rd.ints {k : IntKind} (ht : P.underlying t = some (.slice e)) (he : P.underlying e = some (.int k)) (hc : P.cellsOf e = 1) (h : Rd P W b t cs) :
    ∃ (A : Option Addr) (n c : Nat) (zs : List Int), cs = [.slice A n c] ∧ n ≤ c ∧ c ≤ b ∧ (A = none → c = 0) ∧ zs.length = c ∧ Cells W A (zs.map (.int k)) ∧ ∀ z ∈ zs, (Lit.int k z).wf = true := by
  obtain ⟨A, n, c, rs, rfl, hn, hb, hA, hl, hr, hel⟩ := h.slice ht
  rw [hc] at hr
  have hone : ∀ r ∈ rs, ∃ z, r = [.int k z] ∧ (Lit.int k z).wf = true := fun r hr' => (hel r hr').2.int he
  refine ⟨A, n, c, rs.map fun r => match r with | [.int _ z] => z | _ => 0, rfl, hn, hb, hA, by simpa using hl, ?_, ?_⟩
  · intro i v hv
    rw [List.map_map, List.getElem?_map] at hv
    have hi : i < rs.length := by
      rcases Nat.lt_or_ge i rs.length with h | h
      · exact h
      · rw [List.getElem?_eq_none h] at hv; cases hv
    rw [List.getElem?_eq_getElem hi] at hv
    obtain ⟨z, hz, _⟩ := hone _ (List.getElem_mem hi)
    obtain ⟨a, ha, hcell⟩ := hr i _ (List.getElem?_eq_getElem hi)
    rw [hz] at hcell hv
    simp at hv
    subst hv
    refine ⟨a, ha, ?_⟩
    have := hcell.1
    rwa [add_zero, Nat.mul_one] at this
  · intro z hz
    obtain ⟨r, hr', rfl⟩ := List.mem_map.1 hz
    obtain ⟨z, rfl, hw⟩ := hone r hr'
    exact hw
end
theorem wf_u8 {z : Int} (h : (Lit.int .u8 z).wf = true) : 0 ≤ z ∧ z < 256 := by
  simp [Lit.wf, IntKind.min, IntKind.max, IntKind.signed, IntKind.bits] at h
  omega
theorem small_all {H : Type} {d : DataW H} {l : List (DataW H)} (hk : Rows.uptoSmall H l = true) (h : d ∈ l) : Rows.uptoBulk d ≤ 1048576 := small_part hk h

set_option maxRecDepth 100000 in
/-- A script of looks, as an argument. -/
theorem Rd.array {P : Program} {W : World} {b n : Nat} {t e : TypeId} {cs : List Value} (ht : P.underlying t = some (.array n e)) (h : Rd P W b t cs) :
    cs.length = P.cellsOf t ∧ ∀ i, i < n → Rd P W b e ((cs.drop (i * P.cellsOf e)).take (P.cellsOf e)) := by
  obtain ⟨H, enc, f, x, hx, hb⟩ := h
  obtain ⟨xs, m, _, rfl, hl, hlen, hf⟩ := DataW.trod_array ht hx
  refine ⟨hl, fun i hi => ?_⟩
  have hix : i < xs.length := by omega
  refine ⟨H, enc, m, xs[i], ?_, ?_⟩
  · rw [hf i hi, List.getElem?_eq_getElem hix]
  · have h1 := bulk_part (d := xs[i].1) (l := xs.map (·.1)) (List.mem_map.2 ⟨xs[i], List.getElem_mem hix, rfl⟩)
    simp only [Rows.uptoBulk] at hb
    omega
end Go.Proofs.YtjngdcilnipjcaaDoor
