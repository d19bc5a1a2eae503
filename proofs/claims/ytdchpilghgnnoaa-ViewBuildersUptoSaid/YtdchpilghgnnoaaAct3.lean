/- What is cut out of the array reads as the parts. -/
import Derived.Test.YtdchpilghgnnoaaAct2
namespace Go.Proofs.Ytdchpilghgnnoaa
open Go.Eng Go.RowKit

theorem cutsOf_length (WA : Option Addr) (wc : Nat) (ps : List PartV) (i : Nat) : (cutsOf WA wc ps i).length = i := by simp [cutsOf]
theorem cutsOf_get (WA : Option Addr) (wc : Nat) (ps : List PartV) {i : Nat} (h : i < ps.length) : (cutsOf WA wc ps ps.length)[i]? = some ⟨if wc = gtotal (ps.take i) then WA else WA.map (·.add (gtotal (ps.take i) * 1)), ps[i].n, wc - gtotal (ps.take i), ps[i].bs⟩ := by
  unfold cutsOf cutOf
  simp [h]
theorem cutsOf_flat (WA : Option Addr) (wc : Nat) (ps : List PartV) : flat (cutsOf WA wc ps ps.length) = flat ps ∧ total (cutsOf WA wc ps ps.length) = total ps := by
  have e1 : (cutsOf WA wc ps ps.length).map (·.bs) = ps.map (·.bs) := by
    apply List.ext_getElem?
    intro i
    by_cases h : i < ps.length
    · rw [List.getElem?_map, cutsOf_get WA wc ps h, List.getElem?_map, List.getElem?_eq_getElem h]; rfl
    · rw [List.getElem?_eq_none (by simp [cutsOf_length]; omega), List.getElem?_eq_none (by simp; omega)]
  have e2 : (cutsOf WA wc ps ps.length).map (·.n) = ps.map (·.n) := by
    apply List.ext_getElem?
    intro i
    by_cases h : i < ps.length
    · rw [List.getElem?_map, cutsOf_get WA wc ps h, List.getElem?_map, List.getElem?_eq_getElem h]; rfl
    · rw [List.getElem?_eq_none (by simp [cutsOf_length]; omega), List.getElem?_eq_none (by simp; omega)]
  have ht : ∀ l : List PartV, total l = (l.map (·.n)).sum := by
    intro l
    induction l with
    | nil => rfl
    | cons p r ih => simp only [total, List.map_cons, List.sum_cons, ih]
  refine ⟨?_, by rw [ht, ht, e2]⟩
  unfold flat
  rw [List.flatMap_def, List.flatMap_def, e1]
/-- The i-th part lies in the ground where it was cut. -/
theorem ground_len' : ∀ {ps : List PartV}, (∀ p ∈ ps, p.bs.length = p.n ∧ Bts p.bs ∧ p.n ≤ 1048700) → (ground ps).length = gtotal ps
  | [], _ => rfl
  | p :: r, h => by
    have h1 := (h p (by simp)).1
    have h2 := ground_len' (ps := r) fun q hq => h q (List.mem_cons_of_mem _ hq)
    simp only [ground, gtotal, List.flatMap_cons, List.length_append, total, List.length_cons, wideTail, List.length_map, List.length_range] at h2 ⊢
    omega
theorem ground_at' {ps : List PartV} (h : ∀ p ∈ ps, p.bs.length = p.n ∧ Bts p.bs ∧ p.n ≤ 1048700) {i : Nat} (hi : i < ps.length) :
    ((ground ps).drop (gtotal (ps.take i))).take ps[i].n = ps[i].bs := by
  have e : ps = ps.take i ++ ps[i] :: ps.drop (i + 1) := by
    rw [← List.drop_eq_getElem_cons hi, List.take_append_drop]
  have hg : ground ps = ground (ps.take i) ++ (ps[i].bs ++ wideTail 75 ++ ground (ps.drop (i + 1))) := by
    have hg0 : ground ps = ground (ps.take i ++ ps[i] :: ps.drop (i + 1)) := congrArg ground e
    rw [hg0]
    unfold ground
    rw [List.flatMap_append, List.flatMap_cons]
  have hl : (ground (ps.take i)).length = gtotal (ps.take i) := ground_len' fun p hp => h p (List.mem_of_mem_take hp)
  have hb := (h _ (List.getElem_mem hi)).1
  rw [hg, ← hl, List.drop_left, List.append_assoc, ← hb, List.take_left]
/-- The cuts, as parts: where the array and the list stand. -/
theorem cuts_parts {w : World} {WA LA : Option Addr} {wc : Nat} {ps : List PartV} {tl : List Value} (h : ∀ p ∈ ps, p.bs.length = p.n ∧ Bts p.bs ∧ p.n ≤ 1048700) (hw : Cells w WA ((ground ps).map (.int .u8))) (hwc : gtotal ps ≤ wc)
    (hl : Cells w LA ((cutsOf WA wc ps ps.length).map (fun p => Value.slice p.A p.n p.c) ++ tl)) : PartsIs w LA (cutsOf WA wc ps ps.length) := by
  refine ⟨fun i cs hi => ?_, fun p hp => ?_⟩
  · rw [List.getElem?_map] at hi
    have hil : i < ps.length := by
      rcases Nat.lt_or_ge i ps.length with h | h
      · exact h
      · rw [List.getElem?_eq_none (by simp [cutsOf_length]; omega)] at hi; cases hi
    rw [cutsOf_get WA wc ps hil] at hi
    simp only [Option.map_some, Option.some.injEq] at hi
    subst hi
    have hv : ((cutsOf WA wc ps ps.length).map (fun p => Value.slice p.A p.n p.c) ++ tl)[i]? = some (.slice (if wc = gtotal (ps.take i) then WA else WA.map (·.add (gtotal (ps.take i) * 1))) ps[i].n (wc - gtotal (ps.take i))) := by
      rw [List.getElem?_append_left (by simp [cutsOf_length, hil]), List.getElem?_map, cutsOf_get WA wc ps hil]; rfl
    obtain ⟨a, ha, hc⟩ := hl i _ hv
    exact ⟨a, ha, by rw [Nat.mul_one, add_zero]; exact hc, trivial⟩
  · obtain ⟨i, hi, rfl⟩ := List.mem_iff_getElem.1 hp
    have hil : i < ps.length := by simpa [cutsOf_length] using hi
    have hg := cutsOf_get WA wc ps hil
    rw [List.getElem?_eq_getElem hi] at hg
    injection hg with hg
    rw [hg]
    have hp' := h _ (List.getElem_mem hil)
    refine ⟨?_, hp'.1, hp'.2.1, hp'.2.2⟩
    have hat := ground_at' h hil
    have htl := gtotal_take_le ps (i + 1)
    rw [gtotal_take_succ hil] at htl
    have hd := (hw.drop (gtotal (ps.take i)) (c := wc + 1 + (ground ps).length) (by simp) 1 (.inl rfl)).take ps[i].n
    rw [← List.map_drop, ← List.map_take, hat] at hd
    show Cells w (if wc = gtotal (ps.take i) then WA else WA.map (·.add (gtotal (ps.take i) * 1))) (ps[i].bs.map (.int .u8))
    rw [if_neg (by omega)]
    rwa [if_neg (by omega)] at hd
end Go.Proofs.Ytdchpilghgnnoaa
