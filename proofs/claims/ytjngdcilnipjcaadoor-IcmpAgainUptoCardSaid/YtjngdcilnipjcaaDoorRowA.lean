/- Turns (three numbers each), as an argument. -/
import Derived.Test.YtjngdcilnipjcaaDoorRowT
import Derived.Test.YtjngdcilnipjcaaDoorAg2
namespace Go.Proofs.YtjngdcilnipjcaaDoor
open Go Go.ChangeShapes Go.WideShapes Go.ChangeAt Go.RowKit Go.Eng

theorem all_of {α : Type} {β : Type} {Q : α → Prop} {f : α → β} : ∀ {rs : List β}, (∀ r ∈ rs, ∃ o : α, r = f o ∧ Q o) → ∃ l : List α, rs = l.map f ∧ ∀ o ∈ l, Q o
  | [], _ => ⟨[], rfl, by simp⟩
  | r :: rs, hop => by
    obtain ⟨o, e, ho⟩ := hop r (by simp)
    obtain ⟨l, el, hl⟩ := all_of (fun r hr => hop r (List.mem_cons_of_mem _ hr))
    exact ⟨o :: l, by simp [e, el], fun o' h => (List.mem_cons.1 h).elim (fun e => e ▸ ho) (hl o')⟩
theorem _root_.Go.Eng.Recs.take {w : World} {A : Option Addr} {size : Nat} {rs : List (List Value)} (h : Recs w A size rs) (n : Nat) : Recs w A size (rs.take n) := by
  intro i cs hi
  rw [List.getElem?_take] at hi
  split at hi
  · exact h i cs hi
  · cases hi
set_option maxRecDepth 100000 in
theorem arg_turns {W : World} {base : Nat} {v : Value} {H : Type} {enc : TypeId × Value → H} {d : DataW H} {p : List MemPlace} (hval : Value.okWide Tryd.prog W .any base 64 v)
    (h : DataW.Trod enc Tryd.prog W 0 (fun _ => true) true 64 v d p) (hb : Rows.uptoBulk d ≤ 1048576) :
    ∃ (A : Option Addr) (n c : Nat) (l : List (Int × Int × Int)), v = .slice A n c ∧ n ≤ 1048576 ∧ TurnsIs W A n l := by
  obtain ⟨A, n, c, rfl⟩ := okWide_slice Tryd.underlying64 hval
  obtain ⟨A', n', c', rs, hcs, hn, hcb, -, hl, hr, hel⟩ := (Rd.of h hb).slice Tryd.underlying64
  have e : Value.slice A n c = .slice A' n' c' := by simpa [Value.cells] using hcs
  injection e with e1 e2 e3
  subst e1; subst e2; subst e3
  have hsz : Tryd.prog.cellsOf 67 = 3 := by kernel_rfl
  rw [hsz] at hr
  have hop : ∀ r ∈ rs, ∃ s : Int × Int × Int, r = [.int .i64 s.1, .int .i64 s.2.1, .int .i64 s.2.2] ∧ True := by
    intro r hr'
    obtain ⟨hlen, hrd⟩ := hel r hr'
    rw [hsz] at hlen
    obtain ⟨-, hf⟩ := hrd.struct Tryd.underlying67
    have f0 : Rd Tryd.prog W 1048576 3 ((r.drop 0).take (Tryd.prog.cellsOf 3)) := hf 0 _ rfl
    have f1 : Rd Tryd.prog W 1048576 3 ((r.drop 1).take (Tryd.prog.cellsOf 3)) := hf 1 _ rfl
    have f2 : Rd Tryd.prog W 1048576 3 ((r.drop 2).take (Tryd.prog.cellsOf 3)) := hf 2 _ rfl
    have ci : Tryd.prog.cellsOf 3 = 1 := by kernel_rfl
    rw [ci] at f0 f1 f2
    match r, hlen with
    | [a0, a1, a2], _ =>
      simp only [List.drop_zero, List.drop_succ_cons, List.take_succ_cons, List.take_zero] at f0 f1 f2
      obtain ⟨k, e0, -⟩ := f0.int Tryd.underlying3
      obtain ⟨o, e1, -⟩ := f1.int Tryd.underlying3
      obtain ⟨x, e2, -⟩ := f2.int Tryd.underlying3
      simp only [List.cons.injEq, and_true] at e0 e1 e2
      subst e0; subst e1; subst e2
      exact ⟨(k, o, x), rfl, trivial⟩
  obtain ⟨l, rfl, -⟩ := all_of hop
  refine ⟨A, n, c, l.take n, rfl, by omega, ?_, ?_⟩
  · rw [List.map_take]; exact hr.take n
  · simp at hl ⊢; omega
end Go.Proofs.YtjngdcilnipjcaaDoor
