/- Scripts of acts, as an argument. -/
import Derived.Test.YtdchpilghgnnoaaRow3
import Derived.Test.YtdchpilghgnnoaaL13
namespace Go.Proofs.Ytdchpilghgnnoaa
open Go Go.ChangeShapes Go.WideShapes Go.ChangeAt Go.RowKit Go.Eng

theorem wf_u64 {z : Int} (h : (Lit.int .u64 z).wf = true) : 0 ≤ z ∧ z < 18446744073709551616 := by
  simp [Lit.wf, IntKind.min, IntKind.max, IntKind.signed, IntKind.bits] at h
  omega
theorem all_of' {α : Type} {Q : α → Prop} {β : Type} {f : α → β} {rs : List β} (h : ∀ r ∈ rs, ∃ o : α, r = f o ∧ Q o) : ∃ l : List α, rs = l.map f ∧ ∀ o ∈ l, Q o := all_of h
set_option maxRecDepth 100000 in
theorem Rd.parts {W : World} {b : Nat} {cs : List Value} (hb : b ≤ 1048576) (h : Rd Try.prog W b 50 cs) :
    ∃ (A : Option Addr) (n c : Nat) (ps : List PartV), cs = [.slice A n c] ∧ ps.length = n ∧ n ≤ 1048700 ∧ PartsIs W A ps := by
  obtain ⟨A, n, c, rs, rfl, hn, hcb, -, hl, hr, hel⟩ := h.slice Try.underlying50
  have hsz : Try.prog.cellsOf 22 = 1 := by kernel_rfl
  rw [hsz] at hr
  have hop : ∀ r ∈ rs, ∃ p : PartV, r = [.slice p.A p.n p.c] ∧ (Cells W p.A (p.bs.map (.int .u8)) ∧ p.bs.length = p.n ∧ Bts p.bs ∧ p.n ≤ 1048700) := by
    intro r hr'
    obtain ⟨A', n', c', zs, e, hn', hcb', -, hl', hcl, hwf⟩ := (hel r hr').2.ints Try.underlying22 Try.underlying5 cells_byte
    exact ⟨⟨A', n', c', zs.take n'⟩, e, Cells.upto hcl n', by simp; omega, bts_upto hwf n', by simp only; omega⟩
  obtain ⟨l, rfl, hq⟩ := all_of' hop
  refine ⟨A, n, c, l.take n, rfl, by simp at hl ⊢; omega, by omega, ?_, fun p hp => hq p (List.mem_of_mem_take hp)⟩
  rw [List.map_take]; exact hr.take n
set_option maxRecDepth 100000 in
theorem arg_acts {W : World} {base : Nat} {v : Value} {H : Type} {enc : TypeId × Value → H} {d : DataW H} {p : List MemPlace} (hval : Value.okWide Try.prog W .any base 41 v)
    (h : DataW.Trod enc Try.prog W 0 (fun _ => true) true 41 v d p) (hb : Rows.uptoBulk d ≤ 1048576) :
    ∃ (A : Option Addr) (n c : Nat) (l : List ActV), v = .slice A n c ∧ n ≤ 1048576 ∧ ActsIs W A n l := by
  obtain ⟨A, n, c, rfl⟩ := okWide_slice Try.underlying41 hval
  obtain ⟨A', n', c', rs, hcs, hn, hcb, -, hl, hr, hel⟩ := (Rd.of h hb).slice Try.underlying41
  have e : Value.slice A n c = .slice A' n' c' := by simpa [Value.cells] using hcs
  injection e with e1 e2 e3
  subst e1; subst e2; subst e3
  have hsz : Try.prog.cellsOf 52 = 6 := by kernel_rfl
  rw [hsz] at hr
  have hop : ∀ r ∈ rs, ∃ a : ActV, r = a.vals ∧ ((0 ≤ a.v ∧ a.v < 18446744073709551616) ∧ ∃ ps, PartsIs W a.PA ps ∧ ps.length = a.m ∧ a.m ≤ 1048700) := by
    intro r hr'
    obtain ⟨hlen, hrd⟩ := hel r hr'
    rw [hsz] at hlen
    obtain ⟨-, hf⟩ := hrd.struct Try.underlying52
    have f0 : Rd Try.prog W 1048576 3 ((r.drop 0).take (Try.prog.cellsOf 3)) := hf 0 _ rfl
    have f1 : Rd Try.prog W 1048576 3 ((r.drop 1).take (Try.prog.cellsOf 3)) := hf 1 _ rfl
    have f2 : Rd Try.prog W 1048576 3 ((r.drop 2).take (Try.prog.cellsOf 3)) := hf 2 _ rfl
    have f3 : Rd Try.prog W 1048576 3 ((r.drop 3).take (Try.prog.cellsOf 3)) := hf 3 _ rfl
    have f4 : Rd Try.prog W 1048576 27 ((r.drop 4).take (Try.prog.cellsOf 27)) := hf 4 _ rfl
    have f5 : Rd Try.prog W 1048576 50 ((r.drop 5).take (Try.prog.cellsOf 50)) := hf 5 _ rfl
    have ci : Try.prog.cellsOf 3 = 1 := by kernel_rfl
    have cu : Try.prog.cellsOf 27 = 1 := by kernel_rfl
    have cp : Try.prog.cellsOf 50 = 1 := by kernel_rfl
    rw [ci] at f0 f1 f2 f3
    rw [cu] at f4
    rw [cp] at f5
    match r, hlen with
    | [a0, a1, a2, a3, a4, a5], _ =>
      simp only [List.drop_zero, List.drop_succ_cons, List.take_succ_cons, List.take_zero] at f0 f1 f2 f3 f4 f5
      obtain ⟨k0, e0, -⟩ := f0.int Try.underlying3
      obtain ⟨k1, e1, -⟩ := f1.int Try.underlying3
      obtain ⟨k2, e2, -⟩ := f2.int Try.underlying3
      obtain ⟨k3, e3, -⟩ := f3.int Try.underlying3
      obtain ⟨k4, e4, hw4⟩ := f4.int Try.underlying27
      obtain ⟨PA, m, mc, ps, e5, hpl, hm, hps⟩ := f5.parts (Nat.le_refl _)
      simp only [List.cons.injEq, and_true] at e0 e1 e2 e3 e4 e5
      subst e0; subst e1; subst e2; subst e3; subst e4; subst e5
      exact ⟨⟨k0, k1, k2, k3, k4, PA, m, mc⟩, rfl, wf_u64 hw4, ps, hps, hpl, hm⟩
  obtain ⟨l, rfl, hq⟩ := all_of' hop
  refine ⟨A, n, c, l.take n, rfl, by omega, ?_, by simp at hl ⊢; omega, fun a ha => hq a (List.mem_of_mem_take ha)⟩
  rw [List.map_take]; exact hr.take n
end Go.Proofs.Ytdchpilghgnnoaa
