/- The deferred closures of package view (recover), and the looks at its face: Uint, Window. -/
import Derived.Test.YtjngdcilnipjcaaDoorC1i
namespace Go.Proofs.YtjngdcilnipjcaaDoor
open Go.Eng

section
variable {u : TypeId} {pv : Value} {older : List PanicEntry} {w : World} {g1 g2 g3 : Nat} {x1 x2 x3 : Value}
theorem fields_catch (h1 : w.cell? ⟨g1, 0, none⟩ = some x1) (f1 : w.frozen? ⟨g1, 0, none⟩ = false) (h2 : w.cell? ⟨g2, 0, none⟩ = some x2) (f2 : w.frozen? ⟨g2, 0, none⟩ = false)
    (h3 : w.cell? ⟨g3, 0, none⟩ = some x3) (f3 : w.frozen? ⟨g3, 0, none⟩ = false) (n12 : g1 ≠ g2) (n13 : g1 ≠ g3) (n23 : g2 ≠ g3) :
    CallsD Tryd.prog 92 #[.pointer (some ⟨g1, 0, none⟩), .pointer (some ⟨g2, 0, none⟩), .pointer (some ⟨g3, 0, none⟩)] (.panicking ({ v := .iface u pv, recovered := false } :: older)) w fun e u' w' =>
      e = .returned (.tuple #[]) ∧ u' = .panicking ({ v := .iface u pv, recovered := true } :: older) ∧
      w' = ((w.setCell ⟨g1, 0, none⟩ (.slice none 0 0)).setCell ⟨g2, 0, none⟩ (.int .i64 0)).setCell ⟨g3, 0, none⟩ (.int .i64 10) := by
  have ne : ∀ {a b : Nat}, a ≠ b → (⟨a, 0, none⟩ : Addr) ≠ ⟨b, 0, none⟩ := fun h e => by injection e with e; exact h e
  have hc2 : (w.setCell ⟨g1, 0, none⟩ (.slice none 0 0)).cell? ⟨g2, 0, none⟩ = some x2 := by
    rw [World.cell?_setCell_other _ _ _ _ (ne n12)]; exact h2
  have hc3 : ((w.setCell ⟨g1, 0, none⟩ (.slice none 0 0)).setCell ⟨g2, 0, none⟩ (.int .i64 0)).cell? ⟨g3, 0, none⟩ = some x3 := by
    rw [World.cell?_setCell_other _ _ _ _ (ne n23), World.cell?_setCell_other _ _ _ _ (ne n13)]; exact h3
  refine callsD_of_wpS Tryd.func92 rfl fun c₀ cs hu => ?_
  apply wpS_seq
  apply wpS_region
  simp [wpOpsS, go_sem, recoverD, hu, Tryd.ntmps92, Exit.thenS]
  refine wpS_cond (t := true) (by simp [Act.eval, Array.replicate]) ?_
  simp only [if_true]
  apply wpS_region
  simp [wpOpsS, go_sem, h1, f1, hc2, f2, hc3, f3, bodyPostS, results, Tryd.results92]
theorem fields_idle :
    CallsD Tryd.prog 92 #[.pointer (some ⟨g1, 0, none⟩), .pointer (some ⟨g2, 0, none⟩), .pointer (some ⟨g3, 0, none⟩)] .returning w fun e u' w' => e = .returned (.tuple #[]) ∧ u' = .returning ∧ w' = w := by
  refine callsD_of_wpS Tryd.func92 rfl fun c₀ cs hu => ?_
  apply wpS_seq
  apply wpS_region
  simp [wpOpsS, go_sem, recoverD, hu, Tryd.ntmps92, Exit.thenS]
  refine wpS_cond (t := false) (by simp [Act.eval, Array.replicate]) ?_
  simp only [Bool.false_eq_true, if_false]
  refine wpS_of_wp (wp_skip ?_)
  cases c₀
  simp_all [bodyPostS, results, Tryd.results92]
end

/-! ### Uint, Window -/
theorem leave_ret {f : FuncId} {cap : Array Value} {fin : World → Prop} {R : Ending → World → Prop} {u : FrameMode} {w w1 : World} (hf : callF f = true) (hu : u ≠ .run) {v : Value}
    {u1 : FrameMode} (h : CallsD Tryd.prog f cap u w fun e u' w' => e = .returned v ∧ u' = u1 ∧ w' = w1) (hs : settle u1 = .returning) (hfin : fin w1) :
    leaveWp Tryd.prog callF fin R [{ target := .fn (.func f) cap, args := #[] }] u w := by
  unfold leaveWp
  simp only [hf, cond_true]
  refine ⟨hu, ?_⟩
  have e : (#[] : Array Value) ++ cap = cap := by simp
  rw [e]
  refine h.mono ?_
  rintro e u' w' ⟨rfl, rfl, rfl⟩
  simp only [hs, leaveWp]
  exact hfin

end Go.Proofs.YtjngdcilnipjcaaDoor
