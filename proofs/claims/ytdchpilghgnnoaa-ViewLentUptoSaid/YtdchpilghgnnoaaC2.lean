/- The deferred closures of package view (recover), and the looks at its face: Uint, Window. -/
import Derived.Test.YtdchpilghgnnoaaC1
namespace Go.Proofs.Ytdchpilghgnnoaa
open Go.Eng

section
variable {u : TypeId} {pv : Value} {older : List PanicEntry} {w : World} {g1 g2 g3 : Nat} {x1 x2 x3 : Value}
theorem uint_catch (h1 : w.cell? ⟨g1, 0, none⟩ = some x1) (f1 : w.frozen? ⟨g1, 0, none⟩ = false) (h2 : w.cell? ⟨g2, 0, none⟩ = some x2) (f2 : w.frozen? ⟨g2, 0, none⟩ = false) (hne : g1 ≠ g2) :
    CallsD Try.prog 59 #[.pointer (some ⟨g1, 0, none⟩), .pointer (some ⟨g2, 0, none⟩)] (.panicking ({ v := .iface u pv, recovered := false } :: older)) w fun e u' w' =>
      e = .returned (.tuple #[]) ∧ u' = .panicking ({ v := .iface u pv, recovered := true } :: older) ∧ w' = (w.setCell ⟨g1, 0, none⟩ (.int .u64 0)).setCell ⟨g2, 0, none⟩ (.int .i64 10) := by
  have hc2 : (w.setCell ⟨g1, 0, none⟩ (.int .u64 0)).cell? ⟨g2, 0, none⟩ = some x2 := by
    rw [World.cell?_setCell_other]
    · exact h2
    · intro e; injection e with e; exact hne e
  refine callsD_of_wpS Try.func59 rfl fun c₀ cs hu => ?_
  apply wpS_seq
  apply wpS_region
  simp [wpOpsS, go_sem, recoverD, hu, Try.ntmps59, Exit.thenS]
  refine wpS_cond (t := true) (by simp [Act.eval, Array.replicate]) ?_
  simp only [if_true]
  apply wpS_region
  simp [wpOpsS, go_sem, h1, f1, hc2, f2, bodyPostS, results, Try.results59]
theorem uint_idle :
    CallsD Try.prog 59 #[.pointer (some ⟨g1, 0, none⟩), .pointer (some ⟨g2, 0, none⟩)] .returning w fun e u' w' => e = .returned (.tuple #[]) ∧ u' = .returning ∧ w' = w := by
  refine callsD_of_wpS Try.func59 rfl fun c₀ cs hu => ?_
  apply wpS_seq
  apply wpS_region
  simp [wpOpsS, go_sem, recoverD, hu, Try.ntmps59, Exit.thenS]
  refine wpS_cond (t := false) (by simp [Act.eval, Array.replicate]) ?_
  simp only [Bool.false_eq_true, if_false]
  refine wpS_of_wp (wp_skip ?_)
  cases c₀
  simp_all [bodyPostS, results, Try.results59]
theorem window_catch (h1 : w.cell? ⟨g1, 0, none⟩ = some x1) (f1 : w.frozen? ⟨g1, 0, none⟩ = false) (h2 : w.cell? ⟨g2, 0, none⟩ = some x2) (f2 : w.frozen? ⟨g2, 0, none⟩ = false) (hne : g1 ≠ g2) :
    CallsD Try.prog 65 #[.pointer (some ⟨g1, 0, none⟩), .pointer (some ⟨g2, 0, none⟩)] (.panicking ({ v := .iface u pv, recovered := false } :: older)) w fun e u' w' =>
      e = .returned (.tuple #[]) ∧ u' = .panicking ({ v := .iface u pv, recovered := true } :: older) ∧ w' = (w.setCell ⟨g1, 0, none⟩ (.slice none 0 0)).setCell ⟨g2, 0, none⟩ (.int .i64 10) := by
  have hc2 : (w.setCell ⟨g1, 0, none⟩ (.slice none 0 0)).cell? ⟨g2, 0, none⟩ = some x2 := by
    rw [World.cell?_setCell_other]
    · exact h2
    · intro e; injection e with e; exact hne e
  refine callsD_of_wpS Try.func65 rfl fun c₀ cs hu => ?_
  apply wpS_seq
  apply wpS_region
  simp [wpOpsS, go_sem, recoverD, hu, Try.ntmps65, Exit.thenS]
  refine wpS_cond (t := true) (by simp [Act.eval, Array.replicate]) ?_
  simp only [if_true]
  apply wpS_region
  simp [wpOpsS, go_sem, h1, f1, hc2, f2, bodyPostS, results, Try.results65]
theorem window_idle :
    CallsD Try.prog 65 #[.pointer (some ⟨g1, 0, none⟩), .pointer (some ⟨g2, 0, none⟩)] .returning w fun e u' w' => e = .returned (.tuple #[]) ∧ u' = .returning ∧ w' = w := by
  refine callsD_of_wpS Try.func65 rfl fun c₀ cs hu => ?_
  apply wpS_seq
  apply wpS_region
  simp [wpOpsS, go_sem, recoverD, hu, Try.ntmps65, Exit.thenS]
  refine wpS_cond (t := false) (by simp [Act.eval, Array.replicate]) ?_
  simp only [Bool.false_eq_true, if_false]
  refine wpS_of_wp (wp_skip ?_)
  cases c₀
  simp_all [bodyPostS, results, Try.results65]
theorem fields_catch (h1 : w.cell? ⟨g1, 0, none⟩ = some x1) (f1 : w.frozen? ⟨g1, 0, none⟩ = false) (h2 : w.cell? ⟨g2, 0, none⟩ = some x2) (f2 : w.frozen? ⟨g2, 0, none⟩ = false)
    (h3 : w.cell? ⟨g3, 0, none⟩ = some x3) (f3 : w.frozen? ⟨g3, 0, none⟩ = false) (n12 : g1 ≠ g2) (n13 : g1 ≠ g3) (n23 : g2 ≠ g3) :
    CallsD Try.prog 62 #[.pointer (some ⟨g1, 0, none⟩), .pointer (some ⟨g2, 0, none⟩), .pointer (some ⟨g3, 0, none⟩)] (.panicking ({ v := .iface u pv, recovered := false } :: older)) w fun e u' w' =>
      e = .returned (.tuple #[]) ∧ u' = .panicking ({ v := .iface u pv, recovered := true } :: older) ∧
      w' = ((w.setCell ⟨g1, 0, none⟩ (.slice none 0 0)).setCell ⟨g2, 0, none⟩ (.int .i64 0)).setCell ⟨g3, 0, none⟩ (.int .i64 10) := by
  have ne : ∀ {a b : Nat}, a ≠ b → (⟨a, 0, none⟩ : Addr) ≠ ⟨b, 0, none⟩ := fun h e => by injection e with e; exact h e
  have hc2 : (w.setCell ⟨g1, 0, none⟩ (.slice none 0 0)).cell? ⟨g2, 0, none⟩ = some x2 := by
    rw [World.cell?_setCell_other _ _ _ _ (ne n12)]; exact h2
  have hc3 : ((w.setCell ⟨g1, 0, none⟩ (.slice none 0 0)).setCell ⟨g2, 0, none⟩ (.int .i64 0)).cell? ⟨g3, 0, none⟩ = some x3 := by
    rw [World.cell?_setCell_other _ _ _ _ (ne n23), World.cell?_setCell_other _ _ _ _ (ne n13)]; exact h3
  refine callsD_of_wpS Try.func62 rfl fun c₀ cs hu => ?_
  apply wpS_seq
  apply wpS_region
  simp [wpOpsS, go_sem, recoverD, hu, Try.ntmps62, Exit.thenS]
  refine wpS_cond (t := true) (by simp [Act.eval, Array.replicate]) ?_
  simp only [if_true]
  apply wpS_region
  simp [wpOpsS, go_sem, h1, f1, hc2, f2, hc3, f3, bodyPostS, results, Try.results62]
theorem fields_idle :
    CallsD Try.prog 62 #[.pointer (some ⟨g1, 0, none⟩), .pointer (some ⟨g2, 0, none⟩), .pointer (some ⟨g3, 0, none⟩)] .returning w fun e u' w' => e = .returned (.tuple #[]) ∧ u' = .returning ∧ w' = w := by
  refine callsD_of_wpS Try.func62 rfl fun c₀ cs hu => ?_
  apply wpS_seq
  apply wpS_region
  simp [wpOpsS, go_sem, recoverD, hu, Try.ntmps62, Exit.thenS]
  refine wpS_cond (t := false) (by simp [Act.eval, Array.replicate]) ?_
  simp only [Bool.false_eq_true, if_false]
  refine wpS_of_wp (wp_skip ?_)
  cases c₀
  simp_all [bodyPostS, results, Try.results62]
theorem patch_catch (h1 : w.cell? ⟨g1, 0, none⟩ = some x1) (f1 : w.frozen? ⟨g1, 0, none⟩ = false) :
    CallsD Try.prog 73 #[.pointer (some ⟨g1, 0, none⟩)] (.panicking ({ v := .iface u pv, recovered := false } :: older)) w fun e u' w' =>
      e = .returned (.tuple #[]) ∧ u' = .panicking ({ v := .iface u pv, recovered := true } :: older) ∧ w' = w.setCell ⟨g1, 0, none⟩ (.int .i64 10) := by
  refine callsD_of_wpS Try.func73 rfl fun c₀ cs hu => ?_
  apply wpS_seq
  apply wpS_region
  simp [wpOpsS, go_sem, recoverD, hu, Try.ntmps73, Exit.thenS]
  refine wpS_cond (t := true) (by simp [Act.eval, Array.replicate]) ?_
  simp only [if_true]
  apply wpS_region
  simp [wpOpsS, go_sem, h1, f1, bodyPostS, results, Try.results73]
theorem patch_idle :
    CallsD Try.prog 73 #[.pointer (some ⟨g1, 0, none⟩)] .returning w fun e u' w' => e = .returned (.tuple #[]) ∧ u' = .returning ∧ w' = w := by
  refine callsD_of_wpS Try.func73 rfl fun c₀ cs hu => ?_
  apply wpS_seq
  apply wpS_region
  simp [wpOpsS, go_sem, recoverD, hu, Try.ntmps73, Exit.thenS]
  refine wpS_cond (t := false) (by simp [Act.eval, Array.replicate]) ?_
  simp only [Bool.false_eq_true, if_false]
  refine wpS_of_wp (wp_skip ?_)
  cases c₀
  simp_all [bodyPostS, results, Try.results73]
end

/-! ### Uint, Window -/
theorem leave_ret {f : FuncId} {cap : Array Value} {fin : World → Prop} {R : Ending → World → Prop} {u : FrameMode} {w w1 : World} (hf : callF f = true) (hu : u ≠ .run) {v : Value}
    {u1 : FrameMode} (h : CallsD Try.prog f cap u w fun e u' w' => e = .returned v ∧ u' = u1 ∧ w' = w1) (hs : settle u1 = .returning) (hfin : fin w1) :
    leaveWp Try.prog callF fin R [{ target := .fn (.func f) cap, args := #[] }] u w := by
  unfold leaveWp
  simp only [hf, cond_true]
  refine ⟨hu, ?_⟩
  have e : (#[] : Array Value) ++ cap = cap := by simp
  rw [e]
  refine h.mono ?_
  rintro e u' w' ⟨rfl, rfl, rfl⟩
  simp only [hs, leaveWp]
  exact hfin

theorem uint_spec {A : Option Addr} {n c : Nat} {p k : Int} {bs : List Int} {w : World} (hb : Cells w A (bs.map (.int .u8))) (hl : bs.length = n) (hB : Bts bs) (hn : n ≤ 140737488355328) :
    Calls Try.prog 27 #[.slice A n c, .int .i64 p, .int .i64 k] w fun e w' => Ext w w' ∧ e = .returned (.tuple #[.int .u64 (uintS bs p k).1, .int .i64 (uintS bs p k).2]) := by
  refine view_Uint_of A n c p k w _ ?_
  unfold view_Uint_VC
  refine NewVC.blk fun g1 w1 hg1 hz1 hE1 hb1 => NewVC.blk fun g2 w2 hg2 hz2 hE2 hb2 => ?_
  have hE : Ext w w2 := hE1.ext hE2
  have hb1 := hb1.ext hE2
  have hne : g1 ≠ g2 := by omega
  refine (sized_spec k w2).mono ?_
  rintro _ w3 ⟨rfl, rfl⟩
  refine ⟨_, rfl, ?_⟩
  by_cases hk : 1 ≤ k ∧ k ≤ 8
  · rw [decide_eq_true hk]
    refine Br.f rfl ?_
    by_cases hp : 0 ≤ p ∧ p + k ≤ n
    · refine (number_yes (hb.ext hE) hl hB hn hk hp.1 hp.2).mono ?_
      rintro _ w6 ⟨rfl, rfl⟩
      refine ⟨_, rfl, ?_⟩
      refine SetVC.blk hb1 (by simp) fun w7 hz7 hm7 hb1 => ?_
      have hb2 := hb2.mod hm7 (fun e => hne e.symm)
      refine SetVC.blk hb2 (by simp) fun w8 hz8 hm8 hb2 => ?_
      have hb1 := hb1.mod hm8 hne
      refine leave_ret rfl nofun uint_idle rfl ?_
      refine ⟨_, hb1.cell 0, _, hb2.cell 0, ?_, ?_⟩
      · exact (hE.trans' hm7 (fun i hi e => by omega)).trans' hm8 (fun i hi e => by omega)
      · unfold uintS; rw [if_neg (by omega), if_pos (by omega)]
    · refine (number_no (hb.ext hE) hl hn hp).mono ?_
      rintro _ w6 ⟨rfl, rfl⟩
      refine leave_ret (u := .panicking gapc) rfl (fun h => by cases h) (uint_catch (hb1.cell 0) (hb1.frozen 0) (hb2.cell 0) (hb2.frozen 0) hne) rfl ?_
      have hm7 := Mod.setCell w2 ⟨g1, 0, none⟩ (.int .u64 0)
      have hm8 := Mod.setCell (w2.setCell ⟨g1, 0, none⟩ (.int .u64 0)) ⟨g2, 0, none⟩ (.int .i64 10)
      have hb1 := (hb1.set 0 (.int .u64 0)).mod hm8 hne
      have hb2 := (hb2.mod hm7 (fun e => hne e.symm)).set 0 (.int .i64 10)
      refine ⟨_, hb1.cell 0, _, hb2.cell 0, ?_, ?_⟩
      · exact (hE.trans' hm7 (fun i hi e => by simp at e; omega)).trans' hm8 (fun i hi e => by simp at e; omega)
      · unfold uintS; rw [if_neg (by omega), if_neg (by omega)]
  · rw [decide_eq_false hk]
    refine Br.t rfl ?_
    refine SetVC.blk hb1 (by simp) fun w7 hz7 hm7 hb1 => ?_
    have hb2 := hb2.mod hm7 (fun e => hne e.symm)
    refine SetVC.blk hb2 (by simp) fun w8 hz8 hm8 hb2 => ?_
    have hb1 := hb1.mod hm8 hne
    refine ⟨_, hb1.cell 0, _, hb2.cell 0, ?_, ?_⟩
    · exact (hE.trans' hm7 (fun i hi e => by omega)).trans' hm8 (fun i hi e => by omega)
    · unfold uintS; rw [if_pos (by omega)]

/-- A window: what it reads, and where it lies. -/
theorem window_yes {A : Option Addr} {n c : Nat} {p k : Int} {bs : List Value} {w : World} (hb : Cells w A bs) (hl : bs.length = n) (hc : n ≤ c) (hn : n ≤ 4611686018427387904) (h0 : 0 ≤ p) (hk : 0 ≤ k) (h1 : p + k ≤ n) :
    Calls Try.prog 29 #[.slice A n c, .int .i64 p, .int .i64 k] w fun e w' => Ext w w' ∧ ∃ A', e = .returned (.tuple #[.slice A' k.toNat k.toNat, .int .i64 0]) ∧ Cells w A' ((bs.drop p.toNat).take k.toNat) ∧
      A' = if k = 0 then A else A.map (·.add p.toNat) := by
  refine view_Window_of A n c p k w _ ?_
  unfold view_Window_VC
  refine NewVC.blk fun g1 w1 hg1 hz1 hE1 hb1 => NewVC.blk fun g2 w2 hg2 hz2 hE2 hb2 => ?_
  have hE : Ext w w2 := hE1.ext hE2
  have hb1 := hb1.ext hE2
  have hne : g1 ≠ g2 := by omega
  refine Br.no (by omega) ?_
  refine (part_yes (hb.ext hE) hl hc hn h0 hk h1).mono ?_
  rintro _ w6 ⟨rfl, A', rfl, _, rfl⟩
  refine ⟨_, _, _, rfl, ?_⟩
  refine SetVC.blk hb1 (by simp) fun w7 hz7 hm7 hb1 => ?_
  have hb2 := hb2.mod hm7 (fun e => hne e.symm)
  refine SetVC.blk hb2 (by simp) fun w8 hz8 hm8 hb2 => ?_
  have hb1 := hb1.mod hm8 hne
  refine leave_ret rfl nofun window_idle rfl ?_
  refine ⟨_, _, _, hb1.cell 0, _, hb2.cell 0, ?_, _, rfl, ?_, rfl⟩
  · exact (hE.trans' hm7 (fun i hi e => by omega)).trans' hm8 (fun i hi e => by omega)
  · exact hb.win
theorem window_no {A : Option Addr} {n c : Nat} {p k : Int} {w : World} (hn : n ≤ 140737488355328) (h : ¬ (0 ≤ p ∧ 0 ≤ k ∧ p ≤ n ∧ k ≤ n - p)) :
    Calls Try.prog 29 #[.slice A n c, .int .i64 p, .int .i64 k] w fun e w' => Ext w w' ∧ e = .returned (.tuple #[.slice none 0 0, .int .i64 (if k < 0 then 1 else 10)]) := by
  refine view_Window_of A n c p k w _ ?_
  unfold view_Window_VC
  refine NewVC.blk fun g1 w1 hg1 hz1 hE1 hb1 => NewVC.blk fun g2 w2 hg2 hz2 hE2 hb2 => ?_
  have hE : Ext w w2 := hE1.ext hE2
  have hb1 := hb1.ext hE2
  have hne : g1 ≠ g2 := by omega
  refine Br.dec (fun hk => ?_) (fun hk => ?_)
  · refine SetVC.blk hb1 (by simp) fun w7 hz7 hm7 hb1 => ?_
    have hb2 := hb2.mod hm7 (fun e => hne e.symm)
    refine SetVC.blk hb2 (by simp) fun w8 hz8 hm8 hb2 => ?_
    have hb1 := hb1.mod hm8 hne
    refine ⟨_, _, _, hb1.cell 0, _, hb2.cell 0, ?_, ?_⟩
    · exact (hE.trans' hm7 (fun i hi e => by omega)).trans' hm8 (fun i hi e => by omega)
    · rw [if_pos hk]
  · refine (part_no hn (by omega)).mono ?_
    rintro _ w6 ⟨rfl, rfl⟩
    refine leave_ret (u := .panicking gapc) rfl (fun h => by cases h) (window_catch (hb1.cell 0) (hb1.frozen 0) (hb2.cell 0) (hb2.frozen 0) hne) rfl ?_
    have hm7 := Mod.setCell w2 ⟨g1, 0, none⟩ (.slice none 0 0)
    have hm8 := Mod.setCell (w2.setCell ⟨g1, 0, none⟩ (.slice none 0 0)) ⟨g2, 0, none⟩ (.int .i64 10)
    have hb1 := (hb1.set 0 (.slice none 0 0)).mod hm8 hne
    have hb2 := (hb2.mod hm7 (fun e => hne e.symm)).set 0 (.int .i64 10)
    refine ⟨_, _, _, hb1.cell 0, _, hb2.cell 0, ?_, ?_⟩
    · exact (hE.trans' hm7 (fun i hi e => by simp at e; omega)).trans' hm8 (fun i hi e => by simp at e; omega)
    · rw [if_neg hk]
end Go.Proofs.Ytdchpilghgnnoaa
