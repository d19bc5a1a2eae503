/- Contracts of what the cursors reach: a number, a window, a cursor (layer 1's texts, turned to this seat). -/
import Derived.Test.YthhgbpmihhljdaaDoorBas
import Derived.Test.YthhgbpmihhljdaaDoorBak
import Derived.Test.YthhgbpmihhljdaaDoorBaf
import Derived.Test.YthhgbpmihhljdaaDoorBai
import Derived.Test.YthhgbpmihhljdaaDoorBar
import Derived.Test.YthhgbpmihhljdaaDoorBat
namespace Go.Eng
open Go Go.RowKit
end Go.Eng
namespace Go.Proofs.YthhgbpmihhljdaaDoor
namespace Nd
open Go.Eng Go.RowKit
theorem sized_spec (n : Int) (w : World) : Calls Tryd.prog 94 #[.int .i64 n] w fun e w' => w = w' ∧ e = .returned (.bool (decide (1 ≤ n ∧ n ≤ 8))) := by
  refine view_sized_of n w _ ?_
  unfold view_sized_VC
  refine Br.dec (fun h => ⟨rfl, ?_⟩) (fun h => ⟨rfl, ?_⟩)
  · simp [h]
  · simp [h]
theorem number_yes {A : Option Addr} {n c : Nat} {p k : Int} {bs : List Int} {w : World} (hb : Cells w A (bs.map (.int .u8))) (hl : bs.length = n) (hB : Bts bs) (hn : n ≤ 140737488355328) (hk : 1 ≤ k ∧ k ≤ 8) (h0 : 0 ≤ p) (h1 : p + k ≤ n) :
    Calls Tryd.prog 96 #[.slice A n c, .int .i64 p, .int .i64 k] w fun e w' => w = w' ∧ e = .returned (.int .u64 (beNum ((bs.drop p.toNat).take k.toNat))) := by
  refine view_number_of A n c p k w _ ?_
  unfold view_number_VC
  refine Br.no (by omega) (Br.no (by omega) ?_)
  refine LoopVC.of (fun s w1 => w = w1 ∧ 0 ≤ s.2 ∧ s.2 ≤ k ∧ s.1 = beNum ((bs.drop p.toNat).take s.2.toNat)) (fun s _ => (k - s.2).toNat) ?_ ?_
  · exact ⟨rfl, by omega, by omega, by simp [beNum]⟩
  · rintro ⟨v, i⟩ w1 ⟨rfl, hi0, hi1, hv⟩
    simp only at hi0 hi1 hv
    show view_number_L122 _ A n c p k v i w _
    unfold view_number_L122
    refine Br.dec (fun h3 => ?_) (fun h3 => ?_)
    · rw [w64 (n := p + i) (by omega) (by omega)]
      refine (look_yes hb hl (by omega) (by omega)).mono ?_
      rintro _ w2 ⟨rfl, rfl⟩
      have hlen : i.toNat < (bs.drop p.toNat).length := by rw [List.length_drop]; omega
      have e1 : IntKind.i64.wrap (i + 1) = i + 1 := w64 (by omega) (by omega)
      have e2 : (i + 1).toNat = i.toNat + 1 := by omega
      have e3 : (p + i).toNat = p.toNat + i.toNat := by omega
      have hx := hB.at (i := (p + i).toNat) (by omega)
      have hg : bs.getD (p + i).toNat 0 = bs[(p + i).toNat]'(by omega) := by simp [show (p + i).toNat < bs.length by omega]
      have hbd := beNum_bound (bs := (bs.drop p.toNat).take i.toNat) ((hB.drop _).take _)
      have hpw : (256 : Int) ^ ((bs.drop p.toNat).take i.toNat).length ≤ 72057594037927936 := pow256_lt (by rw [List.length_take]; omega)
      rw [e1]
      refine ⟨_, rfl, ⟨rfl, by show 0 ≤ i + 1; omega, by show i + 1 ≤ k; omega, ?_⟩, by show (k - (i + 1)).toNat < (k - i).toNat; omega⟩
      simp only [e2]
      rw [take_succ_getD _ _ hlen, beNum_snoc, getD_drop, ← e3, hg]
      rw [← hv] at hbd ⊢
      rw [wu64 (n := v * 256) (by omega) (by omega), wu64 (n := bs[(p + i).toNat]) (by omega) (by omega)]
      unfold bitv
      simp only
      rw [or_low (v * 256) _ 8 (by omega) hx.1 (by omega) (by omega) IntKind.u64.bits (by show _ < (2 : Int) ^ 64; omega)]
      exact wu64 (by omega) (by omega)
    · refine ⟨rfl, ?_⟩
      have : i = k := by omega
      subst this
      rw [hv]
theorem number_no {A : Option Addr} {n c : Nat} {p k : Int} {bs : List Int} {w : World} (hb : Cells w A (bs.map (.int .u8))) (hl : bs.length = n) (hn : n ≤ 140737488355328) (h : ¬ (0 ≤ p ∧ p + k ≤ n)) :
    Calls Tryd.prog 96 #[.slice A n c, .int .i64 p, .int .i64 k] w fun e w' => w = w' ∧ e = .panicked gapc := by
  refine view_number_of A n c p k w _ ?_
  unfold view_number_VC
  refine Br.dec (fun h1 => ⟨rfl, rfl⟩) (fun h1 => Br.dec (fun h2 => ⟨rfl, rfl⟩) (fun h2 => ?_))
  refine LoopVC.of (fun s w1 => w = w1 ∧ 0 ≤ s.2 ∧ p + s.2 ≤ n) (fun s _ => (k - s.2).toNat) ⟨rfl, by omega, by omega⟩ ?_
  rintro ⟨v, i⟩ w1 ⟨rfl, hi0, hi2⟩
  simp only at hi0 hi2
  show view_number_L122 _ A n c p k v i w _
  unfold view_number_L122
  refine Br.yes (by omega) ?_
  rw [w64 (n := p + i) (by omega) (by omega)]
  by_cases h4 : p + i < n
  · refine (look_yes hb hl (by omega) h4).mono ?_
    rintro _ w2 ⟨rfl, rfl⟩
    have e1 : IntKind.i64.wrap (i + 1) = i + 1 := w64 (by omega) (by omega)
    rw [e1]
    exact ⟨_, rfl, ⟨rfl, by show 0 ≤ i + 1; omega, by show p + (i + 1) ≤ n; omega⟩, by show (k - (i + 1)).toNat < (k - i).toNat; omega⟩
  · refine (look_no (by omega)).mono ?_
    rintro _ w2 ⟨rfl, rfl⟩
    exact ⟨rfl, rfl⟩

section
variable {u : TypeId} {pv : Value} {older : List PanicEntry} {w : World} {g1 g2 g3 : Nat} {x1 x2 x3 : Value}
theorem uint_catch (h1 : w.cell? ⟨g1, 0, none⟩ = some x1) (f1 : w.frozen? ⟨g1, 0, none⟩ = false) (h2 : w.cell? ⟨g2, 0, none⟩ = some x2) (f2 : w.frozen? ⟨g2, 0, none⟩ = false) (hne : g1 ≠ g2) :
    CallsD Tryd.prog 95 #[.pointer (some ⟨g1, 0, none⟩), .pointer (some ⟨g2, 0, none⟩)] (.panicking ({ v := .iface u pv, recovered := false } :: older)) w fun e u' w' =>
      e = .returned (.tuple #[]) ∧ u' = .panicking ({ v := .iface u pv, recovered := true } :: older) ∧ w' = (w.setCell ⟨g1, 0, none⟩ (.int .u64 0)).setCell ⟨g2, 0, none⟩ (.int .i64 10) := by
  have hc2 : (w.setCell ⟨g1, 0, none⟩ (.int .u64 0)).cell? ⟨g2, 0, none⟩ = some x2 := by
    rw [World.cell?_setCell_other]
    · exact h2
    · intro e; injection e with e; exact hne e
  refine callsD_of_wpS Tryd.func95 rfl fun c₀ cs hu => ?_
  apply wpS_seq
  apply wpS_region
  simp [wpOpsS, go_sem, recoverD, hu, Tryd.ntmps95, Exit.thenS]
  refine wpS_cond (t := true) (by simp [Act.eval, Array.replicate]) ?_
  simp only [if_true]
  apply wpS_region
  simp [wpOpsS, go_sem, h1, f1, hc2, f2, bodyPostS, results, Tryd.results95]
theorem uint_idle :
    CallsD Tryd.prog 95 #[.pointer (some ⟨g1, 0, none⟩), .pointer (some ⟨g2, 0, none⟩)] .returning w fun e u' w' => e = .returned (.tuple #[]) ∧ u' = .returning ∧ w' = w := by
  refine callsD_of_wpS Tryd.func95 rfl fun c₀ cs hu => ?_
  apply wpS_seq
  apply wpS_region
  simp [wpOpsS, go_sem, recoverD, hu, Tryd.ntmps95, Exit.thenS]
  refine wpS_cond (t := false) (by simp [Act.eval, Array.replicate]) ?_
  simp only [Bool.false_eq_true, if_false]
  refine wpS_of_wp (wp_skip ?_)
  cases c₀
  simp_all [bodyPostS, results, Tryd.results95]
theorem window_catch (h1 : w.cell? ⟨g1, 0, none⟩ = some x1) (f1 : w.frozen? ⟨g1, 0, none⟩ = false) (h2 : w.cell? ⟨g2, 0, none⟩ = some x2) (f2 : w.frozen? ⟨g2, 0, none⟩ = false) (hne : g1 ≠ g2) :
    CallsD Tryd.prog 92 #[.pointer (some ⟨g1, 0, none⟩), .pointer (some ⟨g2, 0, none⟩)] (.panicking ({ v := .iface u pv, recovered := false } :: older)) w fun e u' w' =>
      e = .returned (.tuple #[]) ∧ u' = .panicking ({ v := .iface u pv, recovered := true } :: older) ∧ w' = (w.setCell ⟨g1, 0, none⟩ (.slice none 0 0)).setCell ⟨g2, 0, none⟩ (.int .i64 10) := by
  have hc2 : (w.setCell ⟨g1, 0, none⟩ (.slice none 0 0)).cell? ⟨g2, 0, none⟩ = some x2 := by
    rw [World.cell?_setCell_other]
    · exact h2
    · intro e; injection e with e; exact hne e
  refine callsD_of_wpS Tryd.func92 rfl fun c₀ cs hu => ?_
  apply wpS_seq
  apply wpS_region
  simp [wpOpsS, go_sem, recoverD, hu, Tryd.ntmps92, Exit.thenS]
  refine wpS_cond (t := true) (by simp [Act.eval, Array.replicate]) ?_
  simp only [if_true]
  apply wpS_region
  simp [wpOpsS, go_sem, h1, f1, hc2, f2, bodyPostS, results, Tryd.results92]
theorem window_idle :
    CallsD Tryd.prog 92 #[.pointer (some ⟨g1, 0, none⟩), .pointer (some ⟨g2, 0, none⟩)] .returning w fun e u' w' => e = .returned (.tuple #[]) ∧ u' = .returning ∧ w' = w := by
  refine callsD_of_wpS Tryd.func92 rfl fun c₀ cs hu => ?_
  apply wpS_seq
  apply wpS_region
  simp [wpOpsS, go_sem, recoverD, hu, Tryd.ntmps92, Exit.thenS]
  refine wpS_cond (t := false) (by simp [Act.eval, Array.replicate]) ?_
  simp only [Bool.false_eq_true, if_false]
  refine wpS_of_wp (wp_skip ?_)
  cases c₀
  simp_all [bodyPostS, results, Tryd.results92]
end
theorem leave_ret {f : FuncId} {cap : Array Value} {fin : World → Prop} {R : Ending → World → Prop} {u : FrameMode} {w w1 : World} (hf : callF f = true) (hu : u ≠ .run) {v : Value}
    {u1 : FrameMode} (h : CallsD Tryd.prog f cap u w fun e u' w' => e = .returned v ∧ u' = u1 ∧ w' = w1) (hs : settle u1 = .returning) (hfin : fin w1) :
    leaveWp Tryd.prog callF fin R [{ target := .fn (.func f) cap, args := #[] }] u w := by
  unfold leaveWp
  simp only [hf, cond_true]
  refine ⟨hu, ?_⟩
  have e : (#[] : Array Value) ++ cap = cap := by simp
  rw [e]
  refine h.mono ?_
  rintro e u' w' ⟨rfl, rfl, rfl⟩
  simp only [hs, leaveWp]
  exact hfin

theorem uint_spec {A : Option Addr} {n c : Nat} {p k : Int} {bs : List Int} {w : World} (hb : Cells w A (bs.map (.int .u8))) (hl : bs.length = n) (hB : Bts bs) (hn : n ≤ 140737488355328) :
    Calls Tryd.prog 88 #[.slice A n c, .int .i64 p, .int .i64 k] w fun e w' => Ext w w' ∧ e = .returned (.tuple #[.int .u64 (uintS bs p k).1, .int .i64 (uintS bs p k).2]) := by
  refine view_Uint_of A n c p k w _ ?_
  unfold view_Uint_VC
  refine NewVC.blk fun g1 w1 hg1 hz1 hE1 hb1 => NewVC.blk fun g2 w2 hg2 hz2 hE2 hb2 => ?_
  have hE : Ext w w2 := hE1.ext hE2
  have hb1 := hb1.ext hE2
  have hne : g1 ≠ g2 := by omega
  refine (sized_spec k w2).mono ?_
  rintro _ w3 ⟨rfl, rfl⟩
  refine ⟨_, rfl, ?_⟩
  by_cases hk : 1 ≤ k ∧ k ≤ 8
  · rw [decide_eq_true hk]
    refine Br.f rfl ?_
    by_cases hp : 0 ≤ p ∧ p + k ≤ n
    · refine (number_yes (hb.ext hE) hl hB hn hk hp.1 hp.2).mono ?_
      rintro _ w6 ⟨rfl, rfl⟩
      refine ⟨_, rfl, ?_⟩
      refine SetVC.blk hb1 (by simp) fun w7 hz7 hm7 hb1 => ?_
      have hb2 := hb2.mod hm7 (fun e => hne e.symm)
      refine SetVC.blk hb2 (by simp) fun w8 hz8 hm8 hb2 => ?_
      have hb1 := hb1.mod hm8 hne
      refine leave_ret rfl nofun uint_idle rfl ?_
      refine ⟨_, hb1.cell 0, _, hb2.cell 0, ?_, ?_⟩
      · exact (hE.trans' hm7 (fun i hi e => by omega)).trans' hm8 (fun i hi e => by omega)
      · unfold uintS; rw [if_neg (by omega), if_pos (by omega)]
    · refine (number_no (hb.ext hE) hl hn hp).mono ?_
      rintro _ w6 ⟨rfl, rfl⟩
      refine leave_ret (u := .panicking gapc) rfl (fun h => by cases h) (uint_catch (hb1.cell 0) (hb1.frozen 0) (hb2.cell 0) (hb2.frozen 0) hne) rfl ?_
      have hm7 := Mod.setCell w2 ⟨g1, 0, none⟩ (.int .u64 0)
      have hm8 := Mod.setCell (w2.setCell ⟨g1, 0, none⟩ (.int .u64 0)) ⟨g2, 0, none⟩ (.int .i64 10)
      have hb1 := (hb1.set 0 (.int .u64 0)).mod hm8 hne
      have hb2 := (hb2.mod hm7 (fun e => hne e.symm)).set 0 (.int .i64 10)
      refine ⟨_, hb1.cell 0, _, hb2.cell 0, ?_, ?_⟩
      · exact (hE.trans' hm7 (fun i hi e => by simp at e; omega)).trans' hm8 (fun i hi e => by simp at e; omega)
      · unfold uintS; rw [if_neg (by omega), if_neg (by omega)]
  · rw [decide_eq_false hk]
    refine Br.t rfl ?_
    refine SetVC.blk hb1 (by simp) fun w7 hz7 hm7 hb1 => ?_
    have hb2 := hb2.mod hm7 (fun e => hne e.symm)
    refine SetVC.blk hb2 (by simp) fun w8 hz8 hm8 hb2 => ?_
    have hb1 := hb1.mod hm8 hne
    refine ⟨_, hb1.cell 0, _, hb2.cell 0, ?_, ?_⟩
    · exact (hE.trans' hm7 (fun i hi e => by omega)).trans' hm8 (fun i hi e => by omega)
    · unfold uintS; rw [if_pos (by omega)]

theorem window_yes {A : Option Addr} {n c : Nat} {p k : Int} {bs : List Value} {w : World} (hb : Cells w A bs) (hl : bs.length = n) (hc : n ≤ c) (hn : n ≤ 4611686018427387904) (h0 : 0 ≤ p) (hk : 0 ≤ k) (h1 : p + k ≤ n) :
    Calls Tryd.prog 78 #[.slice A n c, .int .i64 p, .int .i64 k] w fun e w' => Ext w w' ∧ ∃ A', e = .returned (.tuple #[.slice A' k.toNat k.toNat, .int .i64 0]) ∧ Cells w A' ((bs.drop p.toNat).take k.toNat) ∧
      A' = if k = 0 then A else A.map (·.add p.toNat) := by
  refine view_Window_of A n c p k w _ ?_
  unfold view_Window_VC
  refine NewVC.blk fun g1 w1 hg1 hz1 hE1 hb1 => NewVC.blk fun g2 w2 hg2 hz2 hE2 hb2 => ?_
  have hE : Ext w w2 := hE1.ext hE2
  have hb1 := hb1.ext hE2
  have hne : g1 ≠ g2 := by omega
  refine Br.no (by omega) ?_
  refine (part_yes (hb.ext hE) hl hc hn h0 hk h1).mono ?_
  rintro _ w6 ⟨rfl, A', rfl, _, rfl⟩
  refine ⟨_, _, _, rfl, ?_⟩
  refine SetVC.blk hb1 (by simp) fun w7 hz7 hm7 hb1 => ?_
  have hb2 := hb2.mod hm7 (fun e => hne e.symm)
  refine SetVC.blk hb2 (by simp) fun w8 hz8 hm8 hb2 => ?_
  have hb1 := hb1.mod hm8 hne
  refine leave_ret rfl nofun window_idle rfl ?_
  refine ⟨_, _, _, hb1.cell 0, _, hb2.cell 0, ?_, _, rfl, ?_, rfl⟩
  · exact (hE.trans' hm7 (fun i hi e => by omega)).trans' hm8 (fun i hi e => by omega)
  · exact hb.win
theorem window_no {A : Option Addr} {n c : Nat} {p k : Int} {w : World} (hn : n ≤ 140737488355328) (h : ¬ (0 ≤ p ∧ 0 ≤ k ∧ p ≤ n ∧ k ≤ n - p)) :
    Calls Tryd.prog 78 #[.slice A n c, .int .i64 p, .int .i64 k] w fun e w' => Ext w w' ∧ e = .returned (.tuple #[.slice none 0 0, .int .i64 (if k < 0 then 1 else 10)]) := by
  refine view_Window_of A n c p k w _ ?_
  unfold view_Window_VC
  refine NewVC.blk fun g1 w1 hg1 hz1 hE1 hb1 => NewVC.blk fun g2 w2 hg2 hz2 hE2 hb2 => ?_
  have hE : Ext w w2 := hE1.ext hE2
  have hb1 := hb1.ext hE2
  have hne : g1 ≠ g2 := by omega
  refine Br.dec (fun hk => ?_) (fun hk => ?_)
  · refine SetVC.blk hb1 (by simp) fun w7 hz7 hm7 hb1 => ?_
    have hb2 := hb2.mod hm7 (fun e => hne e.symm)
    refine SetVC.blk hb2 (by simp) fun w8 hz8 hm8 hb2 => ?_
    have hb1 := hb1.mod hm8 hne
    refine ⟨_, _, _, hb1.cell 0, _, hb2.cell 0, ?_, ?_⟩
    · exact (hE.trans' hm7 (fun i hi e => by omega)).trans' hm8 (fun i hi e => by omega)
    · rw [if_pos hk]
  · refine (part_no hn (by omega)).mono ?_
    rintro _ w6 ⟨rfl, rfl⟩
    refine leave_ret (u := .panicking gapc) rfl (fun h => by cases h) (window_catch (hb1.cell 0) (hb1.frozen 0) (hb2.cell 0) (hb2.frozen 0) hne) rfl ?_
    have hm7 := Mod.setCell w2 ⟨g1, 0, none⟩ (.slice none 0 0)
    have hm8 := Mod.setCell (w2.setCell ⟨g1, 0, none⟩ (.slice none 0 0)) ⟨g2, 0, none⟩ (.int .i64 10)
    have hb1 := (hb1.set 0 (.slice none 0 0)).mod hm8 hne
    have hb2 := (hb2.mod hm7 (fun e => hne e.symm)).set 0 (.int .i64 10)
    refine ⟨_, _, _, hb1.cell 0, _, hb2.cell 0, ?_, ?_⟩
    · exact (hE.trans' hm7 (fun i hi e => by simp at e; omega)).trans' hm8 (fun i hi e => by simp at e; omega)
    · rw [if_neg hk]
section
variable {w : World} {n c : Nat} {A : Option Addr} {bs : List Int} {p k : Int}
end
section
variable {w : World} {g n c : Nat} {A : Option Addr} {xs : List Int} {p k : Int}
theorem At_spec : Calls Tryd.prog 58 #[.slice A n c] w fun e w' => Ext w w' ∧ e = .returned (.pointer (some ⟨w.heap.size, 0, none⟩)) ∧ Blk w' w.heap.size 154 [.slice A n c, .int .i64 0] := by
  refine view_At_of A n c w _ ?_
  unfold view_At_VC
  refine NewVC.blk fun g1 w1 hg1 hz1 hE1 hb1 => ?_
  subst hg1
  exact ⟨hE1, rfl, hb1⟩
end
end Nd
end Go.Proofs.YthhgbpmihhljdaaDoor
/- What is read of bytes: windows of them, and memory of the reader's own. -/
namespace Go.Eng
open Go Go.RowKit
inductive All2 {α β : Type} (R : α → β → Prop) : List α → List β → Prop
  | nil : All2 R [] []
  | cons {a : α} {b : β} {l : List α} {m : List β} (h : R a b) (t : All2 R l m) : All2 R (a :: l) (b :: m)
section
variable {α β : Type} {R : α → β → Prop} {l l' : List α} {m m' : List β}
theorem All2.append (h : All2 R l m) (h' : All2 R l' m') : All2 R (l ++ l') (m ++ m') := by
  induction h with
  | nil => exact h'
  | cons h _ ih => exact .cons h ih
theorem All2.len (h : All2 R l m) : l.length = m.length := by
  induction h with
  | nil => rfl
  | cons _ _ ih => simp [ih]
theorem All2.right (h : All2 R l m) : ∀ y ∈ m, ∃ x ∈ l, R x y := by
  induction h with
  | nil => intro y hy; cases hy
  | cons h _ ih =>
    intro y hy
    rcases List.mem_cons.1 hy with rfl | hy
    · exact ⟨_, List.mem_cons_self, h⟩
    · obtain ⟨x, hx, hr⟩ := ih y hy
      exact ⟨x, List.mem_cons_of_mem _ hx, hr⟩
theorem All2.map_eq {γ : Type} {f : α → γ} {g : β → γ} (h : All2 R l m) (hf : ∀ x y, R x y → g y = f x) : m.map g = l.map f := by
  induction h with
  | nil => rfl
  | cons h _ ih => rw [List.map_cons, List.map_cons, ih, hf _ _ h]
end
theorem onRet_is {A : Value → World → Prop} {Q : List PanicEntry → World → Prop} {v : Value} {w' : World} (h : A v w') : onRet A Q (.returned v) w' := h
def Fct.nil : Fct := ⟨fun _ => False, fun _ => True, fun _ _ _ _ _ _ _ => trivial⟩
/-- n bytes from p on, with no room behind. -/
def winSl (s : Sl) (p n : Nat) : Sl := ⟨if n = 0 then s.A else s.A.map (·.add p), n, n⟩
theorem BytesAt.win {w : World} {s : Sl} {l : List Int} (h : BytesAt w s l) {p n : Nat} (hp : p + n ≤ l.length) : BytesAt w (winSl s p n) (bpart l p n) := by
  have hl := h.len
  refine ⟨bpart_len hp, Nat.le_refl _, ?_, (h.bts.drop p).take n, ?_⟩
  · have := h.small; show n ≤ 4000000; omega
  · have := Cells.win h.cells (p := (p : Int)) (k := (n : Int))
    unfold bpart winSl
    rw [List.map_take, List.map_drop]
    simp only [Int.toNat_natCast] at this
    by_cases h0 : n = 0
    · subst h0; simpa using this
    · rw [if_neg h0]
      rw [if_neg (by omega)] at this
      exact this
/-- A row that was read of an option. -/
structure OptIs (s : Sl) (l : List Int) (o : OP) (r : OptR) : Prop where
  d : r.d = o.d l
  kind : r.v.kind = o.kind
  n : r.v.data.n = o.n
  win : o.kind ≠ 0 → r.v.data = winSl s o.p o.n
structure ExtIs (s : Sl) (l : List Int) (x : EP) (r : ExtR) : Prop where
  kind : r.v.kind = x.kind
  opts : All2 (OptIs (winSl s x.p x.n) (bpart l x.p x.n)) x.opts r.opts
  on : r.opts.length = r.v.opts.n
  data : r.v.data = (if x.kind = 43 then winSl s x.p x.n else Sl.z)
  bytes : r.data = (if x.kind = 43 then bpart l x.p x.n else [])
theorem ExtIs.d {s : Sl} {l : List Int} {x : EP} {r : ExtR} (h : ExtIs s l x r) : r.d = x.d l := by
  unfold ExtR.d EP.d
  rw [h.kind, h.bytes, h.opts.map_eq fun o r h => h.d]
end Go.Eng
namespace Go.Proofs.YthhgbpmihhljdaaDoor
namespace N6
open Go.Eng Go.RowKit
def padF (b : Nat) (r : OptR) : Fct := if r.v.kind = 0 then rowB b r.v.data r.data else Fct.nil
def readO (b : Nat) (s : Sl) (rs : List OptR) : List Fct := rowO b s rs :: rs.map (padF b)
def readX1 (b : Nat) (r : ExtR) : List Fct := readO b r.v.opts r.opts
def readX (b : Nat) (s : Sl) (rs : List ExtR) : List Fct := rowE b s rs :: rs.flatMap (readX1 b)
section
variable {w : World} {b b' : Nat} {s so se : Sl} {l : List Int}
theorem padF_less (h : b' ≤ b) (r : OptR) : (∀ w, (padF b r).φ w → (padF b' r).φ w) ∧ ∀ k, (padF b' r).R k → (padF b r).R k := by
  unfold padF
  split
  · exact own_less h
  · exact ⟨fun _ h => h, fun _ h => h⟩
theorem readO_less {rs : List OptR} (h : b' ≤ b) : AllLe (readO b s rs) (readO b' s rs) := .cons (own_less h).1 (own_less h).2 (AllLe.map rs fun r _ => padF_less h r)
theorem optsAt_read {os : List OP} {rs : List OptR} (h : ∀ f ∈ readO b so rs, f.φ w) (hB : BytesAt w s l) (hA : All2 (OptIs s l) os rs) (hin : ∀ o ∈ os, o.inside l) (hl : rs.length = so.n) (hn : so.n ≤ 4000000) : OptsAt w so rs := by
  have h0 := h (rowO b so rs) (by simp [readO])
  refine ⟨hl, own_le h0, hn, Recs.of_cells (by decide) (fun r hr => ?_) (own_cells (A := so.A) (c := so.k) h0), fun r hr => ?_⟩
  · obtain ⟨x, _, rfl⟩ := List.mem_map.1 hr; rfl
  · obtain ⟨o, ho, hr'⟩ := hA.right r hr
    have hd := congrArg OptD.data hr'.d
    by_cases hk : o.kind = 0
    · have hp := h (padF b r) (List.mem_cons_of_mem _ (List.mem_map_of_mem hr))
      unfold padF at hp
      rw [if_pos (hr'.kind.trans hk)] at hp
      have hon : o.n ≤ l.length := by
        rcases hin o ho with ⟨_, _, h⟩ | ⟨h, _⟩
        · exact h
        · omega
      have hls := hB.small
      have hll := hB.len
      refine bytesAt_of hp ⟨by rw [hr'.n]; omega, ?_⟩
      have : r.data = List.replicate o.n 0 := by
        have e : (o.d l).data = List.replicate o.n 0 := by unfold OP.d; rw [if_pos hk]
        rw [← e]; exact hd
      rw [this]
      exact bts_zeros _
    · have e : (o.d l).data = bpart l o.p o.n := by unfold OP.d; rw [if_neg hk]
      have : r.data = bpart l o.p o.n := by rw [← e]; exact hd
      rw [this, hr'.win hk]
      exact hB.win (by
        rcases hin o ho with ⟨h, _⟩ | ⟨_, _, h, _⟩
        · exact absurd h hk
        · exact h)
theorem optsS_count {b : List Int} : ∀ (k p run : Nat) (l : List OP), b.length - p ≤ k → optsS b p run = some l → l.length ≤ (b.length - p) + (if run = 0 then 0 else 1) := by
  have hf : ∀ run, (flushS run).length = if run = 0 then 0 else 1 := fun run => by unfold flushS; split <;> rfl
  intro k
  induction k with
  | zero =>
    intro p run l hk h
    rw [optsS_end (by omega)] at h
    injection h with h; subst h
    rw [hf]; omega
  | succ k ih =>
    intro p run l hk h
    rcases Nat.lt_or_ge p b.length with hlt | hge
    · by_cases h0 : b.getD p 0 = 0
      · rw [optsS_zero hlt h0] at h
        have := ih _ _ _ (by omega) h
        rw [if_neg (by omega)] at this
        split <;> omega
      · rcases Nat.lt_or_ge b.length (p + 2 + (b.getD (p + 1) 0).toNat) with h2 | h2
        · rw [optsS_none hlt h0 h2] at h; cases h
        · by_cases h1 : b.getD p 0 = 1
          · rw [optsS_pad h1 h2] at h
            have := ih _ _ _ (by omega) h
            rw [if_neg (by omega)] at this
            split <;> omega
          · rw [optsS_opt h0 h1 h2] at h
            cases hr2 : optsS b (p + 2 + (b.getD (p + 1) 0).toNat) 0 with
            | none => rw [hr2] at h; cases h
            | some m =>
              rw [hr2] at h
              injection h with h; subst h
              have := ih _ _ _ (by omega) hr2
              rw [if_pos rfl] at this
              rw [List.length_append, List.length_cons, hf]
              omega
    · rw [optsS_end hge] at h
      injection h with h; subst h
      rw [hf]; omega
theorem extsAt_read {xs : List EP} {rs : List ExtR} (h : ∀ f ∈ readX b se rs, f.φ w) (hB : BytesAt w s l) (hA : All2 (ExtIs s l) xs rs) (hin : ∀ x ∈ xs, x.inside l) (hl : rs.length = se.n) (hn : se.n ≤ 4000000) : ExtsAt w se rs := by
  have h0 := h (rowE b se rs) (by simp [readX])
  have h1 : ∀ r ∈ rs, ∀ f ∈ readX1 b r, f.φ w := fun r hr f hf => h f (List.mem_cons_of_mem _ (List.mem_flatMap.2 ⟨r, hr, hf⟩))
  refine ⟨hl, own_le h0, hn, Recs.of_cells (by decide) (fun r hr => ?_) (own_cells (A := se.A) (c := se.k) h0), fun r hr => ?_, fun r hr => ?_⟩
  · obtain ⟨x, _, rfl⟩ := List.mem_map.1 hr; rfl
  · obtain ⟨x, hx, hr'⟩ := hA.right r hr
    obtain ⟨hk, hp, hnn, h8, hi⟩ := hin x hx
    have hW := hB.win hp
    have hpl : (bpart l x.p x.n).length = x.n := bpart_len hp
    have hcount : x.opts.length ≤ x.n := by
      unfold inS at hi
      split at hi
      · injection hi with hi; rw [← hi]; exact Nat.zero_le _
      · have := optsS_count _ 0 0 _ (Nat.le_refl _) hi
        rw [if_pos rfl, hpl] at this
        omega
    have hoi : ∀ o ∈ x.opts, o.inside (bpart l x.p x.n) := by
      unfold inS at hi
      split at hi
      · injection hi with hi; rw [← hi]; intro o ho; cases ho
      · exact optsS_inside hW.bts _ 0 0 _ (Nat.le_refl _) (Nat.le_refl _) (Nat.zero_le _) hi
    have := hr'.opts.len
    have := hr'.on
    exact optsAt_read (h1 r hr) hW hr'.opts hoi hr'.on (by omega)
  · obtain ⟨x, hx, hr'⟩ := hA.right r hr
    obtain ⟨hk, hp, hnn, h8, hi⟩ := hin x hx
    rw [hr'.data, hr'.bytes]
    split
    · exact hB.win hp
    · exact BytesAt.nil _ _ _
end
end N6
end Go.Proofs.YthhgbpmihhljdaaDoor
/- Chapter 7, reading: options, the program's. -/
namespace Go.Proofs.YthhgbpmihhljdaaDoor
namespace N6
open Go.Eng Go.RowKit
def cutc : List PanicEntry := [{ v := .iface 180 (.agg #[]), recovered := false }]
section
variable {u : TypeId} {pv : Value} {older : List PanicEntry} {w : World} {g1 g2 : Nat} {x1 x2 : Value}
theorem options_catch (h1 : w.cell? ⟨g1, 0, none⟩ = some x1) (f1 : w.frozen? ⟨g1, 0, none⟩ = false) (h2 : w.cell? ⟨g2, 0, none⟩ = some x2) (f2 : w.frozen? ⟨g2, 0, none⟩ = false) (hne : g1 ≠ g2) :
    CallsD Tryd.prog 89 #[.pointer (some ⟨g1, 0, none⟩), .pointer (some ⟨g2, 0, none⟩)] (.panicking ({ v := .iface u pv, recovered := false } :: older)) w fun e u' w' =>
      e = .returned (.tuple #[]) ∧ u' = .panicking ({ v := .iface u pv, recovered := true } :: older) ∧ w' = (w.setCell ⟨g1, 0, none⟩ (.slice none 0 0)).setCell ⟨g2, 0, none⟩ (.int .i64 75) := by
  have hc2 : (w.setCell ⟨g1, 0, none⟩ (.slice none 0 0)).cell? ⟨g2, 0, none⟩ = some x2 := by
    rw [World.cell?_setCell_other]
    · exact h2
    · intro e; injection e with e; exact hne e
  refine callsD_of_wpS Tryd.func89 rfl fun c₀ cs hu => ?_
  apply wpS_seq
  apply wpS_region
  simp [wpOpsS, go_sem, recoverD, hu, Tryd.ntmps89, Exit.thenS]
  refine wpS_cond (t := true) (by simp [Act.eval, Array.replicate]) ?_
  simp only [if_true]
  apply wpS_region
  simp [wpOpsS, go_sem, h1, f1, hc2, f2, bodyPostS, results, Tryd.results89]
theorem options_idle :
    CallsD Tryd.prog 89 #[.pointer (some ⟨g1, 0, none⟩), .pointer (some ⟨g2, 0, none⟩)] .returning w fun e u' w' => e = .returned (.tuple #[]) ∧ u' = .returning ∧ w' = w := by
  refine callsD_of_wpS Tryd.func89 rfl fun c₀ cs hu => ?_
  apply wpS_seq
  apply wpS_region
  simp [wpOpsS, go_sem, recoverD, hu, Tryd.ntmps89, Exit.thenS]
  refine wpS_cond (t := false) (by simp [Act.eval, Array.replicate]) ?_
  simp only [Bool.false_eq_true, if_false]
  refine wpS_of_wp (wp_skip ?_)
  cases c₀
  simp_all [bodyPostS, results, Tryd.results89]
end
section
variable {w : World} {s : Sl} {l : List Int}
theorem uintS_one {p : Nat} (h : p + 1 ≤ l.length) : uintS l (p : Int) 1 = (l.getD p 0, 0) := by
  unfold uintS
  rw [if_neg (by omega), if_pos (by omega)]
  have e : (l.drop p).take 1 = [l.getD p 0] := by
    rw [List.take_one, List.head?_drop, List.getElem?_eq_getElem (by omega), List.getD_eq_getElem?_getD, List.getElem?_eq_getElem (by omega)]; rfl
  rw [Int.toNat_natCast, show (1 : Int).toNat = 1 from rfl, e]
  simp [beNum]
theorem uintS_out {p : Nat} (h : l.length < p + 1) : uintS l (p : Int) 1 = (0, 10) := by
  unfold uintS
  rw [if_neg (by omega), if_neg (by omega)]
theorem option_yes (hB : BytesAt w s l) {p : Nat} (h : p + 2 + (l.getD (p + 1) 0).toNat ≤ l.length) : Calls Tryd.prog 91 #[s.val, .int .i64 p] w fun e w' => Ext w w' ∧ e = .returned (.int .i64 ((2 + (l.getD (p + 1) 0).toNat : Nat) : Int)) := by
  refine ip6_option_of s.A s.n s.k p w _ ?_
  unfold ip6_option_VC
  have hl := hB.len
  have hs := hB.small
  have hb := getD_byte hB.bts (p + 1)
  rw [w64 (n := (p : Int) + 1) (by omega) (by omega), w64 (n := (p : Int) + 2) (by omega) (by omega)]
  refine (Nd.uint_spec hB.cells hB.len hB.bts (by omega)).mono ?_
  rintro _ w1 ⟨hE, rfl⟩
  have := uintS_one (l := l) (p := p + 1) (by omega)
  rw [show (((p + 1 : Nat)) : Int) = (p : Int) + 1 by omega] at this
  rw [this]
  refine ⟨_, _, rfl, Br.no (fun h => h rfl) ?_⟩
  rw [w64 (n := l.getD (p + 1) 0) (by omega) (by omega), w64 (by omega) (by omega)]
  refine Br.no (by omega) ⟨hE, ?_⟩
  rw [w64 (by omega) (by omega)]
  congr 3
  omega
theorem option_no (hB : BytesAt w s l) {p : Nat} (hp : p ≤ l.length) (h : l.length < p + 2 + (l.getD (p + 1) 0).toNat) : Calls Tryd.prog 91 #[s.val, .int .i64 p] w fun e w' => Ext w w' ∧ e = .panicked cutc := by
  refine ip6_option_of s.A s.n s.k p w _ ?_
  unfold ip6_option_VC
  have hl := hB.len
  have hs := hB.small
  have hb := getD_byte hB.bts (p + 1)
  rw [w64 (n := (p : Int) + 1) (by omega) (by omega), w64 (n := (p : Int) + 2) (by omega) (by omega)]
  refine (Nd.uint_spec hB.cells hB.len hB.bts (by omega)).mono ?_
  rintro _ w1 ⟨hE, rfl⟩
  rcases Nat.lt_or_ge l.length (p + 1 + 1) with h1 | h1
  · have := uintS_out (l := l) (p := p + 1) (by omega)
    rw [show (((p + 1 : Nat)) : Int) = (p : Int) + 1 by omega] at this
    rw [this]
    exact ⟨_, _, rfl, Br.yes (show ¬ ((10 : Int) = 0) by decide) ⟨hE, rfl⟩⟩
  · have := uintS_one (l := l) (p := p + 1) (by omega)
    rw [show (((p + 1 : Nat)) : Int) = (p : Int) + 1 by omega] at this
    rw [this]
    refine ⟨_, _, rfl, Br.no (fun h => h rfl) ?_⟩
    rw [w64 (n := l.getD (p + 1) 0) (by omega) (by omega), w64 (by omega) (by omega)]
    exact Br.yes (by omega) ⟨hE, rfl⟩
abbrev oBlks (g1 g2 g3 : Nat) (so : Sl) (run : Nat) : List Fct := [Fct.blk g1 33 [so.val], Fct.blk g2 26 [.int .i64 0], Fct.blk g3 3 [.int .i64 run]]
set_option maxHeartbeats 1000000 in
theorem flush_spec {w0 : World} {g1 g2 g3 run : Nat} {so : Sl} {rs : List OptR} (H : Sep (Fct.rest w0 None :: (oBlks g1 g2 g3 so run ++ readO w0.heap.size so rs)) w) (hn : so.n = rs.length) (hs : so.n ≤ 1000000000) (hr : run ≤ 4000000) :
    Calls Tryd.prog 90 #[.pointer (some ⟨g3, 0, none⟩), .pointer (some ⟨g1, 0, none⟩)] w fun e w' => e = .returned (.tuple #[]) ∧ ∃ (so' : Sl) (nr : List OptR), All2 (OptIs s l) (flushS run) nr ∧ so'.n = (rs ++ nr).length ∧
      Sep (Fct.rest w0 None :: (oBlks g1 g2 g3 so' 0 ++ readO w0.heap.size so' (rs ++ nr))) w' := by
  refine ip6_flush_of g3 g1 w _ ?_
  unfold ip6_flush_VC
  refine ⟨_, H.cell 3 rfl 0 rfl, Br.dec (fun hpos => ?_) fun hz => ?_⟩
  · refine DrawVC.sep H (fun w' => Blk w' g1 33 [so.val] ∧ Blk w' g3 3 [.int .i64 run]) fun w1 H => ⟨⟨H.blk 1 rfl, H.blk 3 rfl⟩, _, _, _, fun w' hb => hb.1.cell 0, _, fun w' hb => hb.2.cell 0, ?_⟩
    refine MakeVC.sep H (by omega) (Int.le_refl _) (by omega) fun g4 w2 H => ⟨⟨H.blk 1 rfl, H.blk 3 rfl⟩, ?_⟩
    have H := H.front
    refine NewVC.sep H fun g5 w3 H => ?_
    have H := H.front
    refine ⟨⟨H.blk 3 rfl, H.blk 5 rfl⟩, ?_⟩
    have hsz := (H.restOf 2 rfl).size
    have hg4 := H.fresh 2 1 (by decide) rfl rfl
    rw [Int.toNat_natCast] at H
    have H := H.blkOwn 1 rfl (b := w0.heap.size) (n := run) (c := run) hg4 (by simp) (Nat.le_refl _) (by simp only [maxLen]; omega)
    rw [List.take_of_length_le (by simp)] at H
    refine appO (o := ⟨0, ⟨some ⟨g4, 0, none⟩, run, run⟩⟩) H 6 rfl (Cells.blk0 (H.blk 0 rfl)) hs (by omega) fun A2 c2 w4 H hc2 => ?_
    refine ⟨⟨H.blk 3 rfl, H.blk 5 rfl⟩, SetVC.sep H 3 rfl (show 0 < 1 by decide) fun w5 H => SetVC.sep H 5 rfl (show 0 < 1 by decide) fun w6 H => ?_⟩
    refine ⟨rfl, ⟨A2, so.n + 1, c2⟩, [⟨⟨0, ⟨some ⟨g4, 0, none⟩, run, run⟩⟩, List.replicate run 0⟩], ?_, by simp [hn], ?_⟩
    · unfold flushS
      rw [if_neg (by omega)]
      exact .cons ⟨rfl, rfl, rfl, fun h => absurd rfl h⟩ .nil
    · have H := H.tail.rot
      unfold readO rowO
      have e : padF w0.heap.size ⟨⟨0, ⟨some ⟨g4, 0, none⟩, run, run⟩⟩, List.replicate run 0⟩ = Fct.own w0.heap.size 5 1 (.slice (some ⟨g4, 0, none⟩) run run) run (List.replicate run (.int .u8 0)) := by
        unfold padF
        rw [if_pos rfl]
        show Fct.own _ _ _ _ _ ((List.replicate run 0).map (Value.int .u8)) = _
        rw [List.map_replicate]; rfl
      simp only [List.map_append, List.map_cons, List.map_nil, List.flatten_append, List.flatten_cons, List.flatten_nil, List.append_nil, e]
      exact H
  · have h0 : run = 0 := by omega
    subst h0
    refine SetVC.sep H 3 rfl (show 0 < 1 by decide) fun w1 H => ⟨rfl, so, [], .nil, by simpa using hn, ?_⟩
    rw [List.append_nil]
    exact H
end
end N6
end Go.Proofs.YthhgbpmihhljdaaDoor
