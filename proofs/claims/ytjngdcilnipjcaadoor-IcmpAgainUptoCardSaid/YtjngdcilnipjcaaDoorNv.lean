/- Contracts of what the cursors reach: a number, a window, a cursor (layer 1's texts, turned to this seat). -/
import Derived.Test.YtjngdcilnipjcaaDoorVn
import Derived.Test.YtjngdcilnipjcaaDoorC4i
import Derived.Test.YtjngdcilnipjcaaDoorGen
namespace Go.Eng
open Go Go.RowKit
end Go.Eng
namespace Go.Proofs.YtjngdcilnipjcaaDoor
namespace Nd
open Go.Eng Go.RowKit
theorem sized_spec (n : Int) (w : World) : Calls Tryd.prog 111 #[.int .i64 n] w fun e w' => w = w' ∧ e = .returned (.bool (decide (1 ≤ n ∧ n ≤ 8))) := by
  refine view_sized_of n w _ ?_
  unfold view_sized_VC
  refine Br.dec (fun h => ⟨rfl, ?_⟩) (fun h => ⟨rfl, ?_⟩)
  · simp [h]
  · simp [h]
theorem number_yes {A : Option Addr} {n c : Nat} {p k : Int} {bs : List Int} {w : World} (hb : Cells w A (bs.map (.int .u8))) (hl : bs.length = n) (hB : Bts bs) (hn : n ≤ 140737488355328) (hk : 1 ≤ k ∧ k ≤ 8) (h0 : 0 ≤ p) (h1 : p + k ≤ n) :
    Calls Tryd.prog 113 #[.slice A n c, .int .i64 p, .int .i64 k] w fun e w' => w = w' ∧ e = .returned (.int .u64 (beNum ((bs.drop p.toNat).take k.toNat))) := by
  refine view_number_of A n c p k w _ ?_
  unfold view_number_VC
  refine Br.no (by omega) (Br.no (by omega) ?_)
  refine LoopVC.of (fun s w1 => w = w1 ∧ 0 ≤ s.2 ∧ s.2 ≤ k ∧ s.1 = beNum ((bs.drop p.toNat).take s.2.toNat)) (fun s _ => (k - s.2).toNat) ?_ ?_
  · exact ⟨rfl, by omega, by omega, by simp [beNum]⟩
  · rintro ⟨v, i⟩ w1 ⟨rfl, hi0, hi1, hv⟩
    simp only at hi0 hi1 hv
    show view_number_L122 _ A n c p k v i w _
    unfold view_number_L122
    refine Br.dec (fun h3 => ?_) (fun h3 => ?_)
    · rw [w64 (n := p + i) (by omega) (by omega)]
      refine (look_yes hb hl (by omega) (by omega)).mono ?_
      rintro _ w2 ⟨rfl, rfl⟩
      have hlen : i.toNat < (bs.drop p.toNat).length := by rw [List.length_drop]; omega
      have e1 : IntKind.i64.wrap (i + 1) = i + 1 := w64 (by omega) (by omega)
      have e2 : (i + 1).toNat = i.toNat + 1 := by omega
      have e3 : (p + i).toNat = p.toNat + i.toNat := by omega
      have hx := hB.at (i := (p + i).toNat) (by omega)
      have hg : bs.getD (p + i).toNat 0 = bs[(p + i).toNat]'(by omega) := by simp [show (p + i).toNat < bs.length by omega]
      have hbd := beNum_bound (bs := (bs.drop p.toNat).take i.toNat) ((hB.drop _).take _)
      have hpw : (256 : Int) ^ ((bs.drop p.toNat).take i.toNat).length ≤ 72057594037927936 := pow256_lt (by rw [List.length_take]; omega)
      rw [e1]
      refine ⟨_, rfl, ⟨rfl, by show 0 ≤ i + 1; omega, by show i + 1 ≤ k; omega, ?_⟩, by show (k - (i + 1)).toNat < (k - i).toNat; omega⟩
      simp only [e2]
      rw [take_succ_getD _ _ hlen, beNum_snoc, getD_drop, ← e3, hg]
      rw [← hv] at hbd ⊢
      rw [wu64 (n := v * 256) (by omega) (by omega), wu64 (n := bs[(p + i).toNat]) (by omega) (by omega)]
      unfold bitv
      simp only
      rw [or_low (v * 256) _ 8 (by omega) hx.1 (by omega) (by omega) IntKind.u64.bits (by show _ < (2 : Int) ^ 64; omega)]
      exact wu64 (by omega) (by omega)
    · refine ⟨rfl, ?_⟩
      have : i = k := by omega
      subst this
      rw [hv]
theorem number_no {A : Option Addr} {n c : Nat} {p k : Int} {bs : List Int} {w : World} (hb : Cells w A (bs.map (.int .u8))) (hl : bs.length = n) (hn : n ≤ 140737488355328) (h : ¬ (0 ≤ p ∧ p + k ≤ n)) :
    Calls Tryd.prog 113 #[.slice A n c, .int .i64 p, .int .i64 k] w fun e w' => w = w' ∧ e = .panicked gapc := by
  refine view_number_of A n c p k w _ ?_
  unfold view_number_VC
  refine Br.dec (fun h1 => ⟨rfl, rfl⟩) (fun h1 => Br.dec (fun h2 => ⟨rfl, rfl⟩) (fun h2 => ?_))
  refine LoopVC.of (fun s w1 => w = w1 ∧ 0 ≤ s.2 ∧ p + s.2 ≤ n) (fun s _ => (k - s.2).toNat) ⟨rfl, by omega, by omega⟩ ?_
  rintro ⟨v, i⟩ w1 ⟨rfl, hi0, hi2⟩
  simp only at hi0 hi2
  show view_number_L122 _ A n c p k v i w _
  unfold view_number_L122
  refine Br.yes (by omega) ?_
  rw [w64 (n := p + i) (by omega) (by omega)]
  by_cases h4 : p + i < n
  · refine (look_yes hb hl (by omega) h4).mono ?_
    rintro _ w2 ⟨rfl, rfl⟩
    have e1 : IntKind.i64.wrap (i + 1) = i + 1 := w64 (by omega) (by omega)
    rw [e1]
    exact ⟨_, rfl, ⟨rfl, by show 0 ≤ i + 1; omega, by show p + (i + 1) ≤ n; omega⟩, by show (k - (i + 1)).toNat < (k - i).toNat; omega⟩
  · refine (look_no (by omega)).mono ?_
    rintro _ w2 ⟨rfl, rfl⟩
    exact ⟨rfl, rfl⟩


section
variable {u : TypeId} {pv : Value} {older : List PanicEntry} {w : World} {g1 g2 g3 : Nat} {x1 x2 x3 : Value}
theorem uint_catch (h1 : w.cell? ⟨g1, 0, none⟩ = some x1) (f1 : w.frozen? ⟨g1, 0, none⟩ = false) (h2 : w.cell? ⟨g2, 0, none⟩ = some x2) (f2 : w.frozen? ⟨g2, 0, none⟩ = false) (hne : g1 ≠ g2) :
    CallsD Tryd.prog 112 #[.pointer (some ⟨g1, 0, none⟩), .pointer (some ⟨g2, 0, none⟩)] (.panicking ({ v := .iface u pv, recovered := false } :: older)) w fun e u' w' =>
      e = .returned (.tuple #[]) ∧ u' = .panicking ({ v := .iface u pv, recovered := true } :: older) ∧ w' = (w.setCell ⟨g1, 0, none⟩ (.int .u64 0)).setCell ⟨g2, 0, none⟩ (.int .i64 10) := by
  have hc2 : (w.setCell ⟨g1, 0, none⟩ (.int .u64 0)).cell? ⟨g2, 0, none⟩ = some x2 := by
    rw [World.cell?_setCell_other]
    · exact h2
    · intro e; injection e with e; exact hne e
  refine callsD_of_wpS Tryd.func112 rfl fun c₀ cs hu => ?_
  apply wpS_seq
  apply wpS_region
  simp [wpOpsS, go_sem, recoverD, hu, Tryd.ntmps112, Exit.thenS]
  refine wpS_cond (t := true) (by simp [Act.eval, Array.replicate]) ?_
  simp only [if_true]
  apply wpS_region
  simp [wpOpsS, go_sem, h1, f1, hc2, f2, bodyPostS, results, Tryd.results112]
theorem uint_idle :
    CallsD Tryd.prog 112 #[.pointer (some ⟨g1, 0, none⟩), .pointer (some ⟨g2, 0, none⟩)] .returning w fun e u' w' => e = .returned (.tuple #[]) ∧ u' = .returning ∧ w' = w := by
  refine callsD_of_wpS Tryd.func112 rfl fun c₀ cs hu => ?_
  apply wpS_seq
  apply wpS_region
  simp [wpOpsS, go_sem, recoverD, hu, Tryd.ntmps112, Exit.thenS]
  refine wpS_cond (t := false) (by simp [Act.eval, Array.replicate]) ?_
  simp only [Bool.false_eq_true, if_false]
  refine wpS_of_wp (wp_skip ?_)
  cases c₀
  simp_all [bodyPostS, results, Tryd.results112]
theorem window_catch (h1 : w.cell? ⟨g1, 0, none⟩ = some x1) (f1 : w.frozen? ⟨g1, 0, none⟩ = false) (h2 : w.cell? ⟨g2, 0, none⟩ = some x2) (f2 : w.frozen? ⟨g2, 0, none⟩ = false) (hne : g1 ≠ g2) :
    CallsD Tryd.prog 114 #[.pointer (some ⟨g1, 0, none⟩), .pointer (some ⟨g2, 0, none⟩)] (.panicking ({ v := .iface u pv, recovered := false } :: older)) w fun e u' w' =>
      e = .returned (.tuple #[]) ∧ u' = .panicking ({ v := .iface u pv, recovered := true } :: older) ∧ w' = (w.setCell ⟨g1, 0, none⟩ (.slice none 0 0)).setCell ⟨g2, 0, none⟩ (.int .i64 10) := by
  have hc2 : (w.setCell ⟨g1, 0, none⟩ (.slice none 0 0)).cell? ⟨g2, 0, none⟩ = some x2 := by
    rw [World.cell?_setCell_other]
    · exact h2
    · intro e; injection e with e; exact hne e
  refine callsD_of_wpS Tryd.func114 rfl fun c₀ cs hu => ?_
  apply wpS_seq
  apply wpS_region
  simp [wpOpsS, go_sem, recoverD, hu, Tryd.ntmps114, Exit.thenS]
  refine wpS_cond (t := true) (by simp [Act.eval, Array.replicate]) ?_
  simp only [if_true]
  apply wpS_region
  simp [wpOpsS, go_sem, h1, f1, hc2, f2, bodyPostS, results, Tryd.results114]
theorem window_idle :
    CallsD Tryd.prog 114 #[.pointer (some ⟨g1, 0, none⟩), .pointer (some ⟨g2, 0, none⟩)] .returning w fun e u' w' => e = .returned (.tuple #[]) ∧ u' = .returning ∧ w' = w := by
  refine callsD_of_wpS Tryd.func114 rfl fun c₀ cs hu => ?_
  apply wpS_seq
  apply wpS_region
  simp [wpOpsS, go_sem, recoverD, hu, Tryd.ntmps114, Exit.thenS]
  refine wpS_cond (t := false) (by simp [Act.eval, Array.replicate]) ?_
  simp only [Bool.false_eq_true, if_false]
  refine wpS_of_wp (wp_skip ?_)
  cases c₀
  simp_all [bodyPostS, results, Tryd.results114]
end
theorem leave_ret {f : FuncId} {cap : Array Value} {fin : World → Prop} {R : Ending → World → Prop} {u : FrameMode} {w w1 : World} (hf : callF f = true) (hu : u ≠ .run) {v : Value}
    {u1 : FrameMode} (h : CallsD Tryd.prog f cap u w fun e u' w' => e = .returned v ∧ u' = u1 ∧ w' = w1) (hs : settle u1 = .returning) (hfin : fin w1) :
    leaveWp Tryd.prog callF fin R [{ target := .fn (.func f) cap, args := #[] }] u w := by
  unfold leaveWp
  simp only [hf, cond_true]
  refine ⟨hu, ?_⟩
  have e : (#[] : Array Value) ++ cap = cap := by simp
  rw [e]
  refine h.mono ?_
  rintro e u' w' ⟨rfl, rfl, rfl⟩
  simp only [hs, leaveWp]
  exact hfin

theorem uint_spec {A : Option Addr} {n c : Nat} {p k : Int} {bs : List Int} {w : World} (hb : Cells w A (bs.map (.int .u8))) (hl : bs.length = n) (hB : Bts bs) (hn : n ≤ 140737488355328) :
    Calls Tryd.prog 85 #[.slice A n c, .int .i64 p, .int .i64 k] w fun e w' => Ext w w' ∧ e = .returned (.tuple #[.int .u64 (uintS bs p k).1, .int .i64 (uintS bs p k).2]) := by
  refine view_Uint_of A n c p k w _ ?_
  unfold view_Uint_VC
  refine NewVC.blk fun g1 w1 hg1 hz1 hE1 hb1 => NewVC.blk fun g2 w2 hg2 hz2 hE2 hb2 => ?_
  have hE : Ext w w2 := hE1.ext hE2
  have hb1 := hb1.ext hE2
  have hne : g1 ≠ g2 := by omega
  refine (sized_spec k w2).mono ?_
  rintro _ w3 ⟨rfl, rfl⟩
  refine ⟨_, rfl, ?_⟩
  by_cases hk : 1 ≤ k ∧ k ≤ 8
  · rw [decide_eq_true hk]
    refine Br.f rfl ?_
    by_cases hp : 0 ≤ p ∧ p + k ≤ n
    · refine (number_yes (hb.ext hE) hl hB hn hk hp.1 hp.2).mono ?_
      rintro _ w6 ⟨rfl, rfl⟩
      refine ⟨_, rfl, ?_⟩
      refine SetVC.blk hb1 (by simp) fun w7 hz7 hm7 hb1 => ?_
      have hb2 := hb2.mod hm7 (fun e => hne e.symm)
      refine SetVC.blk hb2 (by simp) fun w8 hz8 hm8 hb2 => ?_
      have hb1 := hb1.mod hm8 hne
      refine leave_ret rfl nofun uint_idle rfl ?_
      refine ⟨_, hb1.cell 0, _, hb2.cell 0, ?_, ?_⟩
      · exact (hE.trans' hm7 (fun i hi e => by omega)).trans' hm8 (fun i hi e => by omega)
      · unfold uintS; rw [if_neg (by omega), if_pos (by omega)]
    · refine (number_no (hb.ext hE) hl hn hp).mono ?_
      rintro _ w6 ⟨rfl, rfl⟩
      refine leave_ret (u := .panicking gapc) rfl (fun h => by cases h) (uint_catch (hb1.cell 0) (hb1.frozen 0) (hb2.cell 0) (hb2.frozen 0) hne) rfl ?_
      have hm7 := Mod.setCell w2 ⟨g1, 0, none⟩ (.int .u64 0)
      have hm8 := Mod.setCell (w2.setCell ⟨g1, 0, none⟩ (.int .u64 0)) ⟨g2, 0, none⟩ (.int .i64 10)
      have hb1 := (hb1.set 0 (.int .u64 0)).mod hm8 hne
      have hb2 := (hb2.mod hm7 (fun e => hne e.symm)).set 0 (.int .i64 10)
      refine ⟨_, hb1.cell 0, _, hb2.cell 0, ?_, ?_⟩
      · exact (hE.trans' hm7 (fun i hi e => by simp at e; omega)).trans' hm8 (fun i hi e => by simp at e; omega)
      · unfold uintS; rw [if_neg (by omega), if_neg (by omega)]
  · rw [decide_eq_false hk]
    refine Br.t rfl ?_
    refine SetVC.blk hb1 (by simp) fun w7 hz7 hm7 hb1 => ?_
    have hb2 := hb2.mod hm7 (fun e => hne e.symm)
    refine SetVC.blk hb2 (by simp) fun w8 hz8 hm8 hb2 => ?_
    have hb1 := hb1.mod hm8 hne
    refine ⟨_, hb1.cell 0, _, hb2.cell 0, ?_, ?_⟩
    · exact (hE.trans' hm7 (fun i hi e => by omega)).trans' hm8 (fun i hi e => by omega)
    · unfold uintS; rw [if_pos (by omega)]

theorem window_yes {A : Option Addr} {n c : Nat} {p k : Int} {bs : List Value} {w : World} (hb : Cells w A bs) (hl : bs.length = n) (hc : n ≤ c) (hn : n ≤ 4611686018427387904) (h0 : 0 ≤ p) (hk : 0 ≤ k) (h1 : p + k ≤ n) :
    Calls Tryd.prog 86 #[.slice A n c, .int .i64 p, .int .i64 k] w fun e w' => Ext w w' ∧ ∃ A', e = .returned (.tuple #[.slice A' k.toNat k.toNat, .int .i64 0]) ∧ Cells w A' ((bs.drop p.toNat).take k.toNat) ∧
      A' = if k = 0 then A else A.map (·.add p.toNat) := by
  refine view_Window_of A n c p k w _ ?_
  unfold view_Window_VC
  refine NewVC.blk fun g1 w1 hg1 hz1 hE1 hb1 => NewVC.blk fun g2 w2 hg2 hz2 hE2 hb2 => ?_
  have hE : Ext w w2 := hE1.ext hE2
  have hb1 := hb1.ext hE2
  have hne : g1 ≠ g2 := by omega
  refine Br.no (by omega) ?_
  refine (part_yes (hb.ext hE) hl hc hn h0 hk h1).mono ?_
  rintro _ w6 ⟨rfl, A', rfl, _, rfl⟩
  refine ⟨_, _, _, rfl, ?_⟩
  refine SetVC.blk hb1 (by simp) fun w7 hz7 hm7 hb1 => ?_
  have hb2 := hb2.mod hm7 (fun e => hne e.symm)
  refine SetVC.blk hb2 (by simp) fun w8 hz8 hm8 hb2 => ?_
  have hb1 := hb1.mod hm8 hne
  refine leave_ret rfl nofun window_idle rfl ?_
  refine ⟨_, _, _, hb1.cell 0, _, hb2.cell 0, ?_, _, rfl, ?_, rfl⟩
  · exact (hE.trans' hm7 (fun i hi e => by omega)).trans' hm8 (fun i hi e => by omega)
  · exact hb.win
theorem window_no {A : Option Addr} {n c : Nat} {p k : Int} {w : World} (hn : n ≤ 140737488355328) (h : ¬ (0 ≤ p ∧ 0 ≤ k ∧ p ≤ n ∧ k ≤ n - p)) :
    Calls Tryd.prog 86 #[.slice A n c, .int .i64 p, .int .i64 k] w fun e w' => Ext w w' ∧ e = .returned (.tuple #[.slice none 0 0, .int .i64 (if k < 0 then 1 else 10)]) := by
  refine view_Window_of A n c p k w _ ?_
  unfold view_Window_VC
  refine NewVC.blk fun g1 w1 hg1 hz1 hE1 hb1 => NewVC.blk fun g2 w2 hg2 hz2 hE2 hb2 => ?_
  have hE : Ext w w2 := hE1.ext hE2
  have hb1 := hb1.ext hE2
  have hne : g1 ≠ g2 := by omega
  refine Br.dec (fun hk => ?_) (fun hk => ?_)
  · refine SetVC.blk hb1 (by simp) fun w7 hz7 hm7 hb1 => ?_
    have hb2 := hb2.mod hm7 (fun e => hne e.symm)
    refine SetVC.blk hb2 (by simp) fun w8 hz8 hm8 hb2 => ?_
    have hb1 := hb1.mod hm8 hne
    refine ⟨_, _, _, hb1.cell 0, _, hb2.cell 0, ?_, ?_⟩
    · exact (hE.trans' hm7 (fun i hi e => by omega)).trans' hm8 (fun i hi e => by omega)
    · rw [if_pos hk]
  · refine (part_no hn (by omega)).mono ?_
    rintro _ w6 ⟨rfl, rfl⟩
    refine leave_ret (u := .panicking gapc) rfl (fun h => by cases h) (window_catch (hb1.cell 0) (hb1.frozen 0) (hb2.cell 0) (hb2.frozen 0) hne) rfl ?_
    have hm7 := Mod.setCell w2 ⟨g1, 0, none⟩ (.slice none 0 0)
    have hm8 := Mod.setCell (w2.setCell ⟨g1, 0, none⟩ (.slice none 0 0)) ⟨g2, 0, none⟩ (.int .i64 10)
    have hb1 := (hb1.set 0 (.slice none 0 0)).mod hm8 hne
    have hb2 := (hb2.mod hm7 (fun e => hne e.symm)).set 0 (.int .i64 10)
    refine ⟨_, _, _, hb1.cell 0, _, hb2.cell 0, ?_, ?_⟩
    · exact (hE.trans' hm7 (fun i hi e => by simp at e; omega)).trans' hm8 (fun i hi e => by simp at e; omega)
    · rw [if_neg hk]
def winS (bs : List Int) (p k : Int) : List Int × Int :=
  if 0 ≤ p ∧ 0 ≤ k ∧ p + k ≤ bs.length then ((bs.drop p.toNat).take k.toNat, 0) else ([], if k < 0 then 1 else 10)
section
variable {w : World} {n c : Nat} {A : Option Addr} {bs : List Int} {p k : Int}
theorem winS_length (bs : List Int) (p k : Int) : (winS bs p k).1.length ≤ bs.length := by
  unfold winS
  split
  · simp; omega
  · simp
theorem winS_bts {bs : List Int} (hB : Bts bs) (p k : Int) : Bts (winS bs p k).1 := by
  unfold winS
  split
  · exact (hB.drop _).take _
  · intro x hx; cases hx
theorem window_spec {A : Option Addr} {n c : Nat} {p k : Int} {bs : List Value} {w : World} (hb : Cells w A bs) (hl : bs.length = n) (hc : n ≤ c) (hn : n ≤ 140737488355328) :
    Calls Tryd.prog 86 #[.slice A n c, .int .i64 p, .int .i64 k] w fun e w' => Ext w w' ∧
      ((0 ≤ p ∧ 0 ≤ k ∧ p + k ≤ n ∧ ∃ A', e = .returned (.tuple #[.slice A' k.toNat k.toNat, .int .i64 0]) ∧ Cells w A' ((bs.drop p.toNat).take k.toNat) ∧ A' = if k = 0 then A else A.map (·.add p.toNat)) ∨
       (¬ (0 ≤ p ∧ 0 ≤ k ∧ p + k ≤ n) ∧ e = .returned (.tuple #[.slice none 0 0, .int .i64 (if k < 0 then 1 else 10)]))) := by
  by_cases h : 0 ≤ p ∧ 0 ≤ k ∧ p + k ≤ n
  · exact (window_yes hb hl hc (by omega) h.1 h.2.1 h.2.2).mono fun e w' ⟨hE, h'⟩ => ⟨hE, .inl ⟨h.1, h.2.1, h.2.2, h'⟩⟩
  · exact (window_no hn (by omega)).mono fun e w' ⟨hE, h'⟩ => ⟨hE, .inr ⟨h, h'⟩⟩
theorem window_fn (hb : Cells w A (bs.map (.int .u8))) (hl : bs.length = n) (hc : n ≤ c) (hn : n ≤ 140737488355328) :
    Calls Tryd.prog 86 #[.slice A n c, .int .i64 p, .int .i64 k] w fun e w' => Ext w w' ∧ ∃ A', e = .returned (.tuple #[.slice A' (winS bs p k).1.length (winS bs p k).1.length, .int .i64 (winS bs p k).2]) ∧
      Cells w A' ((winS bs p k).1.map (.int .u8)) ∧ (0 < (winS bs p k).1.length → A' = A.map (·.add p.toNat)) := by
  refine (window_spec hb (by simpa using hl) hc hn).mono ?_
  subst hl
  rintro e w' ⟨hE, ⟨h1, h2, h3, A', rfl, hw, hA⟩ | ⟨hr, rfl⟩⟩
  · have e1 : winS bs p k = ((bs.drop p.toNat).take k.toNat, 0) := by unfold winS; rw [if_pos ⟨h1, h2, h3⟩]
    have e2 : ((bs.drop p.toNat).take k.toNat).length = k.toNat := by rw [List.length_take, List.length_drop]; omega
    rw [e1]
    simp only [e2]
    refine ⟨hE, A', rfl, ?_, fun h0 => ?_⟩
    · rw [List.map_take, List.map_drop]; exact hw
    · rw [hA, if_neg (by omega)]
  · have e1 : winS bs p k = ([], if k < 0 then 1 else 10) := by unfold winS; rw [if_neg hr]
    rw [e1]
    exact ⟨hE, none, rfl, Cells.nil _ _, fun h => by simp at h⟩
end
section
variable {w : World} {g n c : Nat} {A : Option Addr} {xs : List Int} {p k : Int}
def nextAt (err p k : Int) : Int := if err = 0 then p + k else p
theorem uintS_range (xs : List Int) (p k : Int) (h : (uintS xs p k).2 = 0) : 1 ≤ k ∧ 0 ≤ p ∧ p + k ≤ xs.length := by
  unfold uintS at h
  split at h
  · simp at h
  · split at h
    · omega
    · simp at h
theorem winS_range (xs : List Int) (p k : Int) (h : (winS xs p k).2 = 0) : 0 ≤ k ∧ 0 ≤ p ∧ p + k ≤ xs.length := by
  unfold winS at h
  split at h
  · omega
  · simp only at h; split at h <;> omega
theorem At_spec : Calls Tryd.prog 48 #[.slice A n c] w fun e w' => Ext w w' ∧ e = .returned (.pointer (some ⟨w.heap.size, 0, none⟩)) ∧ Blk w' w.heap.size 136 [.slice A n c, .int .i64 0] := by
  refine view_At_of A n c w _ ?_
  unfold view_At_VC
  refine NewVC.blk fun g1 w1 hg1 hz1 hE1 hb1 => ?_
  subst hg1
  exact ⟨hE1, rfl, hb1⟩
theorem winCells {w1 : World} {A' : Option Addr} (hc : Cells w A (xs.map (.int .u8))) (hw : Cells w1 A' ((winS xs p k).1.map (.int .u8))) (hA : 0 < (winS xs p k).1.length → A' = A.map (·.add p.toNat)) : Cells w A' ((winS xs p k).1.map (.int .u8)) := by
  by_cases h0 : (winS xs p k).1.length = 0
  · rw [List.eq_nil_of_length_eq_zero h0]; exact Cells.nil _ _
  · rw [hA (by omega)]
    unfold winS at h0 ⊢
    split
    · rename_i hr
      rw [if_pos hr] at h0
      have := Cells.win hc (p := p) (k := k)
      rw [if_neg (by intro e; subst e; simp at h0)] at this
      rw [List.map_take, List.map_drop]; exact this
    · rename_i hr
      rw [if_neg hr] at h0; simp at h0
theorem curUint_spec (hb : Blk w g 136 [.slice A n c, .int .i64 p]) (hc : Cells w A (xs.map (.int .u8))) (hl : xs.length = n) (hB : Bts xs) (hn : n ≤ 1048700) (_hnc : n ≤ c) :
    Calls Tryd.prog 51 #[.pointer (some ⟨g, 0, none⟩), .int .i64 k] w fun e w' => Mod (fun k => k = g) w w' ∧ e = .returned (.tuple #[.int .u64 (uintS xs p k).1, .int .i64 (uintS xs p k).2]) ∧
      Blk w' g 136 [.slice A n c, .int .i64 (nextAt (uintS xs p k).2 p k)] := by
  refine view_Cursor_Uint_of _ k w _ ?_
  unfold view_Cursor_Uint_VC
  intro w1 hw1
  have hE : Ext w w1 := by subst hw1; exact Ext.drew w
  refine ⟨fun w' => Ext w w', hE, _, rfl, _, _, _, fun w' h => (hb.ext h).cell 0, _, rfl, _, fun w' h => (hb.ext h).cell 1, ?_⟩
  refine (uint_spec (hc.ext hE) hl hB (by omega)).mono ?_
  rintro _ w2 ⟨hE2, rfl⟩
  refine ⟨_, _, rfl, (hE.ext hE2), Br.dec (fun h0 => ?_) (fun h0 => ?_)⟩
  · have hr := uintS_range xs p k h0
    refine ⟨_, rfl, _, (hb.ext (hE.ext hE2)).cell 1, _, rfl, ?_⟩
    refine SetVC.blk (g := g) (i := 1) (hb.ext (hE.ext hE2)) (by simp) fun w3 hz3 hm3 hb3 => ?_
    rw [w64 (n := p + k) (by omega) (by omega)] at hb3
    refine ⟨(((hE.ext hE2)).to _).trans hm3, rfl, ?_⟩
    unfold nextAt
    rw [if_pos h0]
    exact hb3
  · refine ⟨((hE.ext hE2)).to _, rfl, ?_⟩
    unfold nextAt
    rw [if_neg h0]
    exact hb.ext (hE.ext hE2)
theorem curWindow_spec (hb : Blk w g 136 [.slice A n c, .int .i64 p]) (hc : Cells w A (xs.map (.int .u8))) (hl : xs.length = n) (hn : n ≤ 1048700) (hnc : n ≤ c) :
    Calls Tryd.prog 52 #[.pointer (some ⟨g, 0, none⟩), .int .i64 k] w fun e w' => Mod (fun k => k = g) w w' ∧ (∃ A' c', e = .returned (.tuple #[.slice A' (winS xs p k).1.length c', .int .i64 (winS xs p k).2]) ∧
      c' = (winS xs p k).1.length ∧ (0 < (winS xs p k).1.length → A' = A.map (·.add p.toNat)) ∧ Cells w A' ((winS xs p k).1.map (.int .u8))) ∧ Blk w' g 136 [.slice A n c, .int .i64 (nextAt (winS xs p k).2 p k)] := by
  refine view_Cursor_Window_of _ k w _ ?_
  unfold view_Cursor_Window_VC
  intro w1 hw1
  have hE : Ext w w1 := by subst hw1; exact Ext.drew w
  have hsz : w1.heap.size = w.heap.size := by subst hw1; rfl
  refine ⟨fun w' => Ext w w', hE, _, rfl, _, _, _, fun w' h => (hb.ext h).cell 0, _, rfl, _, fun w' h => (hb.ext h).cell 1, ?_⟩
  refine (window_fn (hc.ext hE) hl hnc (by omega)).mono ?_
  rintro _ w2 ⟨hE2, A', rfl, hw, hA⟩
  have hE2 := hE.ext hE2
  have hcw : Cells w A' ((winS xs p k).1.map (.int .u8)) := winCells hc hw hA
  refine ⟨_, _, _, _, rfl, hE2, Br.dec (fun h0 => ?_) (fun h0 => ?_)⟩
  · have hr := winS_range xs p k h0
    refine ⟨_, rfl, _, (hb.ext hE2).cell 1, _, rfl, ?_⟩
    refine SetVC.blk (g := g) (i := 1) (hb.ext hE2) (by simp) fun w3 hz3 hm3 hb3 => ?_
    rw [w64 (n := p + k) (by omega) (by omega)] at hb3
    refine ⟨(hE2.to _).trans hm3, ⟨A', _, rfl, rfl, hA, hcw⟩, ?_⟩
    unfold nextAt
    rw [if_pos h0]
    exact hb3
  · refine ⟨hE2.to _, ⟨A', _, rfl, rfl, hA, hcw⟩, ?_⟩
    unfold nextAt
    rw [if_neg h0]
    exact hb.ext hE2
theorem curSkip_spec (hb : Blk w g 136 [.slice A n c, .int .i64 p]) (hc : Cells w A (xs.map (.int .u8))) (hl : xs.length = n) (hn : n ≤ 1048700) (hnc : n ≤ c) :
    Calls Tryd.prog 49 #[.pointer (some ⟨g, 0, none⟩), .int .i64 k] w fun e w' => Mod (fun k => k = g) w w' ∧ e = .returned (.int .i64 (winS xs p k).2) ∧
      Blk w' g 136 [.slice A n c, .int .i64 (nextAt (winS xs p k).2 p k)] := by
  refine view_Cursor_Skip_of _ k w _ ?_
  unfold view_Cursor_Skip_VC
  refine (curWindow_spec hb hc hl hn hnc).mono ?_
  rintro _ w2 ⟨hm, ⟨A', c', rfl, -⟩, hb'⟩
  exact ⟨_, _, _, _, rfl, hm, rfl, hb'⟩
theorem curLeft_spec (hb : Blk w g 136 [.slice A n c, .int .i64 p]) (h0 : 0 ≤ p) (h1 : p ≤ n) (hn : n ≤ 140737488355328) :
    Calls Tryd.prog 50 #[.pointer (some ⟨g, 0, none⟩)] w fun e w' => Ext w w' ∧ e = .returned (.int .i64 (n - p)) := by
  refine view_Cursor_Left_of _ w _ ?_
  unfold view_Cursor_Left_VC
  intro w1 hw1
  have hE : Ext w w1 := by subst hw1; exact Ext.drew w
  refine ⟨fun w' => Ext w w', hE, _, rfl, _, _, _, fun w' h => (hb.ext h).cell 0, _, rfl, _, fun w' h => (hb.ext h).cell 1, hE, ?_⟩
  rw [w64 (by omega) (by omega)]
end
end Nd
end Go.Proofs.YtjngdcilnipjcaaDoor
