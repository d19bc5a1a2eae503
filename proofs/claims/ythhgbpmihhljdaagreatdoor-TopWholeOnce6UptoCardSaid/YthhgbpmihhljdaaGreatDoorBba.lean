/- Chapter 11: a datagram in the making, in memory; New, Total, Whole, top, refused. -/
import Derived.Test.YthhgbpmihhljdaaGreatDoorBal
import Derived.Test.YthhgbpmihhljdaaGreatDoorBay
import Derived.Test.YthhgbpmihhljdaaGreatDoorBaz
import Derived.Test.YthhgbpmihhljdaaGreatDoorBav
import Derived.Test.YthhgbpmihhljdaaGreatDoorBax
import Derived.Test.YthhgbpmihhljdaaGreatDoorBat
namespace Go.Eng
open Go Go.RowKit
section
variable {w : World} {Γ : List Fct} {b e size n c : Nat} {A : Option Addr} {xs : List Value}
/-- A row of the call's own, as the block that it is. -/
theorem Sep.ownBlk (H : Sep Γ w) (i : Nat) (hi : Γ[i]? = some (Fct.own b e size (.slice A n c) n xs)) (hn : A ≠ none) :
    ∃ g cs, A = some ⟨g, 0, none⟩ ∧ b ≤ g ∧ cs.take (n * size) = xs ∧ cs.length = c * size ∧ c ≤ maxLen ∧ n ≤ c ∧ Sep (Γ.set i (Fct.blk g e cs)) w := by
  have ho := H.own i hi
  rcases ho.2 with ⟨hv, _⟩ | ⟨g, cap, cur, hv, hb, hg, hc, hm, hs, ht⟩
  · injection hv with h1; exact absurd h1 hn
  · injection hv with h1 h2 h3
    subst h1; subst h3
    refine ⟨g, cur.toList, rfl, hb, ht, by simpa using hs, hm, hc, H.weaken i hi (by show Blk w g e cur.toList; unfold Blk; simpa using hg) fun k hk => ?_⟩
    have : k = g := hk
    subst this; rfl
theorem Sep.blkOwn' {g : Nat} {cs : List Value} (H : Sep Γ w) (i : Nat) (hi : Γ[i]? = some (Fct.blk g e cs)) (hb : b ≤ g) (hc : cs.length = c * size) (hn : n ≤ c) (hm : c ≤ maxLen) :
    Sep (Γ.set i (Fct.own b e size (.slice (some ⟨g, 0, none⟩) n c) n (cs.take (n * size)))) w := by
  refine H.weaken i hi ⟨?_, .inr ⟨g, c, cs.toArray, rfl, hb, H.blk i hi, hn, hm, by simpa using hc, by simp⟩⟩ fun k hk => ?_
  · rw [List.length_take, hc]
    have : n * size ≤ c * size := Nat.mul_le_mul_right _ hn
    omega
  · have : some g = some k := hk
    injection this with this
    exact this.symm
end
end Go.Eng
namespace Go.Proofs.YthhgbpmihhljdaaGreatDoor
namespace N6
open Go Go.Eng Go.RowKit
theorem pcv_beq {a b : PcV} : PcV.beq a b = true ↔ a = b := by
  unfold PcV.beq
  simp only [Bool.and_eq_true, decide_eq_true_eq, beq_iff_eq, and_true]
  constructor
  · rintro ⟨h1, h2, h3⟩
    cases a; cases b
    simp only at h1 h2 h3
    subst h1; subst h2; subst h3; rfl
  · rintro rfl; exact ⟨rfl, rfl, rfl⟩
theorem pcv_key : KeyOk Tryz.prog 148 PcV.val PcV.beq where
  wide := by kernel_rfl
  check x em w := ck_sound 6 9994 _ _ (by kernel_rfl) w
  eq x y w := eqV_sound 6 9994 _ _ _ _ (by kernel_rfl) w
  same x y := pcv_beq
  bits x := by simp [Instr.sameBits, PcV.val]
structure HolR where
  g : Nat
  m : Nat
  bufA : Sl
  gapA : Sl
  held : Int
  s : HolS
def gapC (l : List (Int × Int)) : List Value := (l.map fun g => (⟨g.1, g.2⟩ : GapV).cells).flatten
def seenK (l : List PcV) : List (PcV × Value) := l.map fun p => (p, .agg #[])
def HolR.cells (r : HolR) : List Value := [.int .i64 r.s.max, .slice r.bufA.A r.bufA.n r.bufA.k, .slice r.gapA.A r.gapA.n r.gapA.k, .int .i64 r.s.fin, .int .i64 r.held, .map (some r.m)]
abbrev rowG (b : Nat) (s : Sl) (l : List (Int × Int)) : Fct := Fct.own b 145 2 s.val s.n (gapC l)
abbrev seenF (m : Nat) (l : List PcV) : Fct := Fct.mp m (kvs PcV.val (seenK l))
def holFs (r : HolR) : List Fct := [Fct.blk r.g 125 r.cells, rowB 0 r.bufA r.s.buf, rowG 0 r.gapA r.s.gaps, seenF r.m r.s.seen]
abbrev HolR.p (r : HolR) : Value := .pointer (some ⟨r.g, 0, none⟩)
theorem tG : TypeIs Tryz.prog 145 (.agg #[.int .i64 0, .int .i64 0]) 2 16 := .of (by kernel_rfl)
section
variable {w : World} {Γ : List Fct} {r : HolR}
theorem gapC_len : ∀ l : List (Int × Int), (gapC l).length = l.length * 2
  | [] => rfl
  | g :: l => by
    have := gapC_len l
    unfold gapC at this ⊢
    rw [List.map_cons, List.flatten_cons, List.length_append, this, List.length_cons]
    show 2 + _ = _
    omega
theorem gapC_app (a b : List (Int × Int)) : gapC (a ++ b) = gapC a ++ gapC b := by unfold gapC; simp
theorem gapC_get {l : List (Int × Int)} {i : Nat} {g : Int × Int} (h : l[i]? = some g) : (gapC l)[i * 2]? = some (.int .i64 g.1) ∧ (gapC l)[i * 2 + 1]? = some (.int .i64 g.2) := by
  induction l generalizing i with
  | nil => simp at h
  | cons x l ih =>
    have e : gapC (x :: l) = .int .i64 x.1 :: .int .i64 x.2 :: gapC l := rfl
    rw [e]
    cases i with
    | zero => simp at h; subst h; exact ⟨rfl, rfl⟩
    | succ i =>
      have := ih (by simpa using h)
      rw [show (i + 1) * 2 = (i * 2 + 1) + 1 by omega]
      simpa using this
theorem gapC_take (l : List (Int × Int)) (n : Nat) : (gapC l).take (n * 2) = gapC (l.take n) := by
  induction l generalizing n with
  | nil => simp [gapC]
  | cons x l ih =>
    have e : gapC (x :: l) = .int .i64 x.1 :: .int .i64 x.2 :: gapC l := rfl
    cases n with
    | zero => rw [Nat.zero_mul]; rfl
    | succ n =>
      rw [e, show (n + 1) * 2 = n * 2 + 1 + 1 by omega, List.take_succ_cons, List.take_succ_cons, ih n]
      rfl
theorem gapC_drop (l : List (Int × Int)) (n : Nat) : (gapC l).drop (n * 2) = gapC (l.drop n) := by
  induction l generalizing n with
  | nil => simp [gapC]
  | cons x l ih =>
    have e : gapC (x :: l) = .int .i64 x.1 :: .int .i64 x.2 :: gapC l := rfl
    cases n with
    | zero => rw [Nat.zero_mul]; rfl
    | succ n =>
      rw [e, show (n + 1) * 2 = n * 2 + 1 + 1 by omega, List.drop_succ_cons, List.drop_succ_cons, ih n]
      rfl
theorem gapC_one (l : List (Int × Int)) : ∀ u ∈ gapC l, u.oneCell' = true := by
  intro u hu
  unfold gapC at hu
  obtain ⟨cs, hcs, hu⟩ := List.mem_flatten.1 hu
  obtain ⟨g, _, rfl⟩ := List.mem_map.1 hcs
  exact GapV.one _ u hu
theorem gaps_n (ho : w.ownsRow 0 145 2 r.gapA.val r.gapA.n (gapC r.s.gaps)) : r.gapA.n = r.s.gaps.length := by
  have := ho.1
  rw [gapC_len] at this
  omega
theorem buf_n (ho : w.ownsRow 0 5 1 r.bufA.val r.bufA.n (r.s.buf.map (.int .u8))) : r.bufA.n = r.s.buf.length := by
  have := ho.1
  simpa using this.symm
/-- One gap is looked at. -/
theorem gap_idx {i m : Nat} {gs : List (Int × Int)} {A : Option Addr} {ix : Int} {F : Addr → Prop} (hc : Cells w A (gapC gs)) (hx : ix = i) (hm : i < m) {g : Int × Int} (hg : gs[i]? = some g)
    (hF : ∀ a, (∀ w', Cells w' A (gapC gs) → CellsAt w' a 0 (⟨g.1, g.2⟩ : GapV).cells) → F a) : IdxVC A m 2 ix F := by
  subst hx
  have h12 := gapC_get hg
  obtain ⟨a, ha, _⟩ := hc _ _ h12.1
  refine ⟨a, ha, by omega, by omega, hF _ fun w' hc' => ?_⟩
  obtain ⟨a1, ha1, h1⟩ := hc' _ _ h12.1
  obtain ⟨a2, ha2, h2⟩ := hc' _ _ h12.2
  rw [ha] at ha1 ha2; cases ha1; cases ha2
  rw [Int.toNat_natCast]
  exact ⟨by rw [add_add]; exact h1, by rw [add_add]; exact h2, trivial⟩
theorem hole_new {max : Int} (h1 : 1 ≤ max) (h2 : max ≤ 65535) : Calls Tryz.prog 55 #[.int .i64 max] w fun e w' => ∃ r : HolR, e = .returned (.tuple #[r.p, .int .i64 0]) ∧ r.s = HolS.start max ∧ Sep (Fct.rest w None :: holFs r) w' := by
  refine hole_New_of max w _ ?_
  unfold hole_New_VC
  refine Br.no (by omega) (Br.no (by omega) (NewVC.sep (Sep.start0 w) fun g1 w1 H => NewMapVC.sep H fun g2 w2 H => NewVC.sep H fun g3 w3 H => ?_))
  refine ⟨⟨g3, g2, Sl.z, ⟨some ⟨g1, 0, none⟩, 1, 1⟩, 0, HolS.start max⟩, rfl, rfl, ?_⟩
  have H := H.blkOwn' 1 rfl (b := 0) (size := 2) (n := 1) (c := 1) (Nat.zero_le _) rfl (Nat.le_refl _) (by decide)
  have H := H.nil 0 5 1
  have key : ∀ (a b c d e : Fct), [a, d, e, b, c].Perm [a, b, c, d, e] := fun a b c d e => perm_cn fun c o h1 h2 h3 => by simp only [h2, h3]; omega
  exact H.perm (key _ _ _ _ _)
/-! ### What only reads -/
theorem hol_sub {w' : World} (H : Sep (holFs r) w) (hE : Ext w w') : Blk w' r.g 125 r.cells ∧ Cells w' r.gapA.A (gapC r.s.gaps) ∧ Cells w' r.bufA.A (r.s.buf.map (.int .u8)) ∧ MapAt w' r.m (kvs PcV.val (seenK r.s.seen)) := by
  have H := H.ext hE
  exact ⟨H.blk 0 rfl, own_cells (A := r.gapA.A) (c := r.gapA.k) (H.own 2 rfl), own_cells (A := r.bufA.A) (c := r.bufA.k) (H.own 1 rfl), H.yes 3 _ rfl⟩
theorem total_spec (H : Sep (holFs r) w) (_hk : HolOk r.s) : Calls Tryz.prog 56 #[r.p] w fun e w' => Ext w w' ∧ e = .returned (.tuple #[.int .i64 (if r.s.fin < 0 then 0 else r.s.fin), .bool (decide (0 ≤ r.s.fin))]) := by
  refine hole_Holes_Total_of _ w _ ?_
  unfold hole_Holes_Total_VC
  refine DrawVC.of (fun w' => Blk w' r.g 125 r.cells) fun w1 hE1 _ => ⟨(hol_sub H hE1).1, ?_⟩
  exact ⟨_, rfl, _, fun w' hb => hb.cell 3, _, rfl, _, fun w' hb => hb.cell 3, (hol_sub H hE1).1, hE1, rfl⟩
theorem whole_spec (H : Sep (holFs r) w) : Calls Tryz.prog 60 #[r.p] w fun e w' => w' = w ∧ e = .returned (.bool (decide (0 ≤ r.s.fin ∧ r.s.gaps = []))) := by
  refine hole_Holes_Whole_of _ w _ ?_
  unfold hole_Holes_Whole_VC
  have hb := H.blk 0 rfl
  have hn := gaps_n (r := r) (H.own 2 rfl)
  refine ⟨_, rfl, _, hb.cell 3, Br.dec (fun h => ⟨_, rfl, _, _, _, hb.cell 2, rfl, ?_⟩) fun h => ⟨rfl, ?_⟩⟩
  · congr 2
    refine decide_eq_decide.2 ⟨fun h0 => ⟨h, List.eq_nil_of_length_eq_zero (by omega)⟩, fun h0 => by rw [hn, h0.2]; rfl⟩
  · congr 2
    exact (decide_eq_false fun h0 => h h0.1).symm
theorem top_spec (H : Sep (holFs r) w) : Calls Tryz.prog 93 #[r.p] w fun e w' => Ext w w' ∧ e = .returned (.int .i64 (topS r.s.gaps r.s.max)) := by
  refine hole_Holes_top_of _ w _ ?_
  unfold hole_Holes_top_VC
  have hb := H.blk 0 rfl
  have hn := gaps_n (r := r) (H.own 2 rfl)
  refine ⟨_, rfl, _, _, _, hb.cell 2, Br.dec (fun h => ?_) fun h => ?_⟩
  · refine ⟨_, rfl, _, hb.cell 0, Mod.refl _ _, ?_⟩
    have : r.s.gaps = [] := List.eq_nil_of_length_eq_zero (by omega)
    unfold topS
    rw [this]; rfl
  · obtain ⟨l, g, hlg⟩ : ∃ l g, r.s.gaps = l ++ [g] := by
      rcases List.eq_nil_or_concat r.s.gaps with h0 | ⟨l, g, h0⟩
      · rw [h0] at hn; exact absurd hn (by simp; omega)
      · exact ⟨l, g, by simpa using h0⟩
    have hlen : r.s.gaps.length = l.length + 1 := by rw [hlg]; simp
    have hg : r.s.gaps[l.length]? = some g := by rw [hlg]; simp
    have ht : topS r.s.gaps r.s.max = if g.2 = r.s.max then g.1 else r.s.max := by unfold topS; rw [hlg, List.getLast?_concat]
    have hsmall := own_le (H.own 2 rfl)
    have hok := (H.own 2 rfl)
    have hmax : r.gapA.n ≤ maxLen := by
      rcases hok.2 with ⟨hv, h0⟩ | ⟨g', cap, cur, hv, _, _, hc, hm, _, _⟩
      · rw [h0]; exact Nat.zero_le _
      · omega
    have hx : IntKind.i64.wrap ((r.gapA.n : Int) - 1) = (l.length : Int) := by
      unfold maxLen at hmax
      rw [w64 (by omega) (by omega)]; omega
    rw [ht]
    refine ⟨_, rfl, _, _, _, hb.cell 2, gap_idx (hol_sub H (Mod.refl _ _)).2.1 hx (by omega) hg fun a hc => ?_⟩
    refine GapV.of ⟨g.1, g.2⟩ ⟨hc w (hol_sub H (Mod.refl _ _)).2.1, ?_⟩
    refine NewVC.sep ((Sep.start0 w)) fun g1 w2 H2 => Stores.sep H2 1 rfl (GapV.one _) (Nat.le_refl _) (splice_all rfl) fun w3 H2 => ?_
    have hE3 := H2.restOf 0 rfl
    refine DrawVC.sep H2 (fun w' => Blk w' g1 145 (⟨g.1, g.2⟩ : GapV).cells ∧ Blk w' r.g 125 r.cells) fun w4 H2 => ?_
    have hE4 : Ext w w4 := H2.restOf 0 rfl
    refine ⟨⟨H2.blk 1 rfl, (hol_sub H hE4).1⟩, ⟨_, rfl, by decide, by decide, ⟨g.2, fun w' hb => hb.1.cell 1, _, rfl, _, fun w' hb => hb.2.cell 0, Br.dec (fun he => ?_) fun he => ?_⟩⟩⟩
    · rw [if_pos he]
      exact ⟨_, rfl, by decide, by decide, _, (H2.blk 1 rfl).cell 0, hE4, rfl⟩
    · rw [if_neg he]
      exact ⟨_, rfl, _, (hol_sub H hE4).1.cell 0, hE4, rfl⟩
theorem refused_spec {off : Int} {S : Sl} {more : Bool} (H : Sep (holFs r) w) (hk : HolOk r.s) :
    Calls Tryz.prog 77 #[r.p, .int .i64 off, S.val, .bool more] w fun e w' => Ext w w' ∧ e = .returned (.int .i64 (refusedS r.s off S.n more)) := by
  refine hole_Holes_refused_of _ off S.A S.n S.k more w _ ?_
  unfold hole_Holes_refused_VC refusedS
  have hm1 := hk.m1
  have hm2 := hk.m2
  refine Br.dec (fun h1 => ⟨Mod.refl _ _, by rw [if_pos h1]⟩) fun h1 => ?_
  rw [if_neg h1]
  refine JoinVC.of (fun b w' => w' = w ∧ b = decide (off < 0 ∨ off % 8 ≠ 0 ∨ (more = true ∧ (S.n : Int) % 8 ≠ 0))) ?_ ?_
  · refine Br.dec (fun h => ⟨rfl, (decide_eq_true (.inl h)).symm⟩) fun h => ?_
    rw [Int.tmod_eq_emod_of_nonneg (by omega), Int.tmod_eq_emod_of_nonneg (by omega)]
    refine Br.dec (fun h2 => ⟨rfl, (decide_eq_true (.inr (.inl h2))).symm⟩) fun h2 => ?_
    cases more with
    | true => exact Br.t rfl ⟨rfl, decide_eq_decide.2 ⟨fun h3 => .inr (.inr ⟨rfl, h3⟩), fun h3 => h3.elim (fun h4 => absurd h4 h) fun h3 => h3.elim (fun h4 => absurd h4 h2) fun h4 => h4.2⟩⟩
    | false => exact Br.f rfl ⟨rfl, (decide_eq_false fun h3 => h3.elim (fun h4 => absurd h4 h) fun h3 => h3.elim (fun h4 => absurd h4 h2) fun h4 => by cases h4.1).symm⟩
  rintro _ w1 ⟨rfl, rfl⟩
  unfold hole_Holes_refused_J115
  refine Br.dec (fun h2 => ⟨Mod.refl _ _, by rw [if_pos h2]⟩) fun h2 => ?_
  rw [if_neg h2]
  refine Br.dec (fun h3 => ⟨Mod.refl _ _, by rw [if_pos (by omega)]⟩) fun h3 => ?_
  rw [if_neg (by omega)]
  have hb := H.blk 0 rfl
  refine JoinVC.of (fun b w' => w' = w1 ∧ b = decide (r.s.max < off ∨ r.s.max < off + S.n)) ?_ ?_
  · refine ⟨_, rfl, _, hb.cell 0, Br.dec (fun h => ⟨rfl, (decide_eq_true (.inl h)).symm⟩) fun h => ⟨_, rfl, _, hb.cell 0, rfl, ?_⟩⟩
    rw [w64 (by omega) (by omega)]
    exact decide_eq_decide.2 ⟨fun h4 => .inr h4, fun h4 => h4.elim (fun h5 => absurd h5 h) id⟩
  rintro _ w2 ⟨rfl, rfl⟩
  unfold hole_Holes_refused_J1855
  refine Br.dec (fun h4 => ⟨Mod.refl _ _, by rw [if_pos h4]⟩) fun h4 => ?_
  rw [if_neg h4]
  have hw : IntKind.i64.wrap (off + (S.n : Int)) = off + S.n := w64 (by omega) (by omega)
  refine JoinVC.of (fun b w' => w' = w2 ∧ b = decide (0 ≤ r.s.fin ∧ more = false ∧ off + S.n ≠ r.s.fin)) ?_ ?_
  · refine ⟨_, rfl, _, hb.cell 3, Br.dec (fun h => ?_) fun h => ⟨rfl, (decide_eq_false fun h5 => h h5.1).symm⟩⟩
    cases more with
    | false =>
      refine Br.t rfl ⟨_, rfl, _, hb.cell 3, rfl, ?_⟩
      rw [hw]
      exact decide_eq_decide.2 ⟨fun h5 => ⟨h, rfl, h5⟩, fun h5 => h5.2.2⟩
    | true => exact Br.f rfl ⟨rfl, (decide_eq_false fun h5 => by cases h5.2.1).symm⟩
  rintro _ w3 ⟨rfl, rfl⟩
  unfold hole_Holes_refused_J7423
  refine Br.dec (fun h5 => ⟨Mod.refl _ _, by rw [if_pos h5]⟩) fun h5 => ?_
  rw [if_neg h5]
  refine JoinVC.of (fun b w' => w' = w3 ∧ b = decide (0 ≤ r.s.fin ∧ more = true ∧ r.s.fin < off + S.n)) ?_ ?_
  · refine ⟨_, rfl, _, hb.cell 3, Br.dec (fun h => ?_) fun h => ⟨rfl, (decide_eq_false fun h6 => h h6.1).symm⟩⟩
    cases more with
    | true =>
      refine Br.t rfl ⟨_, rfl, _, hb.cell 3, rfl, ?_⟩
      rw [hw]
      exact decide_eq_decide.2 ⟨fun h6 => ⟨h, rfl, h6⟩, fun h6 => h6.2.2⟩
    | false => exact Br.f rfl ⟨rfl, (decide_eq_false fun h6 => by cases h6.2.1).symm⟩
  rintro _ w4 ⟨rfl, rfl⟩
  unfold hole_Holes_refused_J29695
  refine Br.dec (fun h6 => ⟨Mod.refl _ _, by rw [if_pos h6]⟩) fun h6 => ?_
  rw [if_neg h6]
  refine ⟨_, rfl, _, hb.cell 3, Br.dec (fun h7 => ?_) fun h7 => ⟨Mod.refl _ _, by rw [if_neg fun h8 => h7 h8.1]⟩⟩
  cases more with
  | true => exact Br.f rfl ⟨Mod.refl _ _, by rw [if_neg fun h8 => by cases h8.2.1]⟩
  | false =>
    refine Br.t rfl ((top_spec H).mono ?_)
    rintro _ w5 ⟨hE5, rfl⟩
    refine ⟨_, rfl, ?_⟩
    rw [hw]
    exact Br.dec (fun h8 => ⟨hE5, by rw [if_pos ⟨h7, rfl, h8⟩]⟩) fun h8 => ⟨hE5, by rw [if_neg fun h9 => h8 h9.2.2]⟩
/-- The whole, where all has come. -/
theorem bytes_spec (H : Sep (holFs r) w) (hk : HolOk r.s) : Calls Tryz.prog 32 #[r.p] w fun e w' =>
    (0 ≤ r.s.fin ∧ r.s.gaps = [] ∧ ∃ s' : Sl, e = .returned (.tuple #[s'.val, .bool true]) ∧ BFine s' (r.s.buf.take r.s.fin.toNat) ∧ Sep [Fct.rest w None, rowB 0 s' (r.s.buf.take r.s.fin.toNat)] w') ∨
    (¬ (0 ≤ r.s.fin ∧ r.s.gaps = []) ∧ e = .returned (.tuple #[.slice none 0 0, .bool false]) ∧ Ext w w') := by
  refine hole_Holes_Bytes_of _ w _ ?_
  unfold hole_Holes_Bytes_VC
  refine (whole_spec H).mono ?_
  rintro _ w1 ⟨rfl, rfl⟩
  refine ⟨_, rfl, ?_⟩
  by_cases hw : 0 ≤ r.s.fin ∧ r.s.gaps = []
  · rw [decide_eq_true hw]
    have hn := buf_n (r := r) (H.own 1 rfl)
    have hm2 := hk.m2
    have hbl := hk.blen
    have hfin : r.s.fin ≤ r.s.max ∧ r.s.fin ≤ r.s.buf.length := by
      rcases hk.fin with h | h
      · omega
      · exact h.2
    refine Br.f rfl (DrawVC.of (fun w' => Blk w' r.g 125 r.cells) fun w2 hE2 _ => ⟨(hol_sub H hE2).1, ?_⟩)
    refine ⟨_, rfl, _, _, _, fun w' hb => hb.cell 1, _, rfl, _, fun w' hb => hb.cell 3, ?_⟩
    have hcap := own_le (H.own 1 rfl)
    refine ⟨hw.1, by omega, ?_⟩
    refine (clone_spec (s := ⟨r.bufA.A, r.s.fin.toNat, r.bufA.k⟩) (l := r.s.buf.take r.s.fin.toNat) ⟨by rw [List.length_take]; show _ = r.s.fin.toNat; omega, by show r.s.fin.toNat ≤ r.bufA.k; omega, by show r.s.fin.toNat ≤ 4000000; omega, fun x hx => hk.bts x (List.mem_of_mem_take hx), ?_⟩).mono ?_
    · rw [List.map_take]; exact (hol_sub H hE2).2.2.1.take _
    · rintro _ w3 ⟨s', rfl, hB, hn', H3⟩
      have hE3 : Ext w1 w3 := hE2.ext (H3.restOf 0 rfl)
      refine ⟨_, _, _, rfl, (hol_sub H hE3).1, .inl ⟨hw.1, hw.2, s', rfl, hB, ?_⟩⟩
      have H4 := (Sep.start0 w1).ext hE2 |>.made H3
      exact H4.lower 1 rfl (Nat.zero_le _)
  · rw [decide_eq_false hw]
    exact Br.t rfl (.inr ⟨hw, rfl, Mod.refl _ _⟩)
end
end N6
end Go.Proofs.YthhgbpmihhljdaaGreatDoor
/- TopWholeOnce6 by value: a piece that came again; all pieces. -/
namespace Go.Proofs.YthhgbpmihhljdaaGreatDoor
namespace N6
open Go Go.Eng Go.RowKit
section
variable {N : Nat} {xs : List (Nat × Nat)} {R : List Int} {s : HolS} {seen : List Nat} {j : Nat} {x : Nat × Nat}
theorem Hi.inbuf (h : Hi N xs R s seen) (hC : Cut N xs) (hR : R.length = N) {i : Nat} {y : Nat × Nat} (hi : i ∈ seen) (hy : xs[i]? = some y) {p : Nat} (h1 : y.1 ≤ p) (h2 : p < y.1 + y.2) : p < s.buf.length := by
  have hpy := hC.pos i y hy
  have hb := h.buf i hi y hy p h1 h2
  have hRp : p < R.length := by omega
  rw [List.getElem?_eq_getElem hRp] at hb
  exact (List.getElem?_eq_some_iff.1 hb).1
/-- A piece that came again. -/
theorem Hi.again (h : Hi N xs R s seen) (hC : Cut N xs) (hN : N ≤ 65495) (hR : R.length = N) (hB : Bts R) (hx : xs[j]? = some x) (hj : j ∈ seen) :
    (fitS s x.1 (dat R x) (mor N x)).same = true ∧ Hi N xs R (putS s x.1 (dat R x) (mor N x)) seen := by
  obtain ⟨p1, p2, p3⟩ := hC.pos j x hx
  have hdl := dat_len hR p3
  have hr := h.refused hC hN hx
  have hr' : refusedS s x.1 (dat R x).length (mor N x) = 0 := by rw [hdl]; exact hr
  have hmo := hC.mor hx
  have hlt := (List.getElem?_eq_some_iff.1 hx).1
  have hBd : Bts (dat R x) := fun y hy => hB y (List.mem_of_mem_drop (List.mem_of_mem_take hy))
  obtain ⟨q1, q2, q3, q4⟩ := put_ok h.ok hBd hr'
  rw [hdl] at q2 q3 q4
  have hmf : mor N x = false → ¬ s.fin < 0 := fun hm => by
    rw [hmo] at hm
    have hl : xs.length - 1 = j := by have := of_decide_eq_false hm; omega
    rw [h.finN (by rw [hl]; exact hj)]
    omega
  have hnew : Hi N xs R (putS s x.1 (dat R x) (mor N x)) seen := by
    have hfin : (putS s x.1 (dat R x) (mor N x)).fin = s.fin := by
      show (if _ then (x.1 : Int) + (dat R x).length else s.fin) = _
      rw [if_neg (by rintro ⟨h1, h2⟩; exact hmf h1 h2)]
    refine ⟨q1, h.max, fun hs => by rw [hfin]; exact h.finN hs, fun hs => by rw [hfin]; exact h.fin0 hs, fun p => ?_, fun i hi y hy p h1 h2 => ?_, fun v => ?_⟩
    · rw [q3 p, ← h.miss p]
      constructor
      · rintro ⟨a, _⟩; exact a
      · intro a
        refine ⟨a, ?_, fun h1 h2 => absurd h2 (hmf h1)⟩
        have := ((h.miss p).1 a).2.2 j hj x hx
        intro hh; exact this (by omega)
    · have hpy := hC.pos i y hy
      have hnm : ¬ (Miss s.gaps p ∧ (x.1 : Int) ≤ p ∧ (p : Int) < x.1 + x.2) := by
        rintro ⟨hm, _⟩
        exact ((h.miss p).1 hm).2.2 i hi y hy ⟨by omega, by omega⟩
      rw [(q4 p).2 hnm]
      unfold zpad
      rw [List.getElem?_append_left (h.inbuf hC hR hi hy h1 h2)]
      exact h.buf i hi y hy p h1 h2
    · show v ∈ addSeen s.seen ⟨x.1, (dat R x).length, mor N x⟩ ↔ _
      rw [addSeen_mem, hdl]
      constructor
      · rintro (hv | rfl)
        · exact (h.pcs v).1 hv
        · exact ⟨j, hj, x, hx, rfl⟩
      · intro hv
        exact .inl ((h.pcs v).2 hv)
  refine ⟨?_, hnew⟩
  show (s.seen.any (PcV.beq ⟨x.1, (dat R x).length, mor N x⟩) && decide (bpart (putS s x.1 (dat R x) (mor N x)).buf (x.1 : Int).toNat (dat R x).length = dat R x)) = true
  rw [Bool.and_eq_true]
  refine ⟨List.any_eq_true.2 ⟨pcOf N x, (h.pcs _).2 ⟨j, hj, x, hx, rfl⟩, pcv_beq.2 (by rw [hdl]; rfl)⟩, decide_eq_true ?_⟩
  rw [hdl, Int.toNat_natCast]
  apply List.ext_getElem?
  intro k
  unfold bpart dat
  rw [List.getElem?_take, List.getElem?_take]
  by_cases hk : k < x.2
  · rw [if_pos hk, if_pos hk, List.getElem?_drop, List.getElem?_drop]
    exact hnew.buf j hj x hx (x.1 + k) (by omega) (by omega)
  · rw [if_neg hk, if_neg hk]
theorem Cut.all (hC : Cut N xs) {p : Nat} (hp : p < N) : ∃ (i : Nat) (x : Nat × Nat), xs[i]? = some x ∧ x.1 ≤ p ∧ p < x.1 + x.2 := by
  obtain ⟨i, x, _, h⟩ := hC.cover xs.length (Nat.le_refl _) p (fun x hx => by simp at hx) fun _ => hp
  exact ⟨i, x, h⟩
/-- The datagram is whole just when all pieces have come. -/
theorem Hi.whole (h : Hi N xs R s seen) (hC : Cut N xs) : (0 ≤ s.fin ∧ s.gaps = []) ↔ ∀ i, i < xs.length → i ∈ seen := by
  have htwo := hC.two
  constructor
  · rintro ⟨hf, hg⟩ i hi
    have hs : xs.length - 1 ∈ seen := Classical.byContradiction fun hn => by rw [h.fin0 hn] at hf; omega
    obtain ⟨x, hx⟩ : ∃ x, xs[i]? = some x := ⟨_, List.getElem?_eq_getElem hi⟩
    have hpx := hC.pos i x hx
    refine Classical.byContradiction fun hn => ?_
    have hm : Miss s.gaps x.1 := (h.miss x.1).2 ⟨by omega, by rw [if_pos hs]; omega, fun k hk y hy => by
      rcases hC.apart hy hx (fun e => hn (e ▸ hk)) with h | h <;> omega⟩
    rw [hg] at hm
    obtain ⟨g, hg, _⟩ := hm
    cases hg
  · intro hall
    have hs := hall (xs.length - 1) (by omega)
    refine ⟨by rw [h.finN hs]; omega, ?_⟩
    cases hg : s.gaps with
    | nil => rfl
    | cons g l =>
      have hgs := h.ok.gs
      rw [hg] at hgs
      have hm : Miss s.gaps g.1 := ⟨g, by rw [hg]; exact List.mem_cons_self .., Int.le_refl _, hgs.2.1⟩
      obtain ⟨h1, h2, h3⟩ := (h.miss g.1).1 hm
      rw [if_pos hs] at h2
      obtain ⟨i, x, hx, a, b⟩ := hC.all (p := g.1.toNat) (by omega)
      exact absurd ⟨by omega, by omega⟩ (h3 i (hall i (List.getElem?_eq_some_iff.1 hx).1) x hx)
theorem Hi.bytes (h : Hi N xs R s seen) (hC : Cut N xs) (hR : R.length = N) (hall : ∀ i, i < xs.length → i ∈ seen) : s.buf.take s.fin.toNat = R := by
  have htwo := hC.two
  rw [h.finN (hall _ (by omega)), Int.toNat_natCast]
  apply List.ext_getElem?
  intro p
  rw [List.getElem?_take]
  by_cases hp : p < N
  · rw [if_pos hp]
    obtain ⟨i, x, hx, a, b⟩ := hC.all hp
    exact h.buf i (hall i (List.getElem?_eq_some_iff.1 hx).1) x hx p a b
  · rw [if_neg hp, List.getElem?_eq_none (by omega)]
end
end N6
end Go.Proofs.YthhgbpmihhljdaaGreatDoor
/- Chapter 7 by value: what is written is read as it was (options, headers). -/
namespace Go.Eng
open Go Go.RowKit
theorem getD_drop (b : List Int) (p j : Nat) : b.getD (p + j) 0 = (b.drop p).getD j 0 := by
  rw [List.getD_eq_getElem?_getD, List.getD_eq_getElem?_getD, List.getElem?_drop]
theorem drop_len {b c : List Int} {p : Nat} (h : b.drop p = c) (hp : p ≤ b.length) : b.length = p + c.length := by
  have := congrArg List.length h
  rw [List.length_drop] at this
  omega
theorem drop_more {b c r : List Int} {p : Nat} (h : b.drop p = c ++ r) : b.drop (p + c.length) = r := by
  rw [← List.drop_drop, h, List.drop_left]
theorem bpart_of {b c r : List Int} {p : Nat} (h : b.drop p = c ++ r) : bpart b p c.length = c := by
  unfold bpart; rw [h, List.take_left]
/-- Options, written from the first on. -/
def wrF : Bool → List OptD → Option (List Int)
  | _, [] => some []
  | prev, o :: r => match optBytes prev o, wrF (decide (o.kind = 0)) r with
    | some b, some c => some (b ++ c)
    | _, _ => none
theorem optF_wr (a : List OptD) : ∀ (r : List OptD) (out : List Int), optF (a ++ r) a.length = some out → optF (a ++ r) (a ++ r).length = (wrF (prevZ (a ++ r) a.length) r).map (out ++ ·) := by
  intro r
  induction r generalizing a with
  | nil => intro out h; simp only [List.append_nil] at h ⊢; rw [h]; simp [wrF]
  | cons o r ih =>
    intro out h
    have ho : (a ++ o :: r)[a.length]? = some o := by simp
    have hs := optF_step h ho
    have e : a ++ o :: r = (a ++ [o]) ++ r := by simp
    have hp : prevZ (a ++ o :: r) (a.length + 1) = decide (o.kind = 0) := by
      show (match (a ++ o :: r)[a.length]? with
        | some o => decide (o.kind = 0)
        | none => false) = _
      rw [ho]
    unfold wrF
    cases hb : optBytes (prevZ (a ++ o :: r) a.length) o with
    | none =>
      rw [hb] at hs
      simp only at hs
      rw [optF_none hs _ (by simp)]
      rfl
    | some b =>
      rw [hb] at hs
      simp only at hs
      have hs' : optF ((a ++ [o]) ++ r) (a ++ [o]).length = some (out ++ b) := by rw [← e]; simpa using hs
      have := ih (a ++ [o]) (out ++ b) hs'
      rw [← e] at this
      rw [this]
      have hl : (a ++ [o]).length = a.length + 1 := by simp
      rw [hl, hp]
      cases wrF (decide (o.kind = 0)) r with
      | none => rfl
      | some c => simp
theorem putOptsS_wr (l : List OptD) : putOptsS l = match wrF false l with
    | some out => if out.length % 8 ≠ 6 ∨ 2046 < out.length then ([], 75) else (out, 0)
    | none => ([], 75) := by
  have h := optF_wr [] l [] rfl
  simp only [List.nil_append, List.length_nil] at h
  have e : prevZ l 0 = false := rfl
  rw [e] at h
  unfold putOptsS
  rw [h]
  cases wrF false l <;> rfl
/-- Padding that was written is read as so many bytes of it. -/
theorem padS_read {b : List Int} : ∀ (k n p run : Nat) (r : List Int), n ≤ k → b.drop p = padS n ++ r → p ≤ b.length → optsS b p run = optsS b (p + n) (run + n) := by
  intro k
  induction k with
  | zero =>
    intro n p run r hn h hp
    have : n = 0 := by omega
    subst this; rfl
  | succ k ih =>
    intro n p run r hn h hp
    have hlen := drop_len h hp
    rw [List.length_append, padS_len] at hlen
    rcases Nat.lt_or_ge 1 n with h1 | h1
    · rw [padS_step h1] at h
      have b0 : b.getD p 0 = 1 := by have := getD_drop b p 0; rw [h] at this; simpa using this
      have b1 : b.getD (p + 1) 0 = ((min n 257 - 2 : Nat) : Int) := by have := getD_drop b p 1; rw [h] at this; simpa using this
      have hd : b.drop (p + min n 257) = padS (n - min n 257) ++ r := by
        have e : (1 :: ((min n 257 - 2 : Nat) : Int) :: (List.replicate (min n 257 - 2) 0 ++ padS (n - min n 257))) ++ r = (1 :: ((min n 257 - 2 : Nat) : Int) :: List.replicate (min n 257 - 2) 0) ++ (padS (n - min n 257) ++ r) := by simp
        rw [e] at h
        have := drop_more h
        rw [← this]
        congr 2
        simp only [List.length_cons, List.length_replicate]
        omega
      rw [optsS_pad b0 (by rw [b1]; omega), b1, Int.toNat_natCast]
      rw [show p + 2 + (min n 257 - 2) = p + min n 257 by omega, show run + 2 + (min n 257 - 2) = run + min n 257 by omega]
      rw [ih (n - min n 257) _ _ r (by omega) hd (by omega)]
      congr 1 <;> omega
    · rcases Nat.eq_zero_or_pos n with rfl | hp0
      · rfl
      · have : n = 1 := by omega
        subst this
        rw [padS_one] at h
        have b0 : b.getD p 0 = 0 := by have := getD_drop b p 0; rw [h] at this; simpa using this
        rw [optsS_zero (by omega) b0]
def flushD (run : Nat) : List OptD := if run = 0 then [] else [⟨0, List.replicate run 0⟩]
theorem allZ_eq {l : List Int} (h : AllZ l) : l = List.replicate l.length 0 := List.eq_replicate_iff.2 ⟨rfl, h⟩
/-- Options that were written are read as they were. -/
theorem wrF_read {b : List Int} : ∀ (l : List OptD) (prev : Bool) (c : List Int) (p run : Nat), wrF prev l = some c → b.drop p = c → p ≤ b.length → (run = 0 ∨ prev = true) → ∃ os, optsS b p run = some os ∧ os.map (OP.d b) = flushD run ++ l := by
  intro l
  induction l with
  | nil =>
    intro prev c p run h hd hp hr
    injection h with h; subst h
    have := drop_len hd hp
    refine ⟨_, optsS_end (by simp at this; omega), ?_⟩
    rw [flushS_d, List.append_nil]; rfl
  | cons o r ih =>
    intro prev c p run h hd hp hr
    unfold wrF at h
    cases hb : optBytes prev o with
    | none => rw [hb] at h; cases h
    | some ob =>
      cases hw : wrF (decide (o.kind = 0)) r with
      | none => rw [hb, hw] at h; cases h
      | some c' =>
        rw [hb, hw] at h
        injection h with h; subst h
        have hlen := drop_len hd hp
        rw [List.length_append] at hlen
        have hdm := drop_more hd
        unfold optBytes at hb
        split at hb
        · rename_i h0
          split at hb
          · cases hb
          · rename_i h1
            injection hb with hb; subst hb
            have hz : AllZ o.data := Classical.byContradiction fun h => h1 (.inr (.inr h))
            have hne : o.data.length ≠ 0 := fun h => h1 (.inl (List.eq_nil_of_length_eq_zero h))
            have hpf : prev ≠ true := fun h => h1 (.inr (.inl h))
            have hr0 : run = 0 := hr.resolve_right hpf
            subst hr0
            rw [padS_len] at hdm hlen
            rw [padS_read o.data.length o.data.length p 0 c' (Nat.le_refl _) hd hp]
            obtain ⟨os, e1, e2⟩ := ih _ c' (p + o.data.length) (0 + o.data.length) hw hdm (by omega) (.inr (decide_eq_true h0))
            refine ⟨os, e1, ?_⟩
            rw [e2]
            unfold flushD
            rw [if_neg (by omega), if_pos rfl, Nat.zero_add, ← allZ_eq hz]
            simp only [List.nil_append, List.singleton_append, List.cons.injEq, and_true]
            obtain ⟨k, dt⟩ := o
            simp only at h0 ⊢
            rw [h0]
        · rename_i h0
          split at hb
          · cases hb
          · rename_i h1
            injection hb with hb; subst hb
            have b0 : b.getD p 0 = o.kind := by have := getD_drop b p 0; rw [hd] at this; simpa using this
            have b1 : b.getD (p + 1) 0 = (o.data.length : Int) := by have := getD_drop b p 1; rw [hd] at this; simpa using this
            simp only [List.length_cons] at hlen hdm
            rw [optsS_opt (by omega) (by omega) (by rw [b1]; omega), b1, Int.toNat_natCast]
            obtain ⟨os, e1, e2⟩ := ih _ c' (p + 2 + o.data.length) 0 hw (by rw [← hdm]; congr 1; omega) (by omega) (.inl rfl)
            rw [e1]
            refine ⟨_, rfl, ?_⟩
            have hpt : bpart b (p + 2) o.data.length = o.data := by
              have e : b.drop (p + 2) = o.data ++ c' := by
                have e : (o.kind :: (o.data.length : Int) :: o.data) ++ c' = [o.kind, (o.data.length : Int)] ++ (o.data ++ c') := rfl
                rw [e] at hd
                exact drop_more hd
              exact bpart_of e
            rw [List.map_append, List.map_cons, e2, flushS_d]
            show flushD run ++ _ = _
            congr 1
            unfold OP.d
            simp only [b0]
            rw [if_neg h0, hpt]
            rfl
theorem putOptsS_read {l : List OptD} (h : (putOptsS l).2 = 0) : ∃ os, optsS (putOptsS l).1 0 0 = some os ∧ os.map (OP.d (putOptsS l).1) = l ∧ (putOptsS l).1.length % 8 = 6 := by
  rw [putOptsS_wr] at h ⊢
  cases hw : wrF false l with
  | none => rw [hw] at h; exact absurd h (by decide)
  | some out =>
    rw [hw] at h
    simp only at h ⊢
    split at h
    · exact absurd h (by decide)
    · rename_i h1
      rw [if_neg h1]
      obtain ⟨os, e1, e2⟩ := wrF_read (b := out) l false out 0 0 hw rfl (Nat.zero_le _) (.inl rfl)
      refine ⟨os, e1, e2, ?_⟩
      show out.length % 8 = 6
      omega
def firstE (next : Int) : List ExtD → Int
  | [] => next
  | x :: _ => x.kind
/-- Headers, written from the first on. -/
def hdrB (next : Int) : List ExtD → List Int
  | [] => []
  | x :: r => (firstE next r % 256 :: (((bodyS x).1.length / 8 : Nat) : Int) :: (bodyS x).1) ++ hdrB next r
theorem hdrF_B {l : List ExtD} {next : Int} {top : Bool} : ∀ (r a : List ExtD), l = a ++ r → hdrOk l top l.length → (hdrF l next top a.length).2 = 0 → hdrF l next top l.length = ((hdrF l next top a.length).1 ++ hdrB next r, 0) := by
  intro r
  induction r with
  | nil =>
    intro a hl hok h0
    rw [List.append_nil] at hl; subst hl
    simp only [hdrB, List.append_nil]
    rw [← h0]
  | cons x r ih =>
    intro a hl hok h0
    have hx : l[a.length]? = some x := by rw [hl]; simp
    have hlt : a.length < l.length := by rw [hl]; simp
    obtain ⟨k1, k2⟩ := hok a.length x hlt hx
    have hs := hdrF_step h0 hx
    rw [if_neg k1, if_neg (by omega)] at hs
    have := ih (a ++ [x]) (by rw [hl]; simp) hok (by rw [List.length_append, List.length_singleton, hs])
    rw [this, List.length_append, List.length_singleton, hs]
    have ht : thenK l next a.length = firstE next r := by
      unfold thenK
      have : l[a.length + 1]? = r[0]? := by rw [hl, List.getElem?_append_right (by omega)]; simp
      rw [this]
      cases r <;> rfl
    rw [ht]
    simp only [hdrB, List.append_assoc]
theorem headersS_B {l : List ExtD} {next : Int} {top : Bool} (h : (headersS l next top).2 = 0) : (headersS l next top).1 = hdrB next l := by
  obtain ⟨h8, hok, _⟩ := headersS_ok h
  unfold headersS
  rw [if_neg (by omega)]
  have := hdrF_B (l := l) (next := next) (top := top) l [] rfl hok rfl
  rw [this]
  rfl
theorem inS_read {x : ExtD} {b r : List Int} {p : Nat} (h : (bodyS x).2 = 0) (hd : b.drop p = (bodyS x).1 ++ r) : (bodyS x).1.length % 8 = 6 ∧ ∃ os, inS x.kind b p (bodyS x).1.length = some os ∧ EP.d b ⟨x.kind, os, p, (bodyS x).1.length⟩ = x := by
  have hp := bpart_of hd
  unfold bodyS at h hp ⊢
  split at h
  · rename_i h0
    split at h
    · exact absurd h (by decide)
    · rename_i h1
      rw [if_pos h0, if_neg h1] at hp ⊢
      simp only at hp ⊢
      refine ⟨by omega, [], by unfold inS; rw [if_pos h0], ?_⟩
      unfold EP.d
      simp only [h0, if_true, hp, List.map_nil]
      obtain ⟨k, o, dt⟩ := x
      simp only at h0 h1 ⊢
      have : o = [] := Classical.byContradiction fun h => h1 (.inl h)
      rw [h0, this]
  · rename_i h0
    split at h
    · rename_i h1
      split at h
      · exact absurd h (by decide)
      · rename_i h2
        rw [if_neg h0, if_pos h1, if_neg h2] at hp ⊢
        obtain ⟨os, e1, e2, e3⟩ := putOptsS_read h
        refine ⟨e3, os, ?_, ?_⟩
        · unfold inS; rw [if_neg h0, hp, e1]
        · unfold EP.d
          simp only [h0, if_false, hp, e2]
          obtain ⟨k, o, dt⟩ := x
          simp only at h2 ⊢
          have : dt = [] := Classical.byContradiction fun h => h2 h
          rw [this]
    · exact absurd h (by decide)
theorem bodyS_isH {x : ExtD} (h : (bodyS x).2 = 0) : isH x.kind := by
  unfold bodyS at h
  unfold isH
  split at h
  · rename_i h0; exact .inr (.inl h0)
  · split at h
    · rename_i h1; omega
    · exact absurd h (by decide)
/-- Headers that were written are read as they were. -/
theorem hdrB_read {b : List Int} {top : Bool} {next : Int} (hn : ¬ isH next) (hnr : 0 ≤ next ∧ next ≤ 255) : ∀ (l : List ExtD) (i p : Nat) (r : List Int), i + l.length ≤ 8 → (∀ j x, l[j]? = some x → ¬ (x.kind = 0 ∧ ¬ (top = true ∧ i + j = 0)) ∧ (bodyS x).2 = 0) →
    b.drop p = hdrB next l ++ r → p ≤ b.length → ∃ es, hdrsS b top (firstE next l) p i = .ok (es, next, p + (hdrB next l).length) ∧ es.map (EP.d b) = l := by
  intro l
  induction l with
  | nil =>
    intro i p r _ _ hd hp
    exact ⟨[], hdrsS_end hn, rfl⟩
  | cons x l ih =>
    intro i p r hl hok hd hp
    obtain ⟨k1, k2⟩ := hok 0 x rfl
    have hH := bodyS_isH k2
    obtain ⟨K, hKf⟩ : ∃ K, K = firstE next l := ⟨_, rfl⟩
    have hKr : K % 256 = K := by
      rw [hKf]
      cases l with
      | nil => show next % 256 = next; omega
      | cons y l =>
        have := bodyS_isH (hok 1 y rfl).2
        unfold isH at this
        show y.kind % 256 = y.kind
        omega
    have hB : hdrB next (x :: l) = ([K, (((bodyS x).1.length / 8 : Nat) : Int)] ++ (bodyS x).1) ++ hdrB next l := by
      show (firstE next l % 256 :: (((bodyS x).1.length / 8 : Nat) : Int) :: (bodyS x).1) ++ hdrB next l = _
      rw [← hKf, hKr]; rfl
    rw [hB] at hd ⊢
    have hd2 : b.drop p = [K, (((bodyS x).1.length / 8 : Nat) : Int)] ++ ((bodyS x).1 ++ (hdrB next l ++ r)) := by rw [hd]; simp
    have b0 : b.getD p 0 = K := by have := getD_drop b p 0; rw [hd2] at this; simpa using this
    have b1 : b.getD (p + 1) 0 = (((bodyS x).1.length / 8 : Nat) : Int) := by have := getD_drop b p 1; rw [hd2] at this; simpa using this
    have hd3 : b.drop (p + 2) = (bodyS x).1 ++ (hdrB next l ++ r) := drop_more hd2
    obtain ⟨h6, os, hin, hxd⟩ := inS_read k2 hd3
    have hlen := drop_len hd2 hp
    simp only [List.length_append, List.length_cons, List.length_nil] at hlen
    have hL : lenH b p = (bodyS x).1.length := by unfold lenH; rw [b1, Int.toNat_natCast]; omega
    have hstep := hdrsS_step (b := b) (top := top) (k := x.kind) (p := p) (i := i) hH (fun h => k1 ⟨h.1, fun q => by
      rcases h.2 with e | e
      · rw [e] at q; exact absurd q.1 (by decide)
      · omega⟩) (by simp only [List.length_cons] at hl; omega) (by rw [hL]; omega) (os := os) (by rw [hL]; exact hin)
    have hd4 : b.drop (p + 2 + (bodyS x).1.length) = hdrB next l ++ r := drop_more hd3
    obtain ⟨es, e1, e2⟩ := ih (i + 1) (p + 2 + (bodyS x).1.length) r (by simp only [List.length_cons] at hl; omega) (fun j y hj => by
      have := hok (j + 1) y (by simpa using hj)
      refine ⟨fun q => this.1 ⟨q.1, fun t => q.2 ⟨t.1, by omega⟩⟩, this.2⟩) hd4 (by omega)
    refine ⟨⟨x.kind, os, p + 2, (bodyS x).1.length⟩ :: es, ?_, ?_⟩
    · show hdrsS b top x.kind p i = _
      rw [hstep, b0, hL, hKf, e1]
      simp only [Except.map, List.length_append, List.length_cons, List.length_nil]
      congr 3
      omega
    · rw [List.map_cons, hxd, e2]
end Go.Eng
