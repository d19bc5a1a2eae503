/- Chapter 11: Put, whole. -/
import Derived.Test.YthhgbpmihhljdaaGreatDoorBbe
import Derived.Test.YthhgbpmihhljdaaGreatDoorBam
import Derived.Test.YthhgbpmihhljdaaGreatDoorBaw
import Derived.Shelf.SlSortCmp.NoneTotal
import Derived.Test.YthhgbpmihhljdaaGreatDoorProg
namespace Go.Proofs.YthhgbpmihhljdaaGreatDoor
namespace N6
open Go Go.Eng Go.RowKit
section
variable {w : World} {r : HolR}
theorem flat_step {off to : Int} {gs : List (Int × Int)} {i : Nat} {g : Int × Int} (h : gs[i]? = some g) : (gs.take (i + 1)).flatMap (cutG off to) = (gs.take i).flatMap (cutG off to) ++ cutG off to g := by
  rw [List.take_add_one, h, List.flatMap_append]; simp
theorem newN_step {off to : Int} {gs : List (Int × Int)} {i : Nat} {g : Int × Int} (h : gs[i]? = some g) : newN off to (gs.take (i + 1)) = newN off to (gs.take i) + new1 off to g := by
  rw [List.take_add_one, h, newN_app]; simp [newN]
theorem bufN_step {off to : Int} {d x : List Int} {gs : List (Int × Int)} {i : Nat} {g : Int × Int} (h : gs[i]? = some g) : bufN off to d x (gs.take (i + 1)) = buf1 off to d (bufN off to d x (gs.take i)) g := by
  rw [List.take_add_one, h, bufN_app]; simp [bufN]
theorem Gs.take {hi : Int} : ∀ {gs : List (Int × Int)} {lo : Int} (i : Nat), Gs lo hi gs → Gs lo hi (gs.take i)
  | [], _, i, _ => by simp [Gs]
  | g :: l, lo, 0, _ => by simp [Gs]
  | g :: l, lo, i + 1, h => by rw [List.take_succ_cons]; exact ⟨h.1, h.2.1, h.2.2.1, Gs.take i h.2.2.2⟩
set_option maxHeartbeats 4000000 in
/-- The rounds over the gaps. -/
theorem put_loop {M : Nat → Prop} {g m g1 g2 : Nat} {bufA gapA S : Sl} {held off to : Int} {s : HolS} {d b0 : List Int} {w1 : World} {J : (Option Addr × Nat × Nat) → World → Prop} {hi : Int} (h0 : 0 ≤ off) (hd : 0 < d.length) (hto : off + d.length = to) (h1 : to ≤ 65535) (hhi : hi ≤ 65535) (hG : Gs 0 hi s.gaps) (hb : to ≤ b0.length)
    (hS : ∀ w', Mod M w w' → BytesAt w' S d)
    (H : Sep (putG w M g m g1 g2 bufA gapA held { s with buf := b0 } ⟨0, 0, false⟩) w1)
    (hJ : ∀ (left : Sl) (w' : World), Sep (putG w M g m g1 g2 bufA gapA held { s with buf := bufN off to d b0 s.gaps } ⟨newN off to s.gaps, 0, false⟩ ++ [rowG 0 left (s.gaps.flatMap (cutG off to))]) w' → J (left.A, left.n, left.k) w') :
    LoopVC (S := (Option Addr × Nat × Nat) × Int) (fun s_ w9 K => hole_Holes_Put_L3578 (some ⟨g, 0, none⟩) off S.A S.n S.k g2 J gapA.A gapA.n s_.1.1 s_.1.2.1 s_.1.2.2 s_.2 w9 K) ((none, 0, 0), 0) w1 := by
  have hlen : S.n = d.length := by have := (hS w (Mod.refl _ _)).len; omega
  have hw : IntKind.i64.wrap (off + (S.n : Int)) = to := by rw [w64 (by omega) (by omega)]; omega
  have hgn : gapA.n = s.gaps.length := by
    have : (gapC s.gaps).length = gapA.n * 2 := (H.own 3 rfl).1
    rw [gapC_len] at this; omega
  have hgk : gapA.n ≤ gapA.k := own_le (H.own 3 rfl)
  have hfew : (s.gaps.length : Int) ≤ 65535 := by
    rcases hG.len with h | h
    · rw [h]; show (0 : Int) ≤ _; omega
    · omega
  have hga := gs_all hG (Int.le_refl _)
  have hbl : ∀ i, (bufN off to d b0 (s.gaps.take i)).length = b0.length := fun i => bufN_len h0 hto hb fun x hx => hga x (List.mem_of_mem_take hx)
  have hnl : ∀ i, 0 ≤ newN off to (s.gaps.take i) ∧ newN off to (s.gaps.take i) ≤ to - off := fun i => by
    have := newN_le (off := off) (to := to) (by omega) (Gs.take (lo := 0) i hG)
    exact ⟨this.1, this.2.1⟩
  have hcl : ∀ i, ((s.gaps.take i).flatMap (cutG off to)).length ≤ 1000000 := fun i => by
    have := (cuts_gs (off := off) (to := to) (by omega) (Gs.take (lo := 0) i hG)).len
    rcases this with h | h
    · rw [h]; exact Nat.zero_le _
    · omega
  refine LoopVC.of (fun st w' => ∃ i : Nat, st.2 = i ∧ i ≤ s.gaps.length ∧ Sep (putG w M g m g1 g2 bufA gapA held { s with buf := bufN off to d b0 (s.gaps.take i) } ⟨newN off to (s.gaps.take i), 0, false⟩ ++ [rowG 0 ⟨st.1.1, st.1.2.1, st.1.2.2⟩ ((s.gaps.take i).flatMap (cutG off to))]) w')
    (fun st _ => ((s.gaps.length : Int) - st.2).toNat) ⟨0, rfl, Nat.zero_le _, H.nil 0 145 2⟩ ?_
  rintro ⟨⟨A1, n1, c1⟩, _⟩ w2 ⟨i, rfl, hi', H⟩
  show hole_Holes_Put_L3578 (some ⟨g, 0, none⟩) off S.A S.n S.k g2 J gapA.A gapA.n A1 n1 c1 (i : Int) w2 _
  unfold hole_Holes_Put_L3578
  have hn1 : n1 = ((s.gaps.take i).flatMap (cutG off to)).length := by
    have : (gapC ((s.gaps.take i).flatMap (cutG off to))).length = n1 * 2 := (H.own 7 rfl).1
    rw [gapC_len] at this; omega
  have hcli := hcl i
  rw [hw]
  refine Br.dec (fun hlt => ?_) fun hge => ?_
  case refine_2 =>
    have e : i = s.gaps.length := by omega
    rw [e, List.take_length] at H
    exact hJ ⟨A1, n1, c1⟩ w2 H
  have hlt : i < s.gaps.length := by omega
  obtain ⟨x, hx⟩ : ∃ x, s.gaps[i]? = some x := ⟨_, List.getElem?_eq_getElem hlt⟩
  have hxg := hG.mem (List.mem_of_getElem? hx)
  have hi1 : IntKind.i64.wrap ((i : Int) + 1) = ((i + 1 : Nat) : Int) := by rw [w64 (by omega) (by omega)]; omega
  have hgc : Cells w2 gapA.A (gapC s.gaps) := own_cells (A := gapA.A) (c := gapA.k) (H.own 3 rfl)
  refine gap_idx hgc (i := i) rfl (by omega) hx fun a hca => GapV.of ⟨x.1, x.2⟩ ⟨hca w2 hgc, NewVC.sep H fun g3 w3 H => Stores.sep H 8 rfl (GapV.one _) (Nat.le_refl _) (splice_all rfl) fun w4 H => ?_⟩
  refine ⟨_, rfl, by decide, by decide, x.1, (H.blk 8 rfl).cell 0, Br.dec (fun hle => ?_) fun hle => ?_⟩
  · have hgc4 : Cells w4 gapA.A (gapC s.gaps) := own_cells (A := gapA.A) (c := gapA.k) (H.own 3 rfl)
    have hbeh := Gs.drop (to := to) (gs := []) hG hx hle
    refine ⟨_, rfl, gapA.A, gapA.n, gapA.k, (H.blk 1 rfl).cell 2, by omega, by omega, ?_⟩
    rw [Int.toNat_natCast, if_neg (by omega)]
    have hsrc : Cells w4 (gapA.A.map (·.add (i * 2))) (gapC (s.gaps.drop i)) := by rw [← gapC_drop]; exact hgc4.from_ (i * 2)
    refine appG H 7 rfl hsrc (m := gapA.n - i) (by rw [List.length_drop]; omega) (by omega) (Nat.zero_le _) fun A2 c2 w5 H hc2 => hJ ⟨A2, n1 + (gapA.n - i), c2⟩ w5 ?_
    have e2 : newN off to s.gaps = newN off to (s.gaps.take i) := by
      have := newN_app (off := off) (to := to) (s.gaps.take i) (s.gaps.drop i)
      rw [List.take_append_drop, newN_behind hbeh] at this; omega
    have e3 : bufN off to d b0 s.gaps = bufN off to d b0 (s.gaps.take i) := by
      have := bufN_app (off := off) (to := to) (d := d) b0 (s.gaps.take i) (s.gaps.drop i)
      rw [List.take_append_drop, bufN_behind hbeh] at this; exact this
    have e4 : (s.gaps.take i).flatMap (cutG off to) ++ (s.gaps.drop i).flatMap (cutG off to) = s.gaps.flatMap (cutG off to) := by rw [← List.flatMap_append, List.take_append_drop]
    rw [cuts_behind hbeh] at e4
    rw [e2, e3, ← e4]
    exact H.take 8
  refine ⟨_, rfl, by decide, by decide, x.2, (H.blk 8 rfl).cell 1, Br.dec (fun hle2 => ?_) fun hle2 => ?_⟩
  · refine GapV.of ⟨x.1, x.2⟩ ⟨H.at 8 rfl, NewVC.sep H fun g4 w5 H => ?_⟩
    refine appG H 7 rfl (ys := [x]) (Cells.blk0 (H.blk 9 rfl)) rfl (by omega) (Nat.zero_le _) fun A2 c2 w6 H hc2 => ⟨⟨i + 1, hi1, by omega, ?_⟩, by simp only [hi1]; omega⟩
    have e1 : cutG off to x = [x] := by unfold cutG; rw [if_neg hle, if_pos hle2]
    have e2 : new1 off to x = 0 := by unfold new1; rw [if_neg hle, if_pos hle2]
    have e3 : buf1 off to d (bufN off to d b0 (s.gaps.take i)) x = bufN off to d b0 (s.gaps.take i) := by unfold buf1; rw [if_neg hle, if_pos hle2]
    rw [flat_step hx, newN_step hx, bufN_step hx, e1, e2, e3, Int.add_zero]
    exact H.take 8
  -- the gap and the piece meet
  have hlo : (if x.1 < off then off else x.1) = gLo off x := rfl
  have hhi2 : (if to < x.2 then to else x.2) = gHi to x := rfl
  have l1 : off ≤ gLo off x ∧ x.1 ≤ gLo off x ∧ (gLo off x = off ∨ gLo off x = x.1) := by unfold gLo; split <;> omega
  have l2 : gHi to x ≤ to ∧ gHi to x ≤ x.2 ∧ (gHi to x = to ∨ gHi to x = x.2) := by unfold gHi; split <;> omega
  have e1 : cutG off to x = (if x.1 < gLo off x then [(x.1, gLo off x)] else []) ++ (if gHi to x < x.2 then [(gHi to x, x.2)] else []) := by unfold cutG; rw [if_neg hle, if_neg hle2]
  have e2 : new1 off to x = gHi to x - gLo off x := by unfold new1; rw [if_neg hle, if_neg hle2]
  have e3 : buf1 off to d (bufN off to d b0 (s.gaps.take i)) x = lay1 (bufN off to d b0 (s.gaps.take i)) (gLo off x).toNat (bpart d (gLo off x - off).toNat (gHi to x - gLo off x).toNat) := by unfold buf1; rw [if_neg hle, if_neg hle2]
  refine DrawVC.sep H (fun w' => Blk w' g3 145 (⟨x.1, x.2⟩ : GapV).cells) fun w5 H => ?_
  refine ⟨H.blk 8 rfl, _, rfl, by decide, by decide, x.1, fun w' hb => hb.cell 0, _, rfl, by decide, by decide, x.2, fun w' hb => hb.cell 1, ?_⟩
  have D : hole_Holes_Put_D1832142 w5 g2 (some ⟨g, 0, none⟩) x.1 off S.n x.2 S.A S.k g3 A1 n1 c1 (i : Int) fun s' w'' => (∃ i : Nat, s'.2 = i ∧ i ≤ s.gaps.length ∧ Sep (putG w M g m g1 g2 bufA gapA held { s with buf := bufN off to d b0 (s.gaps.take i) } ⟨newN off to (s.gaps.take i), 0, false⟩ ++ [rowG 0 ⟨s'.1.1, s'.1.2.1, s'.1.2.2⟩ ((s.gaps.take i).flatMap (cutG off to))]) w'') ∧ ((s.gaps.length : Int) - s'.2).toNat < ((s.gaps.length : Int) - (i : Int)).toNat := by
    unfold hole_Holes_Put_D1832142
    rw [hw, hlo, hhi2]
    obtain ⟨bx, hbx⟩ : ∃ bx, bx = bufN off to d b0 (s.gaps.take i) := ⟨_, rfl⟩
    obtain ⟨nx, hnx⟩ : ∃ nx, nx = newN off to (s.gaps.take i) := ⟨_, rfl⟩
    have hbxl : bx.length = b0.length := by rw [hbx]; exact hbl i
    have hnx0 := hnl i
    rw [← hnx] at hnx0
    rw [← hbx, ← hnx] at H
    have hbn : bufA.n = bx.length := by
      have : (bx.map (Value.int .u8)).length = bufA.n * 1 := (H.own 2 rfl).1
      simpa using this.symm
    have hbk : bufA.n ≤ bufA.k := own_le (H.own 2 rfl)
    refine DrawVC.sep H (fun w' => Blk w' g 125 (HolR.cells ⟨g, m, bufA, gapA, held, { s with buf := bx }⟩) ∧ Blk w' g2 84 (⟨nx, 0, false⟩ : FitV).cells) fun w6 H => ⟨⟨H.blk 1 rfl, H.blk 6 rfl⟩, _, fun w' hb => hb.2.cell 0, _, rfl, bufA.A, bufA.n, bufA.k, fun w' hb => hb.1.cell 1, by omega, by omega, by omega, ?_⟩
    have hSd := hS w6 (H.restOf 0 rfl)
    have hSk := hSd.cap
    rw [w64 (n := gLo off x - off) (by omega) (by omega), w64 (n := gHi to x - off) (by omega) (by omega)]
    refine ⟨by omega, by omega, by omega, ?_⟩
    have ed : (gHi to x).toNat - (gLo off x).toNat = (gHi to x - gLo off x).toNat := by omega
    have ed2 : (gHi to x - off).toNat - (gLo off x - off).toNat = (gHi to x - gLo off x).toNat := by omega
    rw [ed, ed2]
    have hsrc : Cells w6 (if S.k = (gLo off x - off).toNat then S.A else S.A.map (·.add ((gLo off x - off).toNat * 1))) ((bpart d (gLo off x - off).toNat (gHi to x - gLo off x).toNat).map (.int .u8)) := by
      unfold bpart
      rw [List.map_take, List.map_drop]
      exact (hSd.cells.drop _ (by simp; omega) 1 (.inl rfl)).take _
    refine copyB H 2 rfl (lo := (gLo off x).toNat) (m := (gHi to x - gLo off x).toNat) (by omega) (by omega) hsrc (bpart_len (by omega)) fun w7 H => ?_
    have H : Sep (putG w M g m g1 g2 bufA gapA held { s with buf := lay1 bx (gLo off x).toNat (bpart d (gLo off x - off).toNat (gHi to x - gLo off x).toNat) } ⟨nx, 0, false⟩ ++ [rowG 0 ⟨A1, n1, c1⟩ ((s.gaps.take i).flatMap (cutG off to)), Fct.blk g3 145 (⟨x.1, x.2⟩ : GapV).cells]) w7 := H
    rw [hbx, ← e3, ← bufN_step hx] at H
    refine ⟨⟨H.blk 1 rfl, H.blk 6 rfl⟩, SetVC.sep H 6 (k := 0) rfl (show 0 < 3 by decide) fun w8 H => ?_⟩
    have hnw : IntKind.i64.wrap (nx + (((gHi to x - gLo off x).toNat : Nat) : Int)) = newN off to (s.gaps.take (i + 1)) := by
      rw [newN_step hx, ← hnx, e2, w64 (by omega) (by omega)]; omega
    rw [hnw] at H
    have H : Sep (putG w M g m g1 g2 bufA gapA held { s with buf := bufN off to d b0 (s.gaps.take (i + 1)) } ⟨newN off to (s.gaps.take (i + 1)), 0, false⟩ ++ [rowG 0 ⟨A1, n1, c1⟩ ((s.gaps.take i).flatMap (cutG off to)), Fct.blk g3 145 (⟨x.1, x.2⟩ : GapV).cells]) w8 := H
    refine JoinVC.of (fun st w' => Sep (putG w M g m g1 g2 bufA gapA held { s with buf := bufN off to d b0 (s.gaps.take (i + 1)) } ⟨newN off to (s.gaps.take (i + 1)), 0, false⟩ ++ [rowG 0 ⟨st.1, st.2.1, st.2.2⟩ ((s.gaps.take i).flatMap (cutG off to) ++ if x.1 < gLo off x then [(x.1, gLo off x)] else []), Fct.blk g3 145 (⟨x.1, x.2⟩ : GapV).cells]) w' ∧ st.2.1 ≤ 1000001) ?_ ?_
    · refine ⟨_, rfl, by decide, by decide, x.1, (H.blk 8 rfl).cell 0, Br.dec (fun hl => ?_) fun hl => ?_⟩
      · refine ⟨_, rfl, by decide, by decide, x.1, (H.blk 8 rfl).cell 0, NewVC.sep H fun g5 w9 H => ?_⟩
        refine appG H 7 rfl (ys := [(x.1, gLo off x)]) (Cells.blk0 (H.blk 9 rfl)) rfl (by omega) (Nat.zero_le _) fun A2 c2 w10 H hc2 => ?_
        rw [if_pos hl]
        exact ⟨H.take 9, by show n1 + 1 ≤ _; omega⟩
      · rw [if_neg hl, List.append_nil]
        exact ⟨H, by show n1 ≤ _; omega⟩
    · rintro ⟨A2, n2, c2⟩ w9 ⟨H, hn2⟩
      show hole_Holes_Put_J3664287 off S.n (i : Int) _ g3 x.2 A2 n2 c2 w9
      unfold hole_Holes_Put_J3664287
      rw [hw, hhi2, hi1]
      have hn2 : n2 ≤ 1000001 := hn2
      refine ⟨_, rfl, by decide, by decide, x.2, (H.blk 8 rfl).cell 1, Br.dec (fun hl => ?_) fun hl => ?_⟩
      · refine ⟨_, rfl, by decide, by decide, x.2, (H.blk 8 rfl).cell 1, NewVC.sep H fun g6 w10 H => ?_⟩
        refine appG H 7 rfl (ys := [(gHi to x, x.2)]) (Cells.blk0 (H.blk 9 rfl)) rfl (by omega) (Nat.zero_le _) fun A3 c3 w11 H hc3 => ⟨⟨i + 1, rfl, by omega, ?_⟩, by simp only; omega⟩
        rw [flat_step hx, e1, if_pos hl, ← List.append_assoc]
        exact H.take 8
      · refine ⟨⟨i + 1, rfl, by omega, ?_⟩, by simp only; omega⟩
        rw [flat_step hx, e1, if_neg hl, List.append_nil]
        exact H.take 8
  exact ⟨⟨H.blk 8 rfl, H.blk 8 rfl, D⟩, H.blk 8 rfl, H.blk 8 rfl, D⟩
/-- Put. -/
theorem put_spec {off : Int} {S : Sl} {d : List Int} {more : Bool} (H : Sep (holFs r) w) (hk : HolOk r.s) (hS : ∀ w', Mod (Blocks (holFs r)) w w' → BytesAt w' S d) :
    Calls Tryz.prog 57 #[r.p, .int .i64 off, S.val, .bool more] w fun e w' => ∃ r' : HolR, r'.g = r.g ∧ Sep (Fct.rest w (Blocks (holFs r)) :: holFs r') w' ∧
      ((refusedS r.s off d.length more ≠ 0 ∧ r'.s = r.s ∧ e = .returned (.tuple #[(FitV.z : FitV).val, .int .i64 (refusedS r.s off d.length more)])) ∨
       (refusedS r.s off d.length more = 0 ∧ r'.s = putS r.s off d more ∧ HolOk r'.s ∧ e = .returned (.tuple #[(fitS r.s off d more).val, .int .i64 0]))) := by
  refine hole_Holes_Put_of _ off S.A S.n S.k more w _ ?_
  unfold hole_Holes_Put_VC
  have hlen : S.n = d.length := by have := (hS w (Mod.refl _ _)).len; omega
  refine NewVC.sep H.begins fun g1 w1 H => ?_
  refine (refused_spec (S := S) (off := off) (more := more) ((H.take 5).tail) hk).mono ?_
  rintro _ w2 ⟨hE2, rfl⟩
  have H := H.ext hE2
  have er : refusedS r.s off S.n more = refusedS r.s off d.length more := by rw [hlen]
  rw [er]
  refine ⟨_, rfl, Br.dec (fun hne => ?_) fun hz => ?_⟩
  · refine Stores.sep H 5 rfl (FitV.one _) (Nat.le_refl _) (splice_all rfl) fun w3 H => FitV.of FitV.z ⟨H.at 5 rfl, r, rfl, H.take 5, .inl ⟨hne, rfl, rfl⟩⟩
  have hz : refusedS r.s off d.length more = 0 := Classical.byContradiction hz
  obtain ⟨h1, h2, h3, h4, _⟩ := refused_ok hz
  have hm2 := hk.m2
  obtain ⟨to, hto⟩ : ∃ to, off + (d.length : Int) = to := ⟨_, rfl⟩
  have hw : IntKind.i64.wrap (off + (S.n : Int)) = to := by rw [w64 (by omega) (by omega)]; omega
  rw [hw]
  have hbk := hk.blen
  refine JoinVC.of (fun _ w' => ∃ bufA : Sl, Sep [Fct.rest w (Blocks (holFs r)), Fct.blk r.g 125 (HolR.cells { r with bufA := bufA }), rowB 0 bufA (zpad r.s.buf to.toNat), rowG 0 r.gapA r.s.gaps, seenF r.m r.s.seen, Fct.blk g1 84 (FitV.z : FitV).cells] w') ?_ ?_
  · have hbn : r.bufA.n = r.s.buf.length := by
      have : (r.s.buf.map (Value.int .u8)).length = r.bufA.n * 1 := (H.own 2 rfl).1
      simpa using this.symm
    refine ⟨_, rfl, r.bufA.A, r.bufA.n, r.bufA.k, (H.blk 1 rfl).cell 1, Br.dec (fun hlt => ?_) fun hge => ⟨r.bufA, ?_⟩⟩
    · refine DrawVC.sep H (fun w' => Blk w' r.g 125 r.cells) fun w4 H => ⟨H.blk 1 rfl, _, rfl, r.bufA.A, r.bufA.n, r.bufA.k, fun w' hb => hb.cell 1, _, rfl, r.bufA.A, r.bufA.n, r.bufA.k, fun w' hb => hb.cell 1, ?_⟩
      refine appZ H 2 rfl (m := to.toNat - r.s.buf.length) (by rw [w64 (by omega) (by omega)]; omega) (by omega) (Nat.zero_le _) fun A2 c2 w5 H hc2 => ⟨H.blk 1 rfl, _, rfl, SetVC.sep H 1 (k := 1) rfl (show 1 < 6 by decide) fun w6 H => ⟨⟨A2, r.bufA.n + (to.toNat - r.s.buf.length), c2⟩, H⟩⟩
    · have : zpad r.s.buf to.toNat = r.s.buf := by unfold zpad; rw [show to.toNat - r.s.buf.length = 0 by omega]; simp
      rw [this]
      exact H
  rintro _ w7 ⟨bufA, H⟩
  unfold hole_Holes_Put_J27
  refine NewVC.sep H fun g2 w8 H => ?_
  have H : Sep (putG w (Blocks (holFs r)) r.g r.m g1 g2 bufA r.gapA r.held { r.s with buf := zpad r.s.buf to.toNat } ⟨0, 0, false⟩) w8 := H
  have hpo := put_ok hk (hS w (Mod.refl _ _)).bts hz
  have hzl := zpad_len r.s.buf to.toNat
  refine JoinVC.of (fun st w' => Sep (putG w (Blocks (holFs r)) r.g r.m g1 g2 bufA r.gapA r.held { r.s with buf := bufN off to d (zpad r.s.buf to.toNat) r.s.gaps } ⟨newN off to r.s.gaps, 0, false⟩ ++ [rowG 0 ⟨st.1, st.2.1, st.2.2⟩ (r.s.gaps.flatMap (cutG off to))]) w') ?_ ?_
  · have hfi := hk.fin
    refine ⟨_, rfl, r.gapA.A, r.gapA.n, r.gapA.k, (H.blk 1 rfl).cell 2, ?_⟩
    refine put_loop (S := S) (hi := if r.s.fin < 0 then r.s.max else r.s.fin) h1 h3 hto (by omega) (by split <;> omega) hk.gs (by rw [hzl]; omega) hS H ?_
    intro left w' H
    exact H
  · rintro ⟨lA, ln, lk⟩ w9 H
    have hnl := newN_le (off := off) (to := to) (by omega) hk.gs
    have hcg := (cuts_gs (off := off) (to := to) (by omega) hk.gs).len
    have hfi := hk.fin
    have hbuf : (putS r.s off d more).buf = bufN off to d (zpad r.s.buf to.toNat) r.s.gaps := by
      show bufN off (off + d.length) d (zpad r.s.buf (off + (d.length : Int)).toNat) r.s.gaps = _
      rw [hto]
    have hpl := hpo.2.1
    rw [hbuf, hto] at hpl
    refine put_mid (left := ⟨lA, ln, lk⟩) (lg := r.s.gaps.flatMap (cutG off to)) (s := { r.s with buf := bufN off to d (zpad r.s.buf to.toNat) r.s.gaps }) h1 (by omega) (by show _ ≤ ((bufN off to d (zpad r.s.buf to.toNat) r.s.gaps).length : Int); omega)
      (by have := hpo.1.bts; rw [hbuf] at this; exact this) hnl.1 (by omega) hS (by
        rcases hcg with h | h
        · rw [h]; exact Nat.zero_le _
        · split at h <;> omega) H fun gapA' held' w' H' => ?_
    refine ⟨⟨r.g, r.m, bufA, gapA', held', putS r.s off d more⟩, rfl, ?_, .inr ⟨hz, rfl, hpo.1, ?_⟩⟩
    · unfold putS
      rw [hto]
      rw [hto] at H'
      exact H'
    · unfold fitS
      rw [hbuf, hto]
end
end N6
end Go.Proofs.YthhgbpmihhljdaaGreatDoor
/- Chapter 12: copies of what came; a context's small functions. -/
namespace Go.Proofs.YthhgbpmihhljdaaGreatDoor
namespace N6
open Go Go.Eng Go.RowKit
section
variable {w : World} {Γ : List Fct} {s : Sl} {l : List Int}
theorem copies_spec (h : BytesAt w s l) : Calls Tryz.prog 53 #[s.val] w fun e w' => ∃ s' : Sl, e = .returned s'.val ∧ BFine s' l ∧ s'.n = s.n ∧ Sep [Fct.rest w None, rowB w.heap.size s' l] w' := by
  refine reasm_copies_of s.A s.n s.k w _ ?_
  unfold reasm_copies_VC
  have hl := h.len
  have hs := h.small
  refine appB (m := s.n) (xs := []) (ys := l) ((Sep.start0 w).nil w.heap.size 5 1) 1 rfl h.cells hl (by omega) (Nat.le_refl _) fun A2 c2 w2 H hc2 => ?_
  rw [Nat.zero_add] at H ⊢
  exact ⟨⟨A2, s.n, c2⟩, rfl, ⟨hs, h.bts⟩, rfl, H⟩
set_option maxHeartbeats 1000000 in
theorem ropts_spec {rs : List OptR} (hO : OptsAt w s rs) : Calls Tryz.prog 75 #[s.val] w fun e w' => ∃ (s' : Sl) (rs' : List OptR), e = .returned s'.val ∧
    rs'.map OptR.d = rs.map OptR.d ∧ OptsFine s' rs' ∧ s'.n = s.n ∧ Sep (Fct.rest w None :: optFs w.heap.size s' rs') w' := by
  refine reasm_options_of s.A s.n s.k w _ ?_
  unfold reasm_options_VC
  have hl := hO.len
  have hsm := hO.small
  refine LoopVC.of (fun st w' => ∃ (i : Nat) (rs' : List OptR), st.2 = i ∧ i ≤ s.n ∧ rs'.map OptR.d = (rs.take i).map OptR.d ∧ OptsFine ⟨st.1.1, st.1.2.1, st.1.2.2⟩ rs' ∧ st.1.2.1 = i ∧
      Sep (Fct.rest w None :: optFs w.heap.size ⟨st.1.1, st.1.2.1, st.1.2.2⟩ rs') w') (fun st _ => ((s.n : Int) - st.2).toNat)
    ⟨0, [], rfl, Nat.zero_le _, rfl, ⟨rfl, Nat.zero_le _, fun r hr => by cases hr⟩, rfl, (Sep.start0 w).nil _ _ _⟩ ?_
  rintro ⟨⟨A1, n1, c1⟩, _⟩ w1 ⟨i, rs', rfl, hi, hd, hf, hn1, H⟩
  simp only at hn1
  subst hn1
  show reasm_options_L58 _ s.A s.n A1 n1 c1 (n1 : Int) w1 _
  unfold reasm_options_L58
  refine Br.dec (fun hlt => ?_) fun hge => ?_
  · have hlt : n1 < s.n := by omega
    refine (hO.ext H.start1).idx rfl hlt fun a r hr hc hb => OptV.of r.v ⟨hc, ?_⟩
    have htake : rs.take (n1 + 1) = rs.take n1 ++ [r] := by rw [List.take_add_one, hr]; rfl
    have hi1 : IntKind.i64.wrap ((n1 : Int) + 1) = ((n1 + 1 : Nat) : Int) := by rw [w64 (by omega) (by omega)]; omega
    refine NewVC.sep H fun g1 w2 H => ?_
    have H := H.front
    refine Stores.sep H 0 rfl (OptV.one _) (Nat.le_refl _) (splice_all rfl) fun w3 H => ?_
    refine DrawVC.sep H (fun w' => Blk w' g1 127 r.v.cells) fun w5 H => ⟨H.blk 0 rfl, _, fun w' hb => hb.cell 0, _, _, _, fun w' hb => hb.cell 1, ?_⟩
    refine (copies_spec (s := r.v.data) (l := r.data) (((hO.each r (List.mem_of_getElem? hr)).ext (H.restOf 1 rfl)))).mono ?_
    rintro _ w6 ⟨s', rfl, hB, hn, H6⟩
    have hz5 := (H.restOf 1 rfl).size
    have H := (H.made H6).front.lower 0 rfl hz5
    refine ⟨_, _, _, rfl, H.blk 1 rfl, NewVC.sep H fun g2 w7 H => ⟨H.front.blk 2 rfl, ?_⟩⟩
    have H := H.front
    have hz7 := (H.restOf 3 rfl).size
    refine appO (o := ⟨r.v.kind, s'⟩) H 4 rfl (Cells.blk0 (H.blk 0 rfl)) (show n1 ≤ 1000000000 by omega) (by omega) fun A2 c2 w8 H hc2 => ⟨H.blk 2 rfl, ⟨n1 + 1, rs' ++ [⟨⟨r.v.kind, s'⟩, r.data⟩], hi1, by omega, ?_, ⟨?_, by simp only; omega, ?_⟩, rfl, ?_⟩, by simp only [hi1]; omega⟩
    · rw [htake, List.map_append, List.map_append, hd]; rfl
    · have := hf.len; simp at this ⊢; omega
    · intro x hx
      rcases List.mem_append.1 hx with hx | hx
      · exact hf.each x hx
      · simp at hx; subst hx; exact hB
    · have H := H.tail.rot.tail
      simp only [optFs, rowO, List.map_append, List.flatten_append, List.map_cons, List.map_nil, List.flatten_cons, List.flatten_nil, List.append_nil]
      exact H
  · have hin : n1 = s.n := by omega
    exact ⟨⟨A1, n1, c1⟩, rs', rfl, by rw [hd, hin, ← hl, List.take_length], hf, hin, H⟩
set_option maxHeartbeats 1000000 in
theorem rhdrs_spec {rs : List ExtR} (hX : ExtsAt w s rs) : Calls Tryz.prog 52 #[s.val] w fun e w' => ∃ (s' : Sl) (rs' : List ExtR), e = .returned s'.val ∧
    rs'.map ExtR.d = rs.map ExtR.d ∧ ExtsFine s' rs' ∧ Sep (Fct.rest w None :: extFs w.heap.size s' rs') w' := by
  refine reasm_headers_of s.A s.n s.k w _ ?_
  unfold reasm_headers_VC
  have hl := hX.len
  have hsm := hX.small
  refine LoopVC.of (fun st w' => ∃ (i : Nat) (rs' : List ExtR), st.2 = i ∧ i ≤ s.n ∧ rs'.map ExtR.d = (rs.take i).map ExtR.d ∧ ExtsFine ⟨st.1.1, st.1.2.1, st.1.2.2⟩ rs' ∧ st.1.2.1 = i ∧
      Sep (Fct.rest w None :: extFs w.heap.size ⟨st.1.1, st.1.2.1, st.1.2.2⟩ rs') w') (fun st _ => ((s.n : Int) - st.2).toNat)
    ⟨0, [], rfl, Nat.zero_le _, rfl, ⟨rfl, Nat.zero_le _, (fun r hr => by cases hr), fun r hr => by cases hr⟩, rfl, (Sep.start0 w).nil _ _ _⟩ ?_
  rintro ⟨⟨A1, n1, c1⟩, _⟩ w1 ⟨i, rs', rfl, hi, hd, hf, hn1, H⟩
  simp only at hn1
  show reasm_headers_L58 _ s.A s.n A1 n1 c1 (i : Int) w1 _
  unfold reasm_headers_L58
  refine Br.dec (fun hlt => ?_) fun hge => ?_
  · have hlt : i < s.n := by omega
    refine (hX.ext H.start1).idx rfl hlt fun a r hr hc _ _ => ExtV.of r.v ⟨hc, ?_⟩
    have hrm := List.mem_of_getElem? hr
    have htake : rs.take (i + 1) = rs.take i ++ [r] := by rw [List.take_add_one, hr]; rfl
    have hi1 : IntKind.i64.wrap ((i : Int) + 1) = ((i + 1 : Nat) : Int) := by rw [w64 (by omega) (by omega)]; omega
    refine NewVC.sep H fun g1 w2 H => ?_
    have H := H.front
    refine Stores.sep H 0 rfl (ExtV.one _) (Nat.le_refl _) (splice_all rfl) fun w3 H => ?_
    refine DrawVC.sep H (fun w' => Blk w' g1 56 r.v.cells) fun w4 H => ⟨H.blk 0 rfl, _, fun w' hb => hb.cell 0, _, _, _, fun w' hb => hb.cell 1, _, _, _, fun w' hb => hb.cell 2, ?_⟩
    have hz4 := (H.restOf 1 rfl).size
    refine (ropts_spec (s := r.v.opts) (rs := r.opts) ((hX.opts r hrm).ext (H.restOf 1 rfl))).mono ?_
    rintro _ w5 ⟨so, os', rfl, hod, hof, _, H5⟩
    have H5 := (AllLe.append (AllLe.refl [Fct.rest w4 None]) (optFs_less hz4)).sep H5
    have H := H.mades H5
    have hz5 := (H.restOf 1 rfl).size
    refine ⟨_, _, _, rfl, H.blk 0 rfl, ?_⟩
    refine (copies_spec (s := r.v.data) (l := r.data) ((hX.data r hrm).ext (H.restOf 1 rfl))).mono ?_
    rintro _ w6 ⟨sd, rfl, hB, hn, H6⟩
    have H6 := H6.lower 1 rfl hz5
    have H := H.made H6
    refine ⟨_, _, _, rfl, H.blk 0 rfl, NewVC.sep H fun g2 w7 H => ⟨H.front.blk 1 rfl, ?_⟩⟩
    have H := H.front
    have hz7 := (H.restOf 2 rfl).size
    refine appE (o := ⟨r.v.kind, so, sd⟩) H 3 rfl (Cells.blk0 (H.blk 0 rfl)) (show n1 ≤ 1000000000 by omega) (by omega) fun A2 c2 w8 H hc2 => ⟨H.blk 1 rfl, ⟨i + 1, rs' ++ [⟨⟨r.v.kind, so, sd⟩, os', r.data⟩], hi1, by omega, ?_, ⟨?_, by simp only; omega, ?_, ?_⟩, by simp only; omega, ?_⟩, by simp only [hi1]; omega⟩
    · rw [htake, List.map_append, List.map_append, hd]
      simp only [List.map_cons, List.map_nil, ExtR.d, hod]
    · have := hf.len; simp at this ⊢; omega
    · intro x hx
      rcases List.mem_append.1 hx with hx | hx
      · exact hf.opts x hx
      · simp at hx; subst hx; exact hof
    · intro x hx
      rcases List.mem_append.1 hx with hx | hx
      · exact hf.data x hx
      · simp at hx; subst hx; exact hB
    · have H := H.tail.tail
      simp only [extFs, rowE, extF, List.map_append, List.flatten_append, List.map_cons, List.map_nil, List.flatten_cons, List.flatten_nil, List.append_nil, List.flatMap_append, List.flatMap_cons, List.flatMap_nil, ← List.append_assoc]
      exact H
  · have hin : i = s.n := by omega
    exact ⟨⟨A1, n1, c1⟩, rs', rfl, by rw [hd, hin, ← hl, List.take_length], hf, H⟩
def Ip6V.with_ (h : Ip6V) (se sd : Sl) : Ip6V := { h with exts := se, data := sd }
def Ip4V.with_ (h : Ip4V) (so sd : Sl) : Ip4V := { h with opts := so, data := sd }
theorem rclone6_spec {h : Ip6V} {es : List ExtR} {data : List Int} (hA : Ip6At w h es data) : Calls Tryz.prog 26 #[h.val] w fun e w' => ∃ (se sd : Sl) (es' : List ExtR), e = .returned (Ip6V.with_ h se sd).val ∧
    es'.map ExtR.d = es.map ExtR.d ∧ ExtsFine se es' ∧ BFine sd data ∧ Sep (Fct.rest w None :: (extFs 0 se es' ++ [rowB 0 sd data])) w' := by
  refine reasm_clone6_of h w _ ?_
  unfold reasm_clone6_VC
  refine NewVC.sep (Sep.start0 w) fun g1 w1 H => NewVC.sep H fun g2 w2 H => DrawVC.sep H (fun w' => Blk w' g1 30 h.cells) fun w3 H => ⟨H.blk 1 rfl, ?_⟩
  refine ⟨_, _, _, fun w' hb => hb.cell 37, _, _, _, fun w' hb => hb.cell 43, ?_⟩
  refine (rhdrs_spec (s := h.exts) (hA.exts.ext (H.restOf 0 rfl))).mono ?_
  rintro _ w4 ⟨se, es', rfl, hed, hef, H4⟩
  have H := H.mades H4
  refine ⟨_, _, _, rfl, H.blk 1 rfl, ?_⟩
  refine (copies_spec (s := h.data) (l := data) (hA.data.ext (H.restOf 0 rfl))).mono ?_
  rintro _ w5 ⟨sd, rfl, hB, hn, H5⟩
  have H := H.made H5
  refine ⟨_, _, _, rfl, SetVC.sep H 1 (k := 37) rfl (show 37 < 44 by decide) fun w6 H => SetVC.sep H 1 (k := 43) rfl (show 43 < 44 by decide) fun w7 H => ?_⟩
  refine Ip6V.of (Ip6V.with_ h se sd) ⟨H.at 1 rfl, Stores.sep H 2 rfl (Ip6V.one _) (Nat.le_refl _) (splice_all rfl) fun w8 H => Ip6V.of (Ip6V.with_ h se sd) ⟨H.at 2 rfl, se, sd, es', rfl, hed, hef, hB, ?_⟩⟩
  have H := H.sub (Γ' := Fct.rest w None :: (extFs w3.heap.size se es' ++ [rowB w4.heap.size sd data])) (.cons_cons _ (.cons _ (.cons _ (List.Sublist.refl _))))
  exact (AllLe.append (AllLe.refl [Fct.rest w None]) ((extFs_less (Nat.zero_le _)).append (.cons (own_less (Nat.zero_le _)).1 (own_less (Nat.zero_le _)).2 .nil))).sep H
end
end N6
end Go.Proofs.YthhgbpmihhljdaaGreatDoor
/- The library's sort laid at this program: its numbers, and that each body is the one that the kit's contract was proved of. (Written by the kit's lay-plain.) -/
namespace Go.Proofs
open Go.Shelf
def Tryz.sortCtx_ren : Go.Shelf.Ren := ⟨fun | 6 => 61 | 15 => 80 | 14 => 79 | 28 => 102 | 29 => 103 | 20 => 94 | 21 => 95 | 22 => 96 | 23 => 97 | 24 => 98 | 25 => 99 | 26 => 100 | 27 => 101 | 46 => 112 | 47 => 113 | 48 => 114 | 49 => 115 | 50 => 116 | 57 => 125 | n => n, fun | 22 => 97 | 24 => 76 | 25 => 129 | 3 => 3 | 39 => 153 | 0 => 0 | 53 => 174 | 55 => 133 | 4 => 4 | 46 => 168 | 45 => 167 | 50 => 115 | 5 => 5 | 9 => 9 | 66 => 188 | 70 => 192 | 76 => 199 | 77 => 200 | n => n, fun | n => n⟩
theorem Tryz.sortCtx : Go.Proofs.SlLaysF.n6 Tryz.prog Tryz.sortCtx_ren := {
  mixed := by kernel_rfl
  f6 := ⟨Tryz.f61.name, by decide, Tryz.func61.trans (congrArg some (by kernel_rfl))⟩
  f14 := ⟨Tryz.f79.name, by decide, Tryz.func79.trans (congrArg some (by kernel_rfl))⟩
  f15 := Tryz.func80.trans (congrArg some (by kernel_rfl))
  f20 := ⟨Tryz.f94.name, by decide, Tryz.func94.trans (congrArg some (by kernel_rfl))⟩
  f21 := ⟨Tryz.f95.name, by decide, Tryz.func95.trans (congrArg some (by kernel_rfl))⟩
  f22 := ⟨Tryz.f96.name, by decide, Tryz.func96.trans (congrArg some (by kernel_rfl))⟩
  f23 := ⟨Tryz.f97.name, by decide, Tryz.func97.trans (congrArg some (by kernel_rfl))⟩
  f24 := ⟨Tryz.f98.name, by decide, Tryz.func98.trans (congrArg some (by kernel_rfl))⟩
  f25 := ⟨Tryz.f99.name, by decide, Tryz.func99.trans (congrArg some (by kernel_rfl))⟩
  f26 := ⟨Tryz.f100.name, by decide, Tryz.func100.trans (congrArg some (by kernel_rfl))⟩
  f27 := ⟨Tryz.f101.name, by decide, Tryz.func101.trans (congrArg some (by kernel_rfl))⟩
  f28 := Tryz.func102.trans (congrArg some (by kernel_rfl))
  f29 := Tryz.func103.trans (congrArg some (by kernel_rfl))
  f46 := ⟨Tryz.f112.name, by decide, Tryz.func112.trans (congrArg some (by kernel_rfl))⟩
  f47 := Tryz.func113.trans (congrArg some (by kernel_rfl))
  f48 := Tryz.func114.trans (congrArg some (by kernel_rfl))
  f49 := ⟨Tryz.f115.name, by decide, Tryz.func115.trans (congrArg some (by kernel_rfl))⟩
  f50 := ⟨Tryz.f116.name, by decide, Tryz.func116.trans (congrArg some (by kernel_rfl))⟩
  f57 := ⟨Tryz.f125.name, by decide, Tryz.func125.trans (congrArg some (by kernel_rfl))⟩
  t0 := Tryz.underlying0
  a0 := Tryz.isAgg0
  z0 := Tryz.sizeOf0
  v0 := Tryz.zeroValue0
  t3 := Tryz.underlying3
  a3 := Tryz.isAgg3
  z3 := Tryz.sizeOf3
  v3 := Tryz.zeroValue3
  t4 := Tryz.underlying4
  a4 := Tryz.isAgg4
  z4 := Tryz.sizeOf4
  v4 := Tryz.zeroValue4
  t5 := Tryz.underlying5
  a5 := Tryz.isAgg5
  z5 := Tryz.sizeOf5
  v5 := Tryz.zeroValue5
  t9 := Tryz.underlying9
  a9 := Tryz.isAgg9
  z9 := Tryz.sizeOf9
  v9 := Tryz.zeroValue9
  t22 := Tryz.underlying97
  a22 := Tryz.isAgg97
  z22 := Tryz.sizeOf97
  v22 := Tryz.zeroValue97
  a24 := Tryz.isAgg76
  z24 := Tryz.sizeOf76
  t25 := Tryz.underlying129
  a25 := Tryz.isAgg129
  z25 := Tryz.sizeOf129
  v25 := Tryz.zeroValue129
  t39 := Tryz.underlying153
  a39 := Tryz.isAgg153
  z39 := Tryz.sizeOf153
  v39 := Tryz.zeroValue153
  t45 := Tryz.underlying167
  a45 := Tryz.isAgg167
  z45 := Tryz.sizeOf167
  v45 := Tryz.zeroValue167
  t46 := Tryz.underlying168
  a46 := Tryz.isAgg168
  z46 := Tryz.sizeOf168
  v46 := Tryz.zeroValue168
  t50 := Tryz.underlying115
  a50 := Tryz.isAgg115
  z50 := Tryz.sizeOf115
  v50 := Tryz.zeroValue115
  t53 := Tryz.underlying174
  a53 := Tryz.isAgg174
  z53 := Tryz.sizeOf174
  v53 := Tryz.zeroValue174
  t55 := Tryz.underlying133
  a55 := Tryz.isAgg133
  z55 := Tryz.sizeOf133
  v55 := Tryz.zeroValue133
  t66 := Tryz.underlying188
  a66 := Tryz.isAgg188
  z66 := Tryz.sizeOf188
  v66 := Tryz.zeroValue188
  t70 := Tryz.underlying192
  a70 := Tryz.isAgg192
  z70 := Tryz.sizeOf192
  v70 := Tryz.zeroValue192
  t76 := Tryz.underlying199
  a76 := Tryz.isAgg199
  z76 := Tryz.sizeOf199
  v76 := Tryz.zeroValue199
  t77 := Tryz.underlying200
  a77 := Tryz.isAgg200
  z77 := Tryz.sizeOf200
  v77 := Tryz.zeroValue200 }
end Go.Proofs
/- Chapter 12: contexts sorted by the order in which they began: the library's sort (its contract is the kit's). -/
namespace Go.Proofs.YthhgbpmihhljdaaGreatDoor
namespace N6
open Go Go.Eng Go.RowKit
/-- A context, as a sort sees it: its block, the how manyth it is. -/
abbrev CtxP := Nat × Int
def ptrV (x : CtxP) : Value := .pointer (some ⟨x.1, 0, none⟩)
section
variable {w : World} {Γ : List Fct}
theorem cmp_spec {w : World} {x y : CtxP} (hx : w.cell? ⟨x.1, 36, none⟩ = some (.int .i64 x.2)) (hy : w.cell? ⟨y.1, 36, none⟩ = some (.int .i64 y.2)) (bx : 0 ≤ x.2 ∧ x.2 < 4611686018427387904) (by_ : 0 ≤ y.2 ∧ y.2 < 4611686018427387904) :
    Calls Tryz.prog 62 #[ptrV x, ptrV y] w fun e w' => e = .returned (.int .i64 (x.2 - y.2)) ∧ ∃ q, w' = w.drewN q := by
  refine reasm_Table_oldest_d1_of _ _ w _ ?_
  unfold reasm_Table_oldest_d1_VC
  intro w1 hw1
  subst hw1
  refine ⟨fun w' => w'.cell? ⟨x.1, 36, none⟩ = some (.int .i64 x.2) ∧ w'.cell? ⟨y.1, 36, none⟩ = some (.int .i64 y.2), ⟨hx, hy⟩, _, rfl, x.2, fun w' h => h.1, _, rfl, y.2, fun w' h => h.2, ?_⟩
  rw [w64 (by omega) (by omega)]
  exact ⟨rfl, 1, rfl⟩
/-- slices.SortFunc: the contexts, in some order. -/
theorem sortCtx_spec (H : Sep Γ w) (i : Nat) {A : Option Addr} {n c : Nat} {l : List CtxP} (hi : Γ[i]? = some (Fct.own 0 76 1 (.slice A n c) n (l.map ptrV)))
    (hc : ∀ x ∈ l, w.cell? ⟨x.1, 36, none⟩ = some (.int .i64 x.2) ∧ 0 ≤ x.2 ∧ x.2 < 4611686018427387904 ∧ ∀ g, A = some ⟨g, 0, none⟩ → x.1 ≠ g) (hs : l.length ≤ 1000000) :
    Calls Tryz.prog 61 #[.slice A n c, .func (.func 62) #[] #[]] w fun e w' => e = .returned (.tuple #[]) ∧ ∃ l' : List CtxP, l'.Perm l ∧ Sep (Γ.set i (Fct.own 0 76 1 (.slice A n c) n (l'.map ptrV))) w' := by
  have ho := H.own i hi
  have hn : n = l.length := by have := ho.1; simp at this; omega
  have hlt : i < Γ.length := (List.getElem?_eq_some_iff.1 hi).1
  rcases List.eq_nil_or_concat l with rfl | ⟨l0, y0, hl0⟩
  · have hn0 : n = 0 := by simpa using hn
    subst hn0
    refine (AnyF.slices_SortFunc_none { Tryz.sortCtx with } A c (.func (.func 62) #[] #[]) w).mono ?_
    rintro _ w' ⟨rfl, rfl⟩
    refine ⟨rfl, [], .refl _, ?_⟩
    have : Γ.set i (Fct.own 0 76 1 (.slice A 0 c) 0 (([] : List CtxP).map ptrV)) = Γ := by
      apply List.ext_getElem?
      intro m
      rw [List.getElem?_set]
      by_cases hm : i = m
      · subst hm; rw [if_pos rfl, if_pos hlt, hi]
      · rw [if_neg hm]
    rw [this]
    exact H
  · have hne : l ≠ [] := by rw [hl0]; simp
    have hA : A ≠ none := by
      rintro rfl
      rcases ho.2 with ⟨_, h1⟩ | ⟨g, cap, cur, hv, _⟩
      · rw [h1] at hn; exact hne (List.eq_nil_of_length_eq_zero hn.symm)
      · cases hv
    obtain ⟨g, cs, rfl, hbg, ht, hcl, hm, hnc, H1⟩ := H.ownBlk i hi hA
    have hset : ∀ x, (Γ.set i x)[i]? = some x := fun x => by rw [List.getElem?_set]; simp [hlt]
    have hb : Blk w g 76 cs := H1.blk i (hset _)
    have hg := hb.lt
    let α := {x : CtxP // x ∈ l}
    haveI : Inhabited α := ⟨⟨y0, by rw [hl0]; simp⟩⟩
    let enc : α → Value := fun x => ptrV x.1
    let d : Array α := l.attach.toArray
    have hd : d.size = l.length := by show l.attach.toArray.size = _; rw [List.size_toArray]; exact List.length_attach
    have hdv : ∀ j, j < l.length → (enc d[j]!) = ptrV (l.getD j y0) := fun j hj => by
      have h1 : d[j]! = ⟨l[j], List.getElem_mem hj⟩ := by
        rw [getElem!_pos d j (by rw [hd]; exact hj)]
        show l.attach.toArray[j]'(by rw [List.size_toArray, List.length_attach]; exact hj) = _
        rw [List.getElem_toArray]
        exact List.getElem_attach _
      show ptrV d[j]!.1 = _
      rw [h1]
      simp [hj]
    have hcs : ∀ j, j < l.length → cs[j]? = some (ptrV (l.getD j y0)) := fun j hj => by
      have h1 : (cs.take (n * 1))[j]? = (l.map ptrV)[j]? := by rw [ht]
      rw [List.getElem?_take, if_pos (by omega), List.getElem?_map, List.getElem?_eq_getElem hj] at h1
      rw [h1]; simp [hj]
    have hH : Go.Sort.Holds enc w g 0 d := fun j hj => by
      rw [hd] at hj
      rw [Nat.zero_add]
      exact ⟨by rw [hb.cell, hcs j hj, hdv j hj], hb.frozen j⟩
    have hcmp : CmpReads Tryz.prog 62 #[] enc (fun x y : α => x.1.2 - y.1.2) g 0 d.size w := fun m os dk _ x y => by
      have cell : ∀ z : α, (sortWorld enc w g 0 m dk os).cell? ⟨z.1.1, 36, none⟩ = some (.int .i64 z.1.2) := fun z => by
        have hz := hc z.1 z.2
        have hzl := World.block_lt_of_cell? w _ hz.1
        unfold sortWorld
        rw [Go.Sort.cell?_grow _ _ _ (by simpa [Go.Sort.putRow, Go.Sort.mapBlock, Go.Sort.ahead] using hzl), Go.Sort.cell?_putRow_other _ _ _ _ _ _ (.inl (hz.2.2.2 g rfl))]
        exact hz.1
      exact cmp_spec (cell x) (cell y) ⟨(hc x.1 x.2).2.1, (hc x.1 x.2).2.2.1⟩ ⟨(hc y.1 y.2).2.1, (hc y.1 y.2).2.2.1⟩
    have hswo : Go.Sort.SWO (ltOf fun x y : α => x.1.2 - y.1.2) := by
      refine ⟨fun x => ?_, fun x y z h1 h2 => ?_, fun x y z h1 h2 => ?_⟩ <;> simp only [ltOf, decide_eq_false_iff_not, decide_eq_true_eq] at * <;> omega
    have eg : ∀ args w, (callFunc 62 args).run Tryz.prog w = .ok (.enter 62 args) w := fun args w => run_callFunc (callOk _ (by kernel_rfl)) args w
    have hcon := Any.slices_SortFunc Tryz.sortCtx enc (fun _ => rfl) (fun x y : α => x.1.2 - y.1.2) hswo 62 #[] g 0 c d w eg (CmpReads.lays hcmp) hH hg (by rw [hd]; omega)
    rw [hd, ← hn] at hcon
    refine Calls.mono hcon ?_
    rintro _ w' ⟨rfl, d', m, os, hp, _, rfl⟩
    have hsz : d'.size = l.length := by rw [hp.1, hd]
    have hperm : d'.toList.Perm d.toList := by
      have h3 := hp.2.2
      rw [hn, Array.extract_eq_self_of_le (Nat.le_of_eq hsz), Array.extract_eq_self_of_le (Nat.le_of_eq hd)] at h3
      exact h3
    refine ⟨rfl, d'.toList.map Subtype.val, ?_, ?_⟩
    · have h4 := hperm.map Subtype.val
      have h5 : d.toList.map Subtype.val = l := by show l.attach.toArray.toList.map Subtype.val = l; rw [List.toList_toArray]; exact List.attach_map_subtype_val l
      rwa [h5] at h4
    · have hheap : (sortWorld enc w g 0 m d' os).heap[g]? = some (.cells (Go.Sort.putCells enc 0 d' cs.toArray) 76 (0, 0)) := by
        unfold sortWorld
        rw [Go.Sort.heap_grow_old _ _ (by simpa [Go.Sort.putRow, Go.Sort.mapBlock, Go.Sort.ahead] using hg)]
        unfold Blk at hb
        simp [Go.Sort.putRow, Go.Sort.mapBlock, Go.Sort.ahead, Array.getElem?_modify, hb, Go.Sort.onCells]
      have hmod : Mod (fun k => k = g) w (sortWorld enc w g 0 m d' os) := by
        refine ⟨rfl, rfl, rfl, by simp [sortWorld, Go.Sort.putRow, Go.Sort.mapBlock, Go.Sort.ahead], fun k hk hne' => ?_⟩
        unfold sortWorld
        rw [Go.Sort.heap_grow_old _ _ (by simpa [Go.Sort.putRow, Go.Sort.mapBlock, Go.Sort.ahead] using hk)]
        simp only [Go.Sort.putRow, Go.Sort.mapBlock, Go.Sort.ahead, Array.getElem?_modify]
        rw [if_neg fun e : g = k => hne' e.symm]
      refine H.mod i hi hmod (fun k _ e => by subst e; rfl) (Fct.own 0 76 1 (.slice (some ⟨g, 0, none⟩) n c) n ((d'.toList.map Subtype.val).map ptrV)) ?_ fun k hk => .inl hk
      refine ⟨by simp [hsz, hn], .inr ⟨g, c, _, rfl, Nat.zero_le _, hheap, hnc, hm, ?_, ?_⟩⟩
      · simp [Go.Sort.putCells, hcl]
      · apply List.ext_getElem?
        intro j
        rw [List.getElem?_take]
        by_cases hj : j < n
        · have hj2 : j < cs.length := by omega
          have hj3 : j < d'.size := by omega
          rw [if_pos (by omega)]
          simp [Go.Sort.putCells, hj2, hj3, enc]
        · rw [if_neg (by omega)]
          symm
          rw [List.getElem?_eq_none_iff]
          simp; omega
end
end N6
end Go.Proofs.YthhgbpmihhljdaaGreatDoor
