/- Chapter 11: Put, from its new gaps on. -/
import Derived.Test.YthhgbpmihhljdaaDoorBaz
import Derived.Test.YthhgbpmihhljdaaDoorBax
import Derived.Test.YthhgbpmihhljdaaDoorBar
import Derived.Shelf.SlSortCmp.NoneTotal
import Derived.Test.YthhgbpmihhljdaaDoorProg
namespace Go.Proofs.YthhgbpmihhljdaaDoor
namespace N6
open Go Go.Eng Go.RowKit
section
variable {w : World} {r : HolR}
theorem gapC_set (l : List (Int × Int)) (g : Int × Int) (x : Int) : (gapC (l ++ [g])).set (l.length * 2 + 1) (.int .i64 x) = gapC (l ++ [(g.1, x)]) := by
  rw [gapC_app, gapC_app, List.set_append_right _ _ (by rw [gapC_len]; omega), gapC_len]
  rw [show l.length * 2 + 1 - l.length * 2 = 1 by omega]
  rfl
theorem put_mid {M : Nat → Prop} {g m g1 g2 : Nat} {bufA gapA left S : Sl} {held new off : Int} {s : HolS} {d : List Int} {more : Bool} {lg : List (Int × Int)} {w1 : World} {R : Ending → World → Prop} (h0 : 0 ≤ off) (h1 : off + d.length ≤ 65535) (hb : off + d.length ≤ s.buf.length) (hbt : Bts s.buf)
    (hn0 : 0 ≤ new) (hn1 : new ≤ d.length) (hS : ∀ w', Mod M w w' → BytesAt w' S d) (hlg : lg.length ≤ 1000000)
    (H : Sep (putG w M g m g1 g2 bufA gapA held s ⟨new, 0, false⟩ ++ [rowG 0 left lg]) w1)
    (hR : ∀ (gapA' : Sl) (held' : Int) (w' : World), Sep (Fct.rest w M :: holFs ⟨g, m, bufA, gapA', held', ⟨s.max, s.buf, if more = false ∧ s.fin < 0 then endG lg s.max (off + d.length) else lg, if more = false ∧ s.fin < 0 then off + d.length else s.fin, addSeen s.seen ⟨off, d.length, more⟩⟩⟩) w' →
      R (.returned (.tuple #[(⟨new, d.length - new, s.seen.any (PcV.beq ⟨off, d.length, more⟩) && decide (bpart s.buf off.toNat d.length = d)⟩ : FitV).val, .int .i64 0])) w') :
    hole_Holes_Put_J447 R (some ⟨g, 0, none⟩) off S.A S.n S.k more g1 g2 left.A left.n left.k w1 := by
  unfold hole_Holes_Put_J447
  have hlen : S.n = d.length := by have := (hS w (Mod.refl _ _)).len; omega
  have hw : IntKind.i64.wrap (off + (S.n : Int)) = off + d.length := by rw [w64 (by omega) (by omega)]; omega
  refine ⟨_, rfl, SetVC.sep H 1 (k := 2) rfl (show 2 < 6 by decide) fun w2 H => ?_⟩
  have key : ∀ (a b c d e f g : Fct), [a, b, c, g, d, e, f].Perm [a, b, c, d, e, f, g] := fun a b c d e f g => perm_cn fun c o h1 h2 h3 => by simp only [h2, h3]; omega
  have H : Sep (putG w M g m g1 g2 bufA left held { s with gaps := lg } ⟨new, 0, false⟩) w2 := (H.del 3).perm (key _ _ _ _ _ _ _)
  obtain ⟨gaps', hg'⟩ : ∃ x, x = if more = false ∧ s.fin < 0 then endG lg s.max (off + d.length) else lg := ⟨_, rfl⟩
  obtain ⟨fin', hf'⟩ : ∃ x, x = if more = false ∧ s.fin < 0 then off + (d.length : Int) else s.fin := ⟨_, rfl⟩
  rw [← hg', ← hf'] at hR
  refine JoinVC.of (fun _ w' => ∃ gapA', Sep (putG w M g m g1 g2 bufA gapA' held ⟨s.max, s.buf, gaps', fin', s.seen⟩ ⟨new, 0, false⟩) w') ?_ ?_
  case refine_2 =>
    rintro _ w9 ⟨gapA', H⟩
    exact put_end (s := ⟨s.max, s.buf, gaps', fin', s.seen⟩) h0 h1 hb hbt hn0 hn1 hS H fun held' w' H' => hR gapA' held' w' H'
  refine JoinVC.of (fun b w' => b = decide (more = false ∧ s.fin < 0) ∧ Sep (putG w M g m g1 g2 bufA left held { s with gaps := lg } ⟨new, 0, false⟩) w') ?_ ?_
  · cases more with
    | true => exact Br.f rfl ⟨(decide_eq_false fun h => by cases h.1).symm, H⟩
    | false => exact Br.t rfl ⟨_, rfl, _, (H.blk 1 rfl).cell 3, decide_eq_decide.2 ⟨fun h => ⟨rfl, h⟩, fun h => h.2⟩, H⟩
  rintro _ w3 ⟨rfl, H⟩
  unfold hole_Holes_Put_J3582
  refine Br.dec (fun hc => ?_) fun hc => ?_
  case refine_2 =>
    rw [if_neg hc] at hg' hf'
    subst hg'; subst hf'
    exact ⟨left, H⟩
  rw [if_pos hc] at hg' hf'
  rw [hw]
  refine ⟨_, rfl, SetVC.sep H 1 (k := 3) rfl (show 3 < 6 by decide) fun w4 H => ?_⟩
  rw [← hf'] at H
  have H : Sep (putG w M g m g1 g2 bufA left held ⟨s.max, s.buf, lg, fin', s.seen⟩ ⟨new, 0, false⟩) w4 := H
  have hln : left.n = lg.length := by have : (gapC lg).length = left.n * 2 := (H.own 3 rfl).1; rw [gapC_len] at this; omega
  have hlk : left.n ≤ left.k := own_le (H.own 3 rfl)
  refine ⟨_, rfl, left.A, left.n, left.k, (H.blk 1 rfl).cell 2, ?_⟩
  refine JoinVC.of (fun b w' => Sep (putG w M g m g1 g2 bufA left held ⟨s.max, s.buf, lg, fin', s.seen⟩ ⟨new, 0, false⟩) w' ∧ ((b = true ∧ ∃ l x, lg = l ++ [x] ∧ x.2 = s.max) ∨ (b = false ∧ gaps' = lg))) ?_ ?_
  · refine DrawVC.sep H (fun w' => Blk w' g 97 (HolR.cells ⟨g, m, bufA, left, held, ⟨s.max, s.buf, lg, fin', s.seen⟩⟩) ∧ Cells w' left.A (gapC lg)) fun w5 H => ⟨⟨H.blk 1 rfl, own_cells (A := left.A) (c := left.k) (H.own 3 rfl)⟩, ?_⟩
    refine Br.dec (fun hp => ?_) fun hp => ⟨H, .inr ⟨rfl, ?_⟩⟩
    · obtain ⟨l, x, hlx⟩ : ∃ l x, lg = l ++ [x] := by
        rcases List.eq_nil_or_concat lg with h | ⟨l, x, h⟩
        · rw [h] at hln; exact absurd hln (by simp; omega)
        · exact ⟨l, x, by simpa using h⟩
      have hll : lg.length = l.length + 1 := by rw [hlx]; simp
      have hx : lg[l.length]? = some x := by rw [hlx]; simp
      refine ⟨_, rfl, left.A, left.n, left.k, fun w' hb => hb.1.cell 2, gap_idx (own_cells (A := left.A) (c := left.k) (H.own 3 rfl)) (i := l.length) (by rw [w64 (by omega) (by omega)]; omega) (by omega) hx fun a hca => ?_⟩
      refine ⟨a, rfl, by decide, by decide, x.2, fun w' hb => (hca w' hb.2).2.1, _, rfl, s.max, fun w' hb => hb.1.cell 0, H, ?_⟩
      by_cases he : x.2 = s.max
      · exact .inl ⟨decide_eq_true he, l, x, hlx, he⟩
      · refine .inr ⟨decide_eq_false he, ?_⟩
        rw [hg']
        unfold endG
        rw [hlx, List.getLast?_concat]
        simp only
        rw [if_neg he]
    · rw [hg']
      unfold endG
      have : lg = [] := List.eq_nil_of_length_eq_zero (by omega)
      rw [this]; rfl
  rintro _ w5 ⟨H, ⟨rfl, l, x, hlx, hx2⟩ | ⟨rfl, hgl⟩⟩
  case inr =>
    subst hgl
    exact Br.f rfl ⟨left, H⟩
  unfold hole_Holes_Put_J57323
  have hll : lg.length = l.length + 1 := by rw [hlx]; simp
  have hi : IntKind.i64.wrap ((left.n : Int) - 1) = (l.length : Int) := by rw [w64 (by omega) (by omega)]; omega
  rw [hi, hw]
  have hne : left.A ≠ none := by
    intro he
    rcases (H.own 3 rfl).2 with ⟨_, h⟩ | ⟨q, cap, cur, hv, _⟩
    · omega
    · have hv : Value.slice left.A left.n left.k = .slice (some ⟨q, 0, none⟩) left.n cap := hv
      injection hv with hv; rw [he] at hv; cases hv
  obtain ⟨q, cs, hA, _, ht, hcl, hm, _, H⟩ := H.ownBlk (i := 3) (A := left.A) (n := left.n) (c := left.k) rfl hne
  have ht : cs.take (left.n * 2) = gapC lg := ht
  refine Br.t rfl ⟨_, rfl, left.A, left.n, left.k, (H.blk 1 rfl).cell 2, ⟨q, 0, none⟩, hA, by omega, by omega, _, rfl, by decide, by decide, ?_⟩
  have ea : (((⟨q, 0, none⟩ : Addr).add (((l.length : Nat) : Int).toNat * 2)).add (Int.toNat 1 * 1)) = ⟨q, l.length * 2 + 1, none⟩ := by
    rw [addr_add, addr_add, Int.toNat_natCast]; congr 1; show 0 + l.length * 2 + 1 * 1 = _; omega
  have ea0 : (((⟨q, 0, none⟩ : Addr).add (((l.length : Nat) : Int).toNat * 2)).add (Int.toNat 0 * 1)) = ⟨q, l.length * 2, none⟩ := by
    rw [addr_add, addr_add, Int.toNat_natCast]; congr 1; show 0 + l.length * 2 + 0 * 1 = _; omega
  rw [ea]
  have hcells : (cs.set (l.length * 2 + 1) (.int .i64 (off + d.length))).take (left.n * 2) = gapC (l ++ [(x.1, off + (d.length : Int))]) := by
    rw [← gapC_set, ← hlx, ← ht, List.take_set]
  refine SetVC.sep H 3 (k := l.length * 2 + 1) rfl (by omega) fun w6 H => ?_
  refine ⟨_, rfl, left.A, left.n, left.k, (H.blk 1 rfl).cell 2, ⟨q, 0, none⟩, hA, by omega, by omega, _, rfl, by decide, by decide, x.1, ?_, ?_⟩
  · rw [ea0]
    rw [(H.blk 3 rfl).cell]
    have h12 := gapC_get (l := l ++ [(x.1, off + (d.length : Int))]) (i := l.length) (g := (x.1, off + d.length)) (by simp)
    rw [← hcells, List.getElem?_take, if_pos (by omega)] at h12
    exact h12.1
  have H := H.blkOwn' 3 rfl (b := 0) (size := 2) (n := left.n) (c := left.k) (Nat.zero_le _) (by rw [List.length_set]; exact hcl) hlk hm
  rw [hcells] at H
  have hend : gaps' = if off + (d.length : Int) ≤ x.1 then l else l ++ [(x.1, off + d.length)] := by
    rw [hg']
    unfold endG
    rw [hlx, List.getLast?_concat]
    simp only [List.dropLast_concat]
    rw [if_pos hx2]
  refine Br.dec (fun hle => ?_) fun hle => ?_
  · rw [if_pos hle] at hend
    refine ⟨_, rfl, left.A, left.n, left.k, (H.blk 1 rfl).cell 2, by omega, by omega, _, rfl, ?_⟩
    refine SetVC.sep H 1 (k := 2) rfl (show 2 < 6 by decide) fun w7 H => ⟨⟨left.A, l.length, left.k⟩, ?_⟩
    have ho := H.own 3 rfl
    have H := H.weaken 3 rfl (f' := rowG 0 ⟨left.A, l.length, left.k⟩ gaps') (by
      rcases ho.2 with ⟨hv, _⟩ | ⟨q', cap, cur, hv, h2, h3, h4, h5, h6, h7⟩
      · cases hv
      · injection hv with e1 _ e3
        injection e1 with e1; injection e1 with e1
        subst e1; subst e3
        refine ⟨by rw [gapC_len, hend], .inr ⟨q, left.k, cur, by show Value.slice left.A _ _ = _; rw [hA], Nat.zero_le _, h3, Nat.le_trans (by omega : l.length ≤ left.n) h4, h5, h6, ?_⟩⟩
        show cur.toList.take (l.length * 2) = _
        have h8 := congrArg (List.take (l.length * 2)) h7
        rw [List.take_take, show min (l.length * 2) (left.n * 2) = l.length * 2 by omega, gapC_take, List.take_left] at h8
        rw [h8, hend]) fun k hk => by
      have hk : (Value.slice left.A l.length left.k).ownBlock = some k := hk
      rw [hA] at hk
      exact hk
    rw [hw, Int.toNat_natCast] at *
    exact H
  · rw [if_neg hle] at hend
    refine ⟨left, ?_⟩
    rw [hend]
    have e : Fct.own 0 107 2 (.slice (some ⟨q, 0, none⟩) left.n left.k) left.n (gapC (l ++ [(x.1, off + (d.length : Int))])) = rowG 0 left (l ++ [(x.1, off + (d.length : Int))]) := by
      show _ = Fct.own 0 _ 2 (.slice left.A left.n left.k) left.n _
      rw [hA]
    rw [e] at H
    exact H
end
end N6
end Go.Proofs.YthhgbpmihhljdaaDoor
/- Chapter 11: Put, whole. -/
namespace Go.Proofs.YthhgbpmihhljdaaDoor
namespace N6
open Go Go.Eng Go.RowKit
section
variable {w : World} {r : HolR}
theorem flat_step {off to : Int} {gs : List (Int × Int)} {i : Nat} {g : Int × Int} (h : gs[i]? = some g) : (gs.take (i + 1)).flatMap (cutG off to) = (gs.take i).flatMap (cutG off to) ++ cutG off to g := by
  rw [List.take_add_one, h, List.flatMap_append]; simp
theorem newN_step {off to : Int} {gs : List (Int × Int)} {i : Nat} {g : Int × Int} (h : gs[i]? = some g) : newN off to (gs.take (i + 1)) = newN off to (gs.take i) + new1 off to g := by
  rw [List.take_add_one, h, newN_app]; simp [newN]
theorem bufN_step {off to : Int} {d x : List Int} {gs : List (Int × Int)} {i : Nat} {g : Int × Int} (h : gs[i]? = some g) : bufN off to d x (gs.take (i + 1)) = buf1 off to d (bufN off to d x (gs.take i)) g := by
  rw [List.take_add_one, h, bufN_app]; simp [bufN]
theorem Gs.take {hi : Int} : ∀ {gs : List (Int × Int)} {lo : Int} (i : Nat), Gs lo hi gs → Gs lo hi (gs.take i)
  | [], _, i, _ => by simp [Gs]
  | g :: l, lo, 0, _ => by simp [Gs]
  | g :: l, lo, i + 1, h => by rw [List.take_succ_cons]; exact ⟨h.1, h.2.1, h.2.2.1, Gs.take i h.2.2.2⟩
set_option maxHeartbeats 4000000 in
/-- The rounds over the gaps. -/
theorem put_loop {M : Nat → Prop} {g m g1 g2 : Nat} {bufA gapA S : Sl} {held off to : Int} {s : HolS} {d b0 : List Int} {w1 : World} {J : (Option Addr × Nat × Nat) → World → Prop} {hi : Int} (h0 : 0 ≤ off) (hd : 0 < d.length) (hto : off + d.length = to) (h1 : to ≤ 65535) (hhi : hi ≤ 65535) (hG : Gs 0 hi s.gaps) (hb : to ≤ b0.length)
    (hS : ∀ w', Mod M w w' → BytesAt w' S d)
    (H : Sep (putG w M g m g1 g2 bufA gapA held { s with buf := b0 } ⟨0, 0, false⟩) w1)
    (hJ : ∀ (left : Sl) (w' : World), Sep (putG w M g m g1 g2 bufA gapA held { s with buf := bufN off to d b0 s.gaps } ⟨newN off to s.gaps, 0, false⟩ ++ [rowG 0 left (s.gaps.flatMap (cutG off to))]) w' → J (left.A, left.n, left.k) w') :
    LoopVC (S := (Option Addr × Nat × Nat) × Int) (fun s_ w9 K => hole_Holes_Put_L3578 (some ⟨g, 0, none⟩) off S.A S.n S.k g2 J gapA.A gapA.n s_.1.1 s_.1.2.1 s_.1.2.2 s_.2 w9 K) ((none, 0, 0), 0) w1 := by
  have hlen : S.n = d.length := by have := (hS w (Mod.refl _ _)).len; omega
  have hw : IntKind.i64.wrap (off + (S.n : Int)) = to := by rw [w64 (by omega) (by omega)]; omega
  have hgn : gapA.n = s.gaps.length := by
    have : (gapC s.gaps).length = gapA.n * 2 := (H.own 3 rfl).1
    rw [gapC_len] at this; omega
  have hgk : gapA.n ≤ gapA.k := own_le (H.own 3 rfl)
  have hfew : (s.gaps.length : Int) ≤ 65535 := by
    rcases hG.len with h | h
    · rw [h]; show (0 : Int) ≤ _; omega
    · omega
  have hga := gs_all hG (Int.le_refl _)
  have hbl : ∀ i, (bufN off to d b0 (s.gaps.take i)).length = b0.length := fun i => bufN_len h0 hto hb fun x hx => hga x (List.mem_of_mem_take hx)
  have hnl : ∀ i, 0 ≤ newN off to (s.gaps.take i) ∧ newN off to (s.gaps.take i) ≤ to - off := fun i => by
    have := newN_le (off := off) (to := to) (by omega) (Gs.take (lo := 0) i hG)
    exact ⟨this.1, this.2.1⟩
  have hcl : ∀ i, ((s.gaps.take i).flatMap (cutG off to)).length ≤ 1000000 := fun i => by
    have := (cuts_gs (off := off) (to := to) (by omega) (Gs.take (lo := 0) i hG)).len
    rcases this with h | h
    · rw [h]; exact Nat.zero_le _
    · omega
  refine LoopVC.of (fun st w' => ∃ i : Nat, st.2 = i ∧ i ≤ s.gaps.length ∧ Sep (putG w M g m g1 g2 bufA gapA held { s with buf := bufN off to d b0 (s.gaps.take i) } ⟨newN off to (s.gaps.take i), 0, false⟩ ++ [rowG 0 ⟨st.1.1, st.1.2.1, st.1.2.2⟩ ((s.gaps.take i).flatMap (cutG off to))]) w')
    (fun st _ => ((s.gaps.length : Int) - st.2).toNat) ⟨0, rfl, Nat.zero_le _, H.nil 0 107 2⟩ ?_
  rintro ⟨⟨A1, n1, c1⟩, _⟩ w2 ⟨i, rfl, hi', H⟩
  show hole_Holes_Put_L3578 (some ⟨g, 0, none⟩) off S.A S.n S.k g2 J gapA.A gapA.n A1 n1 c1 (i : Int) w2 _
  unfold hole_Holes_Put_L3578
  have hn1 : n1 = ((s.gaps.take i).flatMap (cutG off to)).length := by
    have : (gapC ((s.gaps.take i).flatMap (cutG off to))).length = n1 * 2 := (H.own 7 rfl).1
    rw [gapC_len] at this; omega
  have hcli := hcl i
  rw [hw]
  refine Br.dec (fun hlt => ?_) fun hge => ?_
  case refine_2 =>
    have e : i = s.gaps.length := by omega
    rw [e, List.take_length] at H
    exact hJ ⟨A1, n1, c1⟩ w2 H
  have hlt : i < s.gaps.length := by omega
  obtain ⟨x, hx⟩ : ∃ x, s.gaps[i]? = some x := ⟨_, List.getElem?_eq_getElem hlt⟩
  have hxg := hG.mem (List.mem_of_getElem? hx)
  have hi1 : IntKind.i64.wrap ((i : Int) + 1) = ((i + 1 : Nat) : Int) := by rw [w64 (by omega) (by omega)]; omega
  have hgc : Cells w2 gapA.A (gapC s.gaps) := own_cells (A := gapA.A) (c := gapA.k) (H.own 3 rfl)
  refine gap_idx hgc (i := i) rfl (by omega) hx fun a hca => GapV.of ⟨x.1, x.2⟩ ⟨hca w2 hgc, NewVC.sep H fun g3 w3 H => Stores.sep H 8 rfl (GapV.one _) (Nat.le_refl _) (splice_all rfl) fun w4 H => ?_⟩
  refine ⟨_, rfl, by decide, by decide, x.1, (H.blk 8 rfl).cell 0, Br.dec (fun hle => ?_) fun hle => ?_⟩
  · have hgc4 : Cells w4 gapA.A (gapC s.gaps) := own_cells (A := gapA.A) (c := gapA.k) (H.own 3 rfl)
    have hbeh := Gs.drop (to := to) (gs := []) hG hx hle
    refine ⟨_, rfl, gapA.A, gapA.n, gapA.k, (H.blk 1 rfl).cell 2, by omega, by omega, ?_⟩
    rw [Int.toNat_natCast, if_neg (by omega)]
    have hsrc : Cells w4 (gapA.A.map (·.add (i * 2))) (gapC (s.gaps.drop i)) := by rw [← gapC_drop]; exact hgc4.from_ (i * 2)
    refine appG H 7 rfl hsrc (m := gapA.n - i) (by rw [List.length_drop]; omega) (by omega) (Nat.zero_le _) fun A2 c2 w5 H hc2 => hJ ⟨A2, n1 + (gapA.n - i), c2⟩ w5 ?_
    have e2 : newN off to s.gaps = newN off to (s.gaps.take i) := by
      have := newN_app (off := off) (to := to) (s.gaps.take i) (s.gaps.drop i)
      rw [List.take_append_drop, newN_behind hbeh] at this; omega
    have e3 : bufN off to d b0 s.gaps = bufN off to d b0 (s.gaps.take i) := by
      have := bufN_app (off := off) (to := to) (d := d) b0 (s.gaps.take i) (s.gaps.drop i)
      rw [List.take_append_drop, bufN_behind hbeh] at this; exact this
    have e4 : (s.gaps.take i).flatMap (cutG off to) ++ (s.gaps.drop i).flatMap (cutG off to) = s.gaps.flatMap (cutG off to) := by rw [← List.flatMap_append, List.take_append_drop]
    rw [cuts_behind hbeh] at e4
    rw [e2, e3, ← e4]
    exact H.take 8
  refine ⟨_, rfl, by decide, by decide, x.2, (H.blk 8 rfl).cell 1, Br.dec (fun hle2 => ?_) fun hle2 => ?_⟩
  · refine GapV.of ⟨x.1, x.2⟩ ⟨H.at 8 rfl, NewVC.sep H fun g4 w5 H => ?_⟩
    refine appG H 7 rfl (ys := [x]) (Cells.blk0 (H.blk 9 rfl)) rfl (by omega) (Nat.zero_le _) fun A2 c2 w6 H hc2 => ⟨⟨i + 1, hi1, by omega, ?_⟩, by simp only [hi1]; omega⟩
    have e1 : cutG off to x = [x] := by unfold cutG; rw [if_neg hle, if_pos hle2]
    have e2 : new1 off to x = 0 := by unfold new1; rw [if_neg hle, if_pos hle2]
    have e3 : buf1 off to d (bufN off to d b0 (s.gaps.take i)) x = bufN off to d b0 (s.gaps.take i) := by unfold buf1; rw [if_neg hle, if_pos hle2]
    rw [flat_step hx, newN_step hx, bufN_step hx, e1, e2, e3, Int.add_zero]
    exact H.take 8
  -- the gap and the piece meet
  have hlo : (if x.1 < off then off else x.1) = gLo off x := rfl
  have hhi2 : (if to < x.2 then to else x.2) = gHi to x := rfl
  have l1 : off ≤ gLo off x ∧ x.1 ≤ gLo off x ∧ (gLo off x = off ∨ gLo off x = x.1) := by unfold gLo; split <;> omega
  have l2 : gHi to x ≤ to ∧ gHi to x ≤ x.2 ∧ (gHi to x = to ∨ gHi to x = x.2) := by unfold gHi; split <;> omega
  have e1 : cutG off to x = (if x.1 < gLo off x then [(x.1, gLo off x)] else []) ++ (if gHi to x < x.2 then [(gHi to x, x.2)] else []) := by unfold cutG; rw [if_neg hle, if_neg hle2]
  have e2 : new1 off to x = gHi to x - gLo off x := by unfold new1; rw [if_neg hle, if_neg hle2]
  have e3 : buf1 off to d (bufN off to d b0 (s.gaps.take i)) x = lay1 (bufN off to d b0 (s.gaps.take i)) (gLo off x).toNat (bpart d (gLo off x - off).toNat (gHi to x - gLo off x).toNat) := by unfold buf1; rw [if_neg hle, if_neg hle2]
  refine DrawVC.sep H (fun w' => Blk w' g3 107 (⟨x.1, x.2⟩ : GapV).cells) fun w5 H => ?_
  refine ⟨H.blk 8 rfl, _, rfl, by decide, by decide, x.1, fun w' hb => hb.cell 0, _, rfl, by decide, by decide, x.2, fun w' hb => hb.cell 1, ?_⟩
  have D : hole_Holes_Put_D1832142 w5 g2 (some ⟨g, 0, none⟩) x.1 off S.n x.2 S.A S.k g3 A1 n1 c1 (i : Int) fun s' w'' => (∃ i : Nat, s'.2 = i ∧ i ≤ s.gaps.length ∧ Sep (putG w M g m g1 g2 bufA gapA held { s with buf := bufN off to d b0 (s.gaps.take i) } ⟨newN off to (s.gaps.take i), 0, false⟩ ++ [rowG 0 ⟨s'.1.1, s'.1.2.1, s'.1.2.2⟩ ((s.gaps.take i).flatMap (cutG off to))]) w'') ∧ ((s.gaps.length : Int) - s'.2).toNat < ((s.gaps.length : Int) - (i : Int)).toNat := by
    unfold hole_Holes_Put_D1832142
    rw [hw, hlo, hhi2]
    obtain ⟨bx, hbx⟩ : ∃ bx, bx = bufN off to d b0 (s.gaps.take i) := ⟨_, rfl⟩
    obtain ⟨nx, hnx⟩ : ∃ nx, nx = newN off to (s.gaps.take i) := ⟨_, rfl⟩
    have hbxl : bx.length = b0.length := by rw [hbx]; exact hbl i
    have hnx0 := hnl i
    rw [← hnx] at hnx0
    rw [← hbx, ← hnx] at H
    have hbn : bufA.n = bx.length := by
      have : (bx.map (Value.int .u8)).length = bufA.n * 1 := (H.own 2 rfl).1
      simpa using this.symm
    have hbk : bufA.n ≤ bufA.k := own_le (H.own 2 rfl)
    refine DrawVC.sep H (fun w' => Blk w' g 97 (HolR.cells ⟨g, m, bufA, gapA, held, { s with buf := bx }⟩) ∧ Blk w' g2 58 (⟨nx, 0, false⟩ : FitV).cells) fun w6 H => ⟨⟨H.blk 1 rfl, H.blk 6 rfl⟩, _, fun w' hb => hb.2.cell 0, _, rfl, bufA.A, bufA.n, bufA.k, fun w' hb => hb.1.cell 1, by omega, by omega, by omega, ?_⟩
    have hSd := hS w6 (H.restOf 0 rfl)
    have hSk := hSd.cap
    rw [w64 (n := gLo off x - off) (by omega) (by omega), w64 (n := gHi to x - off) (by omega) (by omega)]
    refine ⟨by omega, by omega, by omega, ?_⟩
    have ed : (gHi to x).toNat - (gLo off x).toNat = (gHi to x - gLo off x).toNat := by omega
    have ed2 : (gHi to x - off).toNat - (gLo off x - off).toNat = (gHi to x - gLo off x).toNat := by omega
    rw [ed, ed2]
    have hsrc : Cells w6 (if S.k = (gLo off x - off).toNat then S.A else S.A.map (·.add ((gLo off x - off).toNat * 1))) ((bpart d (gLo off x - off).toNat (gHi to x - gLo off x).toNat).map (.int .u8)) := by
      unfold bpart
      rw [List.map_take, List.map_drop]
      exact (hSd.cells.drop _ (by simp; omega) 1 (.inl rfl)).take _
    refine copyB H 2 rfl (lo := (gLo off x).toNat) (m := (gHi to x - gLo off x).toNat) (by omega) (by omega) hsrc (bpart_len (by omega)) fun w7 H => ?_
    have H : Sep (putG w M g m g1 g2 bufA gapA held { s with buf := lay1 bx (gLo off x).toNat (bpart d (gLo off x - off).toNat (gHi to x - gLo off x).toNat) } ⟨nx, 0, false⟩ ++ [rowG 0 ⟨A1, n1, c1⟩ ((s.gaps.take i).flatMap (cutG off to)), Fct.blk g3 107 (⟨x.1, x.2⟩ : GapV).cells]) w7 := H
    rw [hbx, ← e3, ← bufN_step hx] at H
    refine ⟨⟨H.blk 1 rfl, H.blk 6 rfl⟩, SetVC.sep H 6 (k := 0) rfl (show 0 < 3 by decide) fun w8 H => ?_⟩
    have hnw : IntKind.i64.wrap (nx + (((gHi to x - gLo off x).toNat : Nat) : Int)) = newN off to (s.gaps.take (i + 1)) := by
      rw [newN_step hx, ← hnx, e2, w64 (by omega) (by omega)]; omega
    rw [hnw] at H
    have H : Sep (putG w M g m g1 g2 bufA gapA held { s with buf := bufN off to d b0 (s.gaps.take (i + 1)) } ⟨newN off to (s.gaps.take (i + 1)), 0, false⟩ ++ [rowG 0 ⟨A1, n1, c1⟩ ((s.gaps.take i).flatMap (cutG off to)), Fct.blk g3 107 (⟨x.1, x.2⟩ : GapV).cells]) w8 := H
    refine JoinVC.of (fun st w' => Sep (putG w M g m g1 g2 bufA gapA held { s with buf := bufN off to d b0 (s.gaps.take (i + 1)) } ⟨newN off to (s.gaps.take (i + 1)), 0, false⟩ ++ [rowG 0 ⟨st.1, st.2.1, st.2.2⟩ ((s.gaps.take i).flatMap (cutG off to) ++ if x.1 < gLo off x then [(x.1, gLo off x)] else []), Fct.blk g3 107 (⟨x.1, x.2⟩ : GapV).cells]) w' ∧ st.2.1 ≤ 1000001) ?_ ?_
    · refine ⟨_, rfl, by decide, by decide, x.1, (H.blk 8 rfl).cell 0, Br.dec (fun hl => ?_) fun hl => ?_⟩
      · refine ⟨_, rfl, by decide, by decide, x.1, (H.blk 8 rfl).cell 0, NewVC.sep H fun g5 w9 H => ?_⟩
        refine appG H 7 rfl (ys := [(x.1, gLo off x)]) (Cells.blk0 (H.blk 9 rfl)) rfl (by omega) (Nat.zero_le _) fun A2 c2 w10 H hc2 => ?_
        rw [if_pos hl]
        exact ⟨H.take 9, by show n1 + 1 ≤ _; omega⟩
      · rw [if_neg hl, List.append_nil]
        exact ⟨H, by show n1 ≤ _; omega⟩
    · rintro ⟨A2, n2, c2⟩ w9 ⟨H, hn2⟩
      show hole_Holes_Put_J3664287 off S.n (i : Int) _ g3 x.2 A2 n2 c2 w9
      unfold hole_Holes_Put_J3664287
      rw [hw, hhi2, hi1]
      have hn2 : n2 ≤ 1000001 := hn2
      refine ⟨_, rfl, by decide, by decide, x.2, (H.blk 8 rfl).cell 1, Br.dec (fun hl => ?_) fun hl => ?_⟩
      · refine ⟨_, rfl, by decide, by decide, x.2, (H.blk 8 rfl).cell 1, NewVC.sep H fun g6 w10 H => ?_⟩
        refine appG H 7 rfl (ys := [(gHi to x, x.2)]) (Cells.blk0 (H.blk 9 rfl)) rfl (by omega) (Nat.zero_le _) fun A3 c3 w11 H hc3 => ⟨⟨i + 1, rfl, by omega, ?_⟩, by simp only; omega⟩
        rw [flat_step hx, e1, if_pos hl, ← List.append_assoc]
        exact H.take 8
      · refine ⟨⟨i + 1, rfl, by omega, ?_⟩, by simp only; omega⟩
        rw [flat_step hx, e1, if_neg hl, List.append_nil]
        exact H.take 8
  exact ⟨⟨H.blk 8 rfl, H.blk 8 rfl, D⟩, H.blk 8 rfl, H.blk 8 rfl, D⟩
/-- Put. -/
theorem put_spec {off : Int} {S : Sl} {d : List Int} {more : Bool} (H : Sep (holFs r) w) (hk : HolOk r.s) (hS : ∀ w', Mod (Blocks (holFs r)) w w' → BytesAt w' S d) :
    Calls Tryd.prog 29 #[r.p, .int .i64 off, S.val, .bool more] w fun e w' => ∃ r' : HolR, r'.g = r.g ∧ Sep (Fct.rest w (Blocks (holFs r)) :: holFs r') w' ∧
      ((refusedS r.s off d.length more ≠ 0 ∧ r'.s = r.s ∧ e = .returned (.tuple #[(FitV.z : FitV).val, .int .i64 (refusedS r.s off d.length more)])) ∨
       (refusedS r.s off d.length more = 0 ∧ r'.s = putS r.s off d more ∧ HolOk r'.s ∧ e = .returned (.tuple #[(fitS r.s off d more).val, .int .i64 0]))) := by
  refine hole_Holes_Put_of _ off S.A S.n S.k more w _ ?_
  unfold hole_Holes_Put_VC
  have hlen : S.n = d.length := by have := (hS w (Mod.refl _ _)).len; omega
  refine NewVC.sep H.begins fun g1 w1 H => ?_
  refine (refused_spec (S := S) (off := off) (more := more) ((H.take 5).tail) hk).mono ?_
  rintro _ w2 ⟨hE2, rfl⟩
  have H := H.ext hE2
  have er : refusedS r.s off S.n more = refusedS r.s off d.length more := by rw [hlen]
  rw [er]
  refine ⟨_, rfl, Br.dec (fun hne => ?_) fun hz => ?_⟩
  · refine Stores.sep H 5 rfl (FitV.one _) (Nat.le_refl _) (splice_all rfl) fun w3 H => FitV.of FitV.z ⟨H.at 5 rfl, r, rfl, H.take 5, .inl ⟨hne, rfl, rfl⟩⟩
  have hz : refusedS r.s off d.length more = 0 := Classical.byContradiction hz
  obtain ⟨h1, h2, h3, h4, _⟩ := refused_ok hz
  have hm2 := hk.m2
  obtain ⟨to, hto⟩ : ∃ to, off + (d.length : Int) = to := ⟨_, rfl⟩
  have hw : IntKind.i64.wrap (off + (S.n : Int)) = to := by rw [w64 (by omega) (by omega)]; omega
  rw [hw]
  have hbk := hk.blen
  refine JoinVC.of (fun _ w' => ∃ bufA : Sl, Sep [Fct.rest w (Blocks (holFs r)), Fct.blk r.g 97 (HolR.cells { r with bufA := bufA }), rowB 0 bufA (zpad r.s.buf to.toNat), rowG 0 r.gapA r.s.gaps, seenF r.m r.s.seen, Fct.blk g1 58 (FitV.z : FitV).cells] w') ?_ ?_
  · have hbn : r.bufA.n = r.s.buf.length := by
      have : (r.s.buf.map (Value.int .u8)).length = r.bufA.n * 1 := (H.own 2 rfl).1
      simpa using this.symm
    refine ⟨_, rfl, r.bufA.A, r.bufA.n, r.bufA.k, (H.blk 1 rfl).cell 1, Br.dec (fun hlt => ?_) fun hge => ⟨r.bufA, ?_⟩⟩
    · refine DrawVC.sep H (fun w' => Blk w' r.g 97 r.cells) fun w4 H => ⟨H.blk 1 rfl, _, rfl, r.bufA.A, r.bufA.n, r.bufA.k, fun w' hb => hb.cell 1, _, rfl, r.bufA.A, r.bufA.n, r.bufA.k, fun w' hb => hb.cell 1, ?_⟩
      refine appZ H 2 rfl (m := to.toNat - r.s.buf.length) (by rw [w64 (by omega) (by omega)]; omega) (by omega) (Nat.zero_le _) fun A2 c2 w5 H hc2 => ⟨H.blk 1 rfl, _, rfl, SetVC.sep H 1 (k := 1) rfl (show 1 < 6 by decide) fun w6 H => ⟨⟨A2, r.bufA.n + (to.toNat - r.s.buf.length), c2⟩, H⟩⟩
    · have : zpad r.s.buf to.toNat = r.s.buf := by unfold zpad; rw [show to.toNat - r.s.buf.length = 0 by omega]; simp
      rw [this]
      exact H
  rintro _ w7 ⟨bufA, H⟩
  unfold hole_Holes_Put_J27
  refine NewVC.sep H fun g2 w8 H => ?_
  have H : Sep (putG w (Blocks (holFs r)) r.g r.m g1 g2 bufA r.gapA r.held { r.s with buf := zpad r.s.buf to.toNat } ⟨0, 0, false⟩) w8 := H
  have hpo := put_ok hk (hS w (Mod.refl _ _)).bts hz
  have hzl := zpad_len r.s.buf to.toNat
  refine JoinVC.of (fun st w' => Sep (putG w (Blocks (holFs r)) r.g r.m g1 g2 bufA r.gapA r.held { r.s with buf := bufN off to d (zpad r.s.buf to.toNat) r.s.gaps } ⟨newN off to r.s.gaps, 0, false⟩ ++ [rowG 0 ⟨st.1, st.2.1, st.2.2⟩ (r.s.gaps.flatMap (cutG off to))]) w') ?_ ?_
  · have hfi := hk.fin
    refine ⟨_, rfl, r.gapA.A, r.gapA.n, r.gapA.k, (H.blk 1 rfl).cell 2, ?_⟩
    refine put_loop (S := S) (hi := if r.s.fin < 0 then r.s.max else r.s.fin) h1 h3 hto (by omega) (by split <;> omega) hk.gs (by rw [hzl]; omega) hS H ?_
    intro left w' H
    exact H
  · rintro ⟨lA, ln, lk⟩ w9 H
    have hnl := newN_le (off := off) (to := to) (by omega) hk.gs
    have hcg := (cuts_gs (off := off) (to := to) (by omega) hk.gs).len
    have hfi := hk.fin
    have hbuf : (putS r.s off d more).buf = bufN off to d (zpad r.s.buf to.toNat) r.s.gaps := by
      show bufN off (off + d.length) d (zpad r.s.buf (off + (d.length : Int)).toNat) r.s.gaps = _
      rw [hto]
    have hpl := hpo.2.1
    rw [hbuf, hto] at hpl
    refine put_mid (left := ⟨lA, ln, lk⟩) (lg := r.s.gaps.flatMap (cutG off to)) (s := { r.s with buf := bufN off to d (zpad r.s.buf to.toNat) r.s.gaps }) h1 (by omega) (by show _ ≤ ((bufN off to d (zpad r.s.buf to.toNat) r.s.gaps).length : Int); omega)
      (by have := hpo.1.bts; rw [hbuf] at this; exact this) hnl.1 (by omega) hS (by
        rcases hcg with h | h
        · rw [h]; exact Nat.zero_le _
        · split at h <;> omega) H fun gapA' held' w' H' => ?_
    refine ⟨⟨r.g, r.m, bufA, gapA', held', putS r.s off d more⟩, rfl, ?_, .inr ⟨hz, rfl, hpo.1, ?_⟩⟩
    · unfold putS
      rw [hto]
      rw [hto] at H'
      exact H'
    · unfold fitS
      rw [hbuf, hto]
end
end N6
end Go.Proofs.YthhgbpmihhljdaaDoor
/- Chapter 12: copies of what came; a context's small functions. -/
namespace Go.Proofs.YthhgbpmihhljdaaDoor
namespace N6
open Go Go.Eng Go.RowKit
section
variable {w : World} {Γ : List Fct} {s : Sl} {l : List Int}
theorem copies_spec (h : BytesAt w s l) : Calls Tryd.prog 32 #[s.val] w fun e w' => ∃ s' : Sl, e = .returned s'.val ∧ BFine s' l ∧ s'.n = s.n ∧ Sep [Fct.rest w None, rowB w.heap.size s' l] w' := by
  refine reasm_copies_of s.A s.n s.k w _ ?_
  unfold reasm_copies_VC
  have hl := h.len
  have hs := h.small
  refine appB (m := s.n) (xs := []) (ys := l) ((Sep.start0 w).nil w.heap.size 5 1) 1 rfl h.cells hl (by omega) (Nat.le_refl _) fun A2 c2 w2 H hc2 => ?_
  rw [Nat.zero_add] at H ⊢
  exact ⟨⟨A2, s.n, c2⟩, rfl, ⟨hs, h.bts⟩, rfl, H⟩
set_option maxHeartbeats 1000000 in
theorem ropts_spec {rs : List OptR} (hO : OptsAt w s rs) : Calls Tryd.prog 31 #[s.val] w fun e w' => ∃ (s' : Sl) (rs' : List OptR), e = .returned s'.val ∧
    rs'.map OptR.d = rs.map OptR.d ∧ OptsFine s' rs' ∧ s'.n = s.n ∧ Sep (Fct.rest w None :: optFs w.heap.size s' rs') w' := by
  refine reasm_options_of s.A s.n s.k w _ ?_
  unfold reasm_options_VC
  have hl := hO.len
  have hsm := hO.small
  refine LoopVC.of (fun st w' => ∃ (i : Nat) (rs' : List OptR), st.2 = i ∧ i ≤ s.n ∧ rs'.map OptR.d = (rs.take i).map OptR.d ∧ OptsFine ⟨st.1.1, st.1.2.1, st.1.2.2⟩ rs' ∧ st.1.2.1 = i ∧
      Sep (Fct.rest w None :: optFs w.heap.size ⟨st.1.1, st.1.2.1, st.1.2.2⟩ rs') w') (fun st _ => ((s.n : Int) - st.2).toNat)
    ⟨0, [], rfl, Nat.zero_le _, rfl, ⟨rfl, Nat.zero_le _, fun r hr => by cases hr⟩, rfl, (Sep.start0 w).nil _ _ _⟩ ?_
  rintro ⟨⟨A1, n1, c1⟩, _⟩ w1 ⟨i, rs', rfl, hi, hd, hf, hn1, H⟩
  simp only at hn1
  subst hn1
  show reasm_options_L58 _ s.A s.n A1 n1 c1 (n1 : Int) w1 _
  unfold reasm_options_L58
  refine Br.dec (fun hlt => ?_) fun hge => ?_
  · have hlt : n1 < s.n := by omega
    refine (hO.ext H.start1).idx rfl hlt fun a r hr hc hb => OptV.of r.v ⟨hc, ?_⟩
    have htake : rs.take (n1 + 1) = rs.take n1 ++ [r] := by rw [List.take_add_one, hr]; rfl
    have hi1 : IntKind.i64.wrap ((n1 : Int) + 1) = ((n1 + 1 : Nat) : Int) := by rw [w64 (by omega) (by omega)]; omega
    refine NewVC.sep H fun g1 w2 H => ?_
    have H := H.front
    refine Stores.sep H 0 rfl (OptV.one _) (Nat.le_refl _) (splice_all rfl) fun w3 H => ?_
    refine DrawVC.sep H (fun w' => Blk w' g1 106 r.v.cells) fun w5 H => ⟨H.blk 0 rfl, _, fun w' hb => hb.cell 0, _, _, _, fun w' hb => hb.cell 1, ?_⟩
    refine (copies_spec (s := r.v.data) (l := r.data) (((hO.each r (List.mem_of_getElem? hr)).ext (H.restOf 1 rfl)))).mono ?_
    rintro _ w6 ⟨s', rfl, hB, hn, H6⟩
    have hz5 := (H.restOf 1 rfl).size
    have H := (H.made H6).front.lower 0 rfl hz5
    refine ⟨_, _, _, rfl, H.blk 1 rfl, NewVC.sep H fun g2 w7 H => ⟨H.front.blk 2 rfl, ?_⟩⟩
    have H := H.front
    have hz7 := (H.restOf 3 rfl).size
    refine appO (o := ⟨r.v.kind, s'⟩) H 4 rfl (Cells.blk0 (H.blk 0 rfl)) (show n1 ≤ 1000000000 by omega) (by omega) fun A2 c2 w8 H hc2 => ⟨H.blk 2 rfl, ⟨n1 + 1, rs' ++ [⟨⟨r.v.kind, s'⟩, r.data⟩], hi1, by omega, ?_, ⟨?_, by simp only; omega, ?_⟩, rfl, ?_⟩, by simp only [hi1]; omega⟩
    · rw [htake, List.map_append, List.map_append, hd]; rfl
    · have := hf.len; simp at this ⊢; omega
    · intro x hx
      rcases List.mem_append.1 hx with hx | hx
      · exact hf.each x hx
      · simp at hx; subst hx; exact hB
    · have H := H.tail.rot.tail
      simp only [optFs, rowO, List.map_append, List.flatten_append, List.map_cons, List.map_nil, List.flatten_cons, List.flatten_nil, List.append_nil]
      exact H
  · have hin : n1 = s.n := by omega
    exact ⟨⟨A1, n1, c1⟩, rs', rfl, by rw [hd, hin, ← hl, List.take_length], hf, hin, H⟩
set_option maxHeartbeats 1000000 in
theorem rhdrs_spec {rs : List ExtR} (hX : ExtsAt w s rs) : Calls Tryd.prog 37 #[s.val] w fun e w' => ∃ (s' : Sl) (rs' : List ExtR), e = .returned s'.val ∧
    rs'.map ExtR.d = rs.map ExtR.d ∧ ExtsFine s' rs' ∧ Sep (Fct.rest w None :: extFs w.heap.size s' rs') w' := by
  refine reasm_headers_of s.A s.n s.k w _ ?_
  unfold reasm_headers_VC
  have hl := hX.len
  have hsm := hX.small
  refine LoopVC.of (fun st w' => ∃ (i : Nat) (rs' : List ExtR), st.2 = i ∧ i ≤ s.n ∧ rs'.map ExtR.d = (rs.take i).map ExtR.d ∧ ExtsFine ⟨st.1.1, st.1.2.1, st.1.2.2⟩ rs' ∧ st.1.2.1 = i ∧
      Sep (Fct.rest w None :: extFs w.heap.size ⟨st.1.1, st.1.2.1, st.1.2.2⟩ rs') w') (fun st _ => ((s.n : Int) - st.2).toNat)
    ⟨0, [], rfl, Nat.zero_le _, rfl, ⟨rfl, Nat.zero_le _, (fun r hr => by cases hr), fun r hr => by cases hr⟩, rfl, (Sep.start0 w).nil _ _ _⟩ ?_
  rintro ⟨⟨A1, n1, c1⟩, _⟩ w1 ⟨i, rs', rfl, hi, hd, hf, hn1, H⟩
  simp only at hn1
  show reasm_headers_L58 _ s.A s.n A1 n1 c1 (i : Int) w1 _
  unfold reasm_headers_L58
  refine Br.dec (fun hlt => ?_) fun hge => ?_
  · have hlt : i < s.n := by omega
    refine (hX.ext H.start1).idx rfl hlt fun a r hr hc _ _ => ExtV.of r.v ⟨hc, ?_⟩
    have hrm := List.mem_of_getElem? hr
    have htake : rs.take (i + 1) = rs.take i ++ [r] := by rw [List.take_add_one, hr]; rfl
    have hi1 : IntKind.i64.wrap ((i : Int) + 1) = ((i + 1 : Nat) : Int) := by rw [w64 (by omega) (by omega)]; omega
    refine NewVC.sep H fun g1 w2 H => ?_
    have H := H.front
    refine Stores.sep H 0 rfl (ExtV.one _) (Nat.le_refl _) (splice_all rfl) fun w3 H => ?_
    refine DrawVC.sep H (fun w' => Blk w' g1 115 r.v.cells) fun w4 H => ⟨H.blk 0 rfl, _, fun w' hb => hb.cell 0, _, _, _, fun w' hb => hb.cell 1, _, _, _, fun w' hb => hb.cell 2, ?_⟩
    have hz4 := (H.restOf 1 rfl).size
    refine (ropts_spec (s := r.v.opts) (rs := r.opts) ((hX.opts r hrm).ext (H.restOf 1 rfl))).mono ?_
    rintro _ w5 ⟨so, os', rfl, hod, hof, _, H5⟩
    have H5 := (AllLe.append (AllLe.refl [Fct.rest w4 None]) (optFs_less hz4)).sep H5
    have H := H.mades H5
    have hz5 := (H.restOf 1 rfl).size
    refine ⟨_, _, _, rfl, H.blk 0 rfl, ?_⟩
    refine (copies_spec (s := r.v.data) (l := r.data) ((hX.data r hrm).ext (H.restOf 1 rfl))).mono ?_
    rintro _ w6 ⟨sd, rfl, hB, hn, H6⟩
    have H6 := H6.lower 1 rfl hz5
    have H := H.made H6
    refine ⟨_, _, _, rfl, H.blk 0 rfl, NewVC.sep H fun g2 w7 H => ⟨H.front.blk 1 rfl, ?_⟩⟩
    have H := H.front
    have hz7 := (H.restOf 2 rfl).size
    refine appE (o := ⟨r.v.kind, so, sd⟩) H 3 rfl (Cells.blk0 (H.blk 0 rfl)) (show n1 ≤ 1000000000 by omega) (by omega) fun A2 c2 w8 H hc2 => ⟨H.blk 1 rfl, ⟨i + 1, rs' ++ [⟨⟨r.v.kind, so, sd⟩, os', r.data⟩], hi1, by omega, ?_, ⟨?_, by simp only; omega, ?_, ?_⟩, by simp only; omega, ?_⟩, by simp only [hi1]; omega⟩
    · rw [htake, List.map_append, List.map_append, hd]
      simp only [List.map_cons, List.map_nil, ExtR.d, hod]
    · have := hf.len; simp at this ⊢; omega
    · intro x hx
      rcases List.mem_append.1 hx with hx | hx
      · exact hf.opts x hx
      · simp at hx; subst hx; exact hof
    · intro x hx
      rcases List.mem_append.1 hx with hx | hx
      · exact hf.data x hx
      · simp at hx; subst hx; exact hB
    · have H := H.tail.tail
      simp only [extFs, rowE, extF, List.map_append, List.flatten_append, List.map_cons, List.map_nil, List.flatten_cons, List.flatten_nil, List.append_nil, List.flatMap_append, List.flatMap_cons, List.flatMap_nil, ← List.append_assoc]
      exact H
  · have hin : i = s.n := by omega
    exact ⟨⟨A1, n1, c1⟩, rs', rfl, by rw [hd, hin, ← hl, List.take_length], hf, H⟩
def Ip6V.with_ (h : Ip6V) (se sd : Sl) : Ip6V := { h with exts := se, data := sd }
def Ip4V.with_ (h : Ip4V) (so sd : Sl) : Ip4V := { h with opts := so, data := sd }
theorem rclone6_spec {h : Ip6V} {es : List ExtR} {data : List Int} (hA : Ip6At w h es data) : Calls Tryd.prog 20 #[h.val] w fun e w' => ∃ (se sd : Sl) (es' : List ExtR), e = .returned (Ip6V.with_ h se sd).val ∧
    es'.map ExtR.d = es.map ExtR.d ∧ ExtsFine se es' ∧ BFine sd data ∧ Sep (Fct.rest w None :: (extFs 0 se es' ++ [rowB 0 sd data])) w' := by
  refine reasm_clone6_of h w _ ?_
  unfold reasm_clone6_VC
  refine NewVC.sep (Sep.start0 w) fun g1 w1 H => NewVC.sep H fun g2 w2 H => DrawVC.sep H (fun w' => Blk w' g1 43 h.cells) fun w3 H => ⟨H.blk 1 rfl, ?_⟩
  refine ⟨_, _, _, fun w' hb => hb.cell 37, _, _, _, fun w' hb => hb.cell 43, ?_⟩
  refine (rhdrs_spec (s := h.exts) (hA.exts.ext (H.restOf 0 rfl))).mono ?_
  rintro _ w4 ⟨se, es', rfl, hed, hef, H4⟩
  have H := H.mades H4
  refine ⟨_, _, _, rfl, H.blk 1 rfl, ?_⟩
  refine (copies_spec (s := h.data) (l := data) (hA.data.ext (H.restOf 0 rfl))).mono ?_
  rintro _ w5 ⟨sd, rfl, hB, hn, H5⟩
  have H := H.made H5
  refine ⟨_, _, _, rfl, SetVC.sep H 1 (k := 37) rfl (show 37 < 44 by decide) fun w6 H => SetVC.sep H 1 (k := 43) rfl (show 43 < 44 by decide) fun w7 H => ?_⟩
  refine Ip6V.of (Ip6V.with_ h se sd) ⟨H.at 1 rfl, Stores.sep H 2 rfl (Ip6V.one _) (Nat.le_refl _) (splice_all rfl) fun w8 H => Ip6V.of (Ip6V.with_ h se sd) ⟨H.at 2 rfl, se, sd, es', rfl, hed, hef, hB, ?_⟩⟩
  have H := H.sub (Γ' := Fct.rest w None :: (extFs w3.heap.size se es' ++ [rowB w4.heap.size sd data])) (.cons_cons _ (.cons _ (.cons _ (List.Sublist.refl _))))
  exact (AllLe.append (AllLe.refl [Fct.rest w None]) ((extFs_less (Nat.zero_le _)).append (.cons (own_less (Nat.zero_le _)).1 (own_less (Nat.zero_le _)).2 .nil))).sep H
theorem rclone4_spec {h : Ip4V} {os : List OptR} {data : List Int} (hA : Ip4At w h os data) : Calls Tryd.prog 15 #[h.val] w fun e w' => ∃ (so sd : Sl) (os' : List OptR), e = .returned (Ip4V.with_ h so sd).val ∧
    os'.map OptR.d = os.map OptR.d ∧ OptsFine so os' ∧ BFine sd data ∧ Sep (Fct.rest w None :: (optFs 0 so os' ++ [rowB 0 sd data])) w' := by
  refine reasm_clone4_of h w _ ?_
  unfold reasm_clone4_VC
  refine NewVC.sep (Sep.start0 w) fun g1 w1 H => NewVC.sep H fun g2 w2 H => DrawVC.sep H (fun w' => Blk w' g1 35 h.cells) fun w3 H => ⟨H.blk 1 rfl, ?_⟩
  refine ⟨_, _, _, fun w' hb => hb.cell 41, _, _, _, fun w' hb => hb.cell 42, ?_⟩
  refine (ropts_spec (s := h.opts) (hA.opts.ext (H.restOf 0 rfl))).mono ?_
  rintro _ w4 ⟨so, os', rfl, hod, hof, _, H4⟩
  have H := H.mades H4
  refine ⟨_, _, _, rfl, H.blk 1 rfl, ?_⟩
  refine (copies_spec (s := h.data) (l := data) (hA.data.ext (H.restOf 0 rfl))).mono ?_
  rintro _ w5 ⟨sd, rfl, hB, hn, H5⟩
  have H := H.made H5
  refine ⟨_, _, _, rfl, SetVC.sep H 1 (k := 41) rfl (show 41 < 43 by decide) fun w6 H => SetVC.sep H 1 (k := 42) rfl (show 42 < 43 by decide) fun w7 H => ?_⟩
  refine Ip4V.of (Ip4V.with_ h so sd) ⟨H.at 1 rfl, Stores.sep H 2 rfl (Ip4V.one _) (Nat.le_refl _) (splice_all rfl) fun w8 H => Ip4V.of (Ip4V.with_ h so sd) ⟨H.at 2 rfl, so, sd, os', rfl, hod, hof, hB, ?_⟩⟩
  have H := H.sub (Γ' := Fct.rest w None :: (optFs w3.heap.size so os' ++ [rowB w4.heap.size sd data])) (.cons_cons _ (.cons _ (.cons _ (List.Sublist.refl _))))
  exact (AllLe.append (AllLe.refl [Fct.rest w None]) ((optFs_less (Nat.zero_le _)).append (.cons (own_less (Nat.zero_le _)).1 (own_less (Nat.zero_le _)).2 .nil))).sep H
end
end N6
end Go.Proofs.YthhgbpmihhljdaaDoor
/- The library's sort laid at this program: its numbers, and that each body is the one that the kit's contract was proved of. (Written by the kit's lay-plain.) -/
namespace Go.Proofs
open Go.Shelf
def Tryd.sortCtx_ren : Go.Shelf.Ren := ⟨fun | 6 => 39 | 15 => 50 | 14 => 49 | 28 => 71 | 29 => 72 | 20 => 63 | 21 => 64 | 22 => 65 | 23 => 66 | 24 => 67 | 25 => 68 | 26 => 69 | 27 => 70 | 46 => 79 | 47 => 80 | 48 => 81 | 49 => 82 | 50 => 83 | 57 => 93 | n => n, fun | 22 => 75 | 24 => 55 | 25 => 104 | 3 => 3 | 39 => 126 | 0 => 0 | 53 => 147 | 55 => 149 | 4 => 4 | 46 => 141 | 45 => 140 | 50 => 86 | 5 => 5 | 9 => 9 | 66 => 162 | 70 => 166 | 76 => 174 | 77 => 175 | n => n, fun | n => n⟩
theorem Tryd.sortCtx : Go.Proofs.SlLaysF.n6 Tryd.prog Tryd.sortCtx_ren := {
  mixed := by kernel_rfl
  f6 := ⟨Tryd.f39.name, by decide, Tryd.func39.trans (congrArg some (by kernel_rfl))⟩
  f14 := ⟨Tryd.f49.name, by decide, Tryd.func49.trans (congrArg some (by kernel_rfl))⟩
  f15 := Tryd.func50.trans (congrArg some (by kernel_rfl))
  f20 := ⟨Tryd.f63.name, by decide, Tryd.func63.trans (congrArg some (by kernel_rfl))⟩
  f21 := ⟨Tryd.f64.name, by decide, Tryd.func64.trans (congrArg some (by kernel_rfl))⟩
  f22 := ⟨Tryd.f65.name, by decide, Tryd.func65.trans (congrArg some (by kernel_rfl))⟩
  f23 := ⟨Tryd.f66.name, by decide, Tryd.func66.trans (congrArg some (by kernel_rfl))⟩
  f24 := ⟨Tryd.f67.name, by decide, Tryd.func67.trans (congrArg some (by kernel_rfl))⟩
  f25 := ⟨Tryd.f68.name, by decide, Tryd.func68.trans (congrArg some (by kernel_rfl))⟩
  f26 := ⟨Tryd.f69.name, by decide, Tryd.func69.trans (congrArg some (by kernel_rfl))⟩
  f27 := ⟨Tryd.f70.name, by decide, Tryd.func70.trans (congrArg some (by kernel_rfl))⟩
  f28 := Tryd.func71.trans (congrArg some (by kernel_rfl))
  f29 := Tryd.func72.trans (congrArg some (by kernel_rfl))
  f46 := ⟨Tryd.f79.name, by decide, Tryd.func79.trans (congrArg some (by kernel_rfl))⟩
  f47 := Tryd.func80.trans (congrArg some (by kernel_rfl))
  f48 := Tryd.func81.trans (congrArg some (by kernel_rfl))
  f49 := ⟨Tryd.f82.name, by decide, Tryd.func82.trans (congrArg some (by kernel_rfl))⟩
  f50 := ⟨Tryd.f83.name, by decide, Tryd.func83.trans (congrArg some (by kernel_rfl))⟩
  f57 := ⟨Tryd.f93.name, by decide, Tryd.func93.trans (congrArg some (by kernel_rfl))⟩
  t0 := Tryd.underlying0
  a0 := Tryd.isAgg0
  z0 := Tryd.sizeOf0
  v0 := Tryd.zeroValue0
  t3 := Tryd.underlying3
  a3 := Tryd.isAgg3
  z3 := Tryd.sizeOf3
  v3 := Tryd.zeroValue3
  t4 := Tryd.underlying4
  a4 := Tryd.isAgg4
  z4 := Tryd.sizeOf4
  v4 := Tryd.zeroValue4
  t5 := Tryd.underlying5
  a5 := Tryd.isAgg5
  z5 := Tryd.sizeOf5
  v5 := Tryd.zeroValue5
  t9 := Tryd.underlying9
  a9 := Tryd.isAgg9
  z9 := Tryd.sizeOf9
  v9 := Tryd.zeroValue9
  t22 := Tryd.underlying75
  a22 := Tryd.isAgg75
  z22 := Tryd.sizeOf75
  v22 := Tryd.zeroValue75
  a24 := Tryd.isAgg55
  z24 := Tryd.sizeOf55
  t25 := Tryd.underlying104
  a25 := Tryd.isAgg104
  z25 := Tryd.sizeOf104
  v25 := Tryd.zeroValue104
  t39 := Tryd.underlying126
  a39 := Tryd.isAgg126
  z39 := Tryd.sizeOf126
  v39 := Tryd.zeroValue126
  t45 := Tryd.underlying140
  a45 := Tryd.isAgg140
  z45 := Tryd.sizeOf140
  v45 := Tryd.zeroValue140
  t46 := Tryd.underlying141
  a46 := Tryd.isAgg141
  z46 := Tryd.sizeOf141
  v46 := Tryd.zeroValue141
  t50 := Tryd.underlying86
  a50 := Tryd.isAgg86
  z50 := Tryd.sizeOf86
  v50 := Tryd.zeroValue86
  t53 := Tryd.underlying147
  a53 := Tryd.isAgg147
  z53 := Tryd.sizeOf147
  v53 := Tryd.zeroValue147
  t55 := Tryd.underlying149
  a55 := Tryd.isAgg149
  z55 := Tryd.sizeOf149
  v55 := Tryd.zeroValue149
  t66 := Tryd.underlying162
  a66 := Tryd.isAgg162
  z66 := Tryd.sizeOf162
  v66 := Tryd.zeroValue162
  t70 := Tryd.underlying166
  a70 := Tryd.isAgg166
  z70 := Tryd.sizeOf166
  v70 := Tryd.zeroValue166
  t76 := Tryd.underlying174
  a76 := Tryd.isAgg174
  z76 := Tryd.sizeOf174
  v76 := Tryd.zeroValue174
  t77 := Tryd.underlying175
  a77 := Tryd.isAgg175
  z77 := Tryd.sizeOf175
  v77 := Tryd.zeroValue175 }
end Go.Proofs
