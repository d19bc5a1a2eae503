/- What is packed is read again, wherever it stands; a look hangs on the bytes that it names alone. -/
import Derived.Test.YtdchpilghgnnoaaL1
namespace Go.Proofs.Ytdchpilghgnnoaa
open Go.Eng Go.RowKit

theorem bts_append {a b : List Int} (ha : Bts a) (hb : Bts b) : Bts (a ++ b) := by
  intro x hx
  rcases List.mem_append.1 hx with hx | hx
  · exact ha x hx
  · exact hb x hx
theorem join_spec {A B C : Option Addr} {n c m d k f : Nat} {xs ys zs : List Int} {w : World} (hx : Cells w A (xs.map (.int .u8))) (hy : Cells w B (ys.map (.int .u8))) (hz : Cells w C (zs.map (.int .u8)))
    (hn : xs.length = n) (hm : ys.length = m) (hk : zs.length = k) (hb : n + m + k ≤ 140737488355328) :
    Calls Try.prog 30 #[.slice A n c, .slice B m d, .slice C k f] w fun e w' => Ext w w' ∧ ∃ A' c', e = .returned (.slice A' (n + m + k) c') ∧ n + m + k ≤ c' ∧
      w'.ownsRow w.heap.size 5 1 (.slice A' (n + m + k) c') (n + m + k) ((xs ++ ys ++ zs).map (.int .u8)) := by
  refine weirlaw1_join_of A n c B m d C k f w _ ?_
  unfold weirlaw1_join_VC
  obtain ⟨i3, hi3, hz3', hs3, hy3⟩ := tyByte
  refine AppVC.own Try.underlying22 hi3 hz3' hs3 hy3 rfl (by decide) (World.ownsRow_nil _ _ _ _) hx (by simpa using hn) (ints_one _ _) (by omega) (by decide) (Nat.le_refl _) fun A1 c1 w1 hown1 hm1 hc1 => ?_
  have hE1 : Ext w w1 := hm1.mono fun k hk e => by simp [Value.ownBlock] at e
  have hs1 := hE1.size
  rw [Nat.zero_add] at hown1 ⊢
  refine AppVC.own Try.underlying22 hi3 hz3' hs3 hy3 rfl (by decide) hown1 (hy.ext hE1) (by simpa using hm) (ints_one _ _) (by omega) (by decide) hs1 fun A2 c2 w2 hown2 hm2 hc2 => ?_
  have hE2 : Ext w w2 := hE1.trans' hm2 fun k hk e => by have := own_new hown1 k e.symm; omega
  have hs2 := hE2.size
  refine AppVC.own Try.underlying22 hi3 hz3' hs3 hy3 rfl (by decide) hown2 (hz.ext hE2) (by simpa using hk) (ints_one _ _) (by omega) (by decide) hs2 fun A3 c3 w3 hown3 hm3 hc3 => ?_
  refine ⟨hE2.trans' hm3 fun k hk e => by have := own_new hown2 k e.symm; omega, A3, c3, rfl, hc3, ?_⟩
  simpa using hown3

theorem back_law {A W B C : Option Addr} {n c m d k f l g : Nat} {ws vs xs zs : List Int} {w : World} (hws : Cells w W (ws.map (.int .i64))) (hm : ws.length = m) (hvs : Cells w A (vs.map (.int .i64))) (hn : vs.length = n)
    (hx : Cells w B (xs.map (.int .u8))) (hk : xs.length = k) (bx : Bts xs) (hz : Cells w C (zs.map (.int .u8))) (hl : zs.length = l) (bz : Bts zs) (b1 : k ≤ 1048576) (b2 : l ≤ 1048576) (b4 : n ≤ 1048576) :
    Calls Try.prog 6 #[.slice W m d, .slice A n c, .slice B k f, .slice C l g] w fun e w' => e = .returned (.bool true) ∧ Ext w w' := by
  refine weirlaw1_ViewBack_of W m d A n c B k f C l g w _ ?_
  have hno : ∀ x : Int, x ≠ 0 → Calls Try.prog 33 #[.slice W m d, .slice A n c] w (fun e w' => Ext w w' ∧ e = .returned (.tuple #[.slice none 0 0, .int .i64 x])) →
      weirlaw1_ViewBack_VC W m d A n c B k f C l g w (fun e w' => e = .returned (.bool true) ∧ Ext w w') := by
    intro x hx hcall
    unfold weirlaw1_ViewBack_VC
    refine hcall.mono ?_
    rintro _ w1 ⟨hE1, rfl⟩
    refine ⟨_, _, _, _, rfl, ?_⟩
    refine (num_spec x w1).mono ?_
    rintro _ w2 ⟨rfl, rfl⟩
    refine ⟨_, rfl, Br.yes hx ?_⟩
    refine (started_spec w1).mono ?_
    rintro _ w3 ⟨hE3, rfl⟩
    exact ⟨_, rfl, Br.t rfl ⟨rfl, hE1.ext hE3⟩⟩
  by_cases hok : widthsOk ws
  · by_cases hnm : n = m
    · by_cases hval : valuesOk ws vs
      · unfold weirlaw1_ViewBack_VC
        have hpb := psum_bound hok.2.1
        have h64 : ws.length ≤ 64 := hok.1
        have h8 := hok.2.2
        refine (pack_ok hws hm hvs hn hok hnm).mono ?_
        rintro _ w1 ⟨hE1, ⟨_, A1, ds, hp, rfl, hown1⟩ | ⟨hno, -⟩⟩
        · have hdl := hp.len
          refine ⟨_, _, _, _, rfl, ?_⟩
          refine (num_spec 0 w1).mono ?_
          rintro _ w2 ⟨rfl, rfl⟩
          refine ⟨_, rfl, Br.no (by omega) ?_⟩
          refine (join_spec (hx.ext hE1) (own_cells hown1) (hz.ext hE1) hk rfl hl (by omega)).mono ?_
          rintro _ w4 ⟨hE4, A2, c2, rfl, hc2, hown2⟩
          refine ⟨_, _, _, rfl, ?_⟩
          have hE14 := hE1.ext hE4
          refine (fields_yes (own_cells hown2) (by simp; omega) (bts_append (bts_append bx hp.bts) bz) hc2 (by omega) (hws.ext hE14) hm hok (p := (k : Int)) (by omega) (by omega)).mono ?_
          rintro _ w5 ⟨hE5, A3, c3, rfl, hown3⟩
          have hwin : ((xs ++ ds ++ zs).drop (k : Int).toNat).take (psum ws / 8).toNat = ds := by
            rw [Int.toNat_natCast, ← hk, List.append_assoc, List.drop_left, show (psum ws / 8).toNat = ds.length by omega, List.take_left]
          rw [hwin, hp.vals] at hown3
          refine ⟨_, _, _, _, _, rfl, ?_⟩
          have hE15 := hE14.ext hE5
          refine (pack_ok (hws.ext hE15) hm (own_cells hown3) (by omega) hok rfl).mono ?_
          rintro _ w6 ⟨hE6, ⟨_, A4, es, hp2, rfl, hown4⟩ | ⟨hno, -⟩⟩
          · have he := hp2.unique hok.2.1 h8 hp
            subst he
            refine ⟨_, _, _, _, rfl, ?_⟩
            refine (started_spec w6).mono ?_
            rintro _ w7 ⟨hE7, rfl⟩
            have hE17 := (hE15.ext hE6).ext hE7
            refine ⟨_, rfl, Br.t rfl ?_⟩
            refine (num_spec 0 w7).mono ?_
            rintro _ w8 ⟨rfl, rfl⟩
            refine ⟨_, rfl, Br.yes rfl (Br.yes (by rw [w64 (by omega) (by omega)]; omega) ?_)⟩
            refine (sameInts_spec (own_cells (own_ext (own_ext hown3 hE6) hE7)) (hvs.ext hE17) (by omega) hn (by omega)).mono ?_
            rintro _ w9 ⟨hE9, rfl⟩
            refine ⟨_, rfl, Br.yes rfl ?_⟩
            refine (num_spec 0 w9).mono ?_
            rintro _ w10 ⟨rfl, rfl⟩
            refine ⟨_, rfl, Br.yes rfl ?_⟩
            refine (same_spec (own_cells (own_ext hown1 ((((hE4.ext hE5).ext hE6).ext hE7).ext hE9))) (own_cells (own_ext hown4 (hE7.ext hE9))) rfl rfl hp.bts hp.bts).mono ?_
            rintro _ w11 ⟨rfl, rfl⟩
            exact ⟨_, rfl, by rw [decide_eq_true rfl], hE17.ext hE9⟩
          · exact (hno hval).elim
        · exact (hno hval).elim
      · exact hno 12 (by omega) ((pack_ok hws hm hvs hn hok hnm).mono fun e w' ⟨hE, h⟩ => h.elim (fun h => (hval h.1).elim) fun h => ⟨hE, h.2⟩)
    · exact hno 1 (by omega) ((pack_no1 hws hm hok hnm).mono fun e w' ⟨h1, h⟩ => ⟨h1 ▸ Mod.refl _ _, h⟩)
  · exact hno 11 (by omega) ((pack_no11 hws hm hok).mono fun e w' ⟨h1, h⟩ => ⟨h1 ▸ Mod.refl _ _, h⟩)

theorem fields_spec {A W : Option Addr} {n c m d : Nat} {p : Int} {bs ws : List Int} {w : World} (hb : Cells w A (bs.map (.int .u8))) (hl : bs.length = n) (hB : Bts bs) (hc : n ≤ c) (hn : n ≤ 140737488355328)
    (hws : Cells w W (ws.map (.int .i64))) (hm : ws.length = m) :
    Calls Try.prog 28 #[.slice A n c, .int .i64 p, .slice W m d] w fun e w' => Ext w w' ∧
      ((widthsOk ws ∧ 0 ≤ p ∧ p + psum ws / 8 ≤ n ∧ ∃ A' c', e = .returned (.tuple #[.slice A' m c', .int .i64 (p + psum ws / 8), .int .i64 0]) ∧
          w'.ownsRow w.heap.size 3 1 (.slice A' m c') m ((fieldsV (bitAt ((bs.drop p.toNat).take (psum ws / 8).toNat)) 0 ws).map (.int .i64))) ∨
       ((¬ widthsOk ws) ∧ e = .returned (.tuple #[.slice none 0 0, .int .i64 0, .int .i64 11])) ∨
       (widthsOk ws ∧ ¬ (0 ≤ p ∧ p + psum ws / 8 ≤ n) ∧ e = .returned (.tuple #[.slice none 0 0, .int .i64 0, .int .i64 10]))) := by
  by_cases hok : widthsOk ws
  · by_cases hr : 0 ≤ p ∧ p + psum ws / 8 ≤ n
    · exact (fields_yes hb hl hB hc hn hws hm hok hr.1 hr.2).mono fun e w' ⟨hE, h⟩ => ⟨hE, .inl ⟨hok, hr.1, hr.2, h⟩⟩
    · exact (fields_no10 hn hws hm hok hr).mono fun e w' ⟨hE, h⟩ => ⟨hE, .inr (.inr ⟨hok, hr, h⟩)⟩
  · exact (fields_no11 hws hm hok).mono fun e w' ⟨hE, h⟩ => ⟨hE, .inr (.inl ⟨hok, h⟩)⟩
theorem window_spec {A : Option Addr} {n c : Nat} {p k : Int} {bs : List Value} {w : World} (hb : Cells w A bs) (hl : bs.length = n) (hc : n ≤ c) (hn : n ≤ 140737488355328) :
    Calls Try.prog 29 #[.slice A n c, .int .i64 p, .int .i64 k] w fun e w' => Ext w w' ∧
      ((0 ≤ p ∧ 0 ≤ k ∧ p + k ≤ n ∧ ∃ A', e = .returned (.tuple #[.slice A' k.toNat k.toNat, .int .i64 0]) ∧ Cells w A' ((bs.drop p.toNat).take k.toNat) ∧ A' = if k = 0 then A else A.map (·.add p.toNat)) ∨
       (¬ (0 ≤ p ∧ 0 ≤ k ∧ p + k ≤ n) ∧ e = .returned (.tuple #[.slice none 0 0, .int .i64 (if k < 0 then 1 else 10)]))) := by
  by_cases h : 0 ≤ p ∧ 0 ≤ k ∧ p + k ≤ n
  · exact (window_yes hb hl hc (by omega) h.1 h.2.1 h.2.2).mono fun e w' ⟨hE, h'⟩ => ⟨hE, .inl ⟨h.1, h.2.1, h.2.2, h'⟩⟩
  · exact (window_no hn (by omega)).mono fun e w' ⟨hE, h'⟩ => ⟨hE, .inr ⟨h, h'⟩⟩
theorem win_beside (xs zs : List Int) {bs : List Int} {k : Nat} (hk : k ≤ bs.length) : ((xs ++ bs ++ zs).drop xs.length).take k = bs.take k := by
  rw [List.append_assoc, List.drop_left, List.take_append_of_le_length hk]
theorem uint_beside {xs bs zs : List Int} {k : Int} (h : (uintS bs 0 k).2 = 0) : uintS (xs ++ bs ++ zs) (xs.length : Int) k = uintS bs 0 k := by
  unfold uintS at h ⊢
  by_cases h1 : k < 1 ∨ 8 < k
  · rw [if_pos h1] at h; simp at h
  · rw [if_neg h1] at h ⊢
    by_cases h2 : (0 : Int) ≤ 0 ∧ 0 + k ≤ bs.length
    · rw [if_pos h2] at h
      rw [if_pos (by simp; omega), if_neg h1, if_pos h2]
      have := win_beside xs zs (k := k.toNat) (bs := bs) (by omega)
      simp only [Int.toNat_natCast] at this ⊢
      rw [this]; simp
    · rw [if_neg h2] at h; simp at h

theorem beside_law {A B C W : Option Addr} {n c m d k f l g : Nat} {q : Int} {bs ws xs zs : List Int} {w : World} (hb : Cells w A (bs.map (.int .u8))) (hn : bs.length = n) (bb : Bts bs) (hc : n ≤ c)
    (hx : Cells w B (xs.map (.int .u8))) (hk : xs.length = k) (bx : Bts xs) (hz : Cells w C (zs.map (.int .u8))) (hl : zs.length = l) (bz : Bts zs) (hws : Cells w W (ws.map (.int .i64))) (hm : ws.length = m)
    (b1 : k ≤ 1048576) (b2 : l ≤ 1048576) (b4 : n ≤ 1048576) :
    Calls Try.prog 5 #[.slice A n c, .int .i64 q, .slice B k f, .slice C l g, .slice W m d] w fun e w' => e = .returned (.bool true) ∧ Ext w w' := by
  subst hn; subst hk; subst hl; subst hm
  refine weirlaw1_ViewBeside_of A _ c q B _ f C _ g W _ d w _ ?_
  unfold weirlaw1_ViewBeside_VC
  refine (uint_spec hb rfl bb (by omega)).mono ?_
  rintro _ w1 ⟨hE1, rfl⟩
  refine ⟨_, _, rfl, ?_⟩
  refine (fields_spec (hb.ext hE1) rfl bb hc (by omega) (hws.ext hE1) rfl).mono ?_
  rintro en2 w2 ⟨hE2, hF⟩
  have hFF : ∃ A' n' c' q' e', en2 = .returned (.tuple #[.slice A' n' c', .int .i64 q', .int .i64 e']) ∧ (e' = 0 → widthsOk ws ∧ psum ws / 8 ≤ bs.length ∧ q' = psum ws / 8 ∧ n' = ws.length ∧
      w2.ownsRow w1.heap.size 3 1 (.slice A' n' c') n' ((fieldsV (bitAt (bs.take (psum ws / 8).toNat)) 0 ws).map (.int .i64))) := by
    rcases hF with ⟨hok, -, hr, A', c', h, hown⟩ | ⟨-, h⟩ | ⟨-, -, h⟩
    · refine ⟨_, _, _, _, _, h, fun _ => ⟨hok, by omega, by omega, rfl, ?_⟩⟩
      simpa using hown
    · exact ⟨_, _, _, _, _, h, fun h => by omega⟩
    · exact ⟨_, _, _, _, _, h, fun h => by omega⟩
  obtain ⟨A1, n1, c1, q1, e1, rfl, hF1⟩ := hFF
  refine ⟨_, _, _, _, _, rfl, ?_⟩
  have hE12 := hE1.ext hE2
  refine (window_spec (hb.ext hE12) (by simp) hc (by omega)).mono ?_
  rintro en3 w3 ⟨hE3, hG⟩
  have hGG : ∃ A' n' c' e', en3 = .returned (.tuple #[.slice A' n' c', .int .i64 e']) ∧ (e' = 0 → 0 ≤ q ∧ q ≤ bs.length ∧ n' = q.toNat ∧ Cells w2 A' ((bs.take q.toNat).map (.int .u8))) := by
    rcases hG with ⟨-, h1, h2, A', h, hw, -⟩ | ⟨-, h⟩
    · refine ⟨_, _, _, _, h, fun _ => ⟨h1, by omega, rfl, ?_⟩⟩
      rw [List.map_take]; simpa using hw
    · refine ⟨_, _, _, _, h, fun h => ?_⟩
      split at h <;> omega
  obtain ⟨A2, n2, c2, e2, rfl, hG1⟩ := hGG
  refine ⟨_, _, _, _, rfl, ?_⟩
  have hE13 := hE12.ext hE3
  refine (join_spec (hx.ext hE13) (hb.ext hE13) (hz.ext hE13) rfl rfl rfl (by omega)).mono ?_
  rintro _ w4 ⟨hE4, A3, c3, rfl, hc3, hown3⟩
  refine ⟨_, _, _, rfl, ?_⟩
  have hE14 := hE13.ext hE4
  have hall : Bts (xs ++ bs ++ zs) := bts_append (bts_append bx bb) bz
  have hlen : (xs ++ bs ++ zs).length = xs.length + bs.length + zs.length := by simp; omega
  refine JoinVC.of (fun _ w' => Ext w4 w') ?_ ?_
  · refine (num_spec _ w4).mono ?_
    rintro _ w5 ⟨rfl, rfl⟩
    refine ⟨_, rfl, Br.dec (fun h0 => ?_) (fun _ => Mod.refl _ _)⟩
    refine (uint_spec (own_cells hown3) hlen hall (by omega)).mono ?_
    rintro _ w6 ⟨hE6, rfl⟩
    rw [uint_beside h0, h0]
    refine ⟨_, _, rfl, Br.no (by simp) ?_⟩
    refine (num_spec _ w6).mono ?_
    rintro _ w7 ⟨rfl, rfl⟩
    exact ⟨_, rfl, Br.no (by omega) hE6⟩
  rintro _ w8 hE8
  have hE18 := hE14.ext hE8
  unfold weirlaw1_ViewBeside_J127
  refine JoinVC.of (fun _ w' => Ext w4 w') ?_ ?_
  · refine (num_spec _ w8).mono ?_
    rintro _ w9 ⟨rfl, rfl⟩
    refine ⟨_, rfl, Br.dec (fun h0 => ?_) (fun _ => hE8)⟩
    obtain ⟨hok, hr, rfl, rfl, hown1⟩ := hF1 h0
    have hpb := psum_bound hok.2.1
    refine (fields_yes (p := (xs.length : Int)) (own_cells (own_ext hown3 hE8)) hlen hall hc3 (by omega) (hws.ext hE18) rfl hok (by omega) (by omega)).mono ?_
    rintro _ w10 ⟨hE10, A5, c5, rfl, hown5⟩
    refine ⟨_, _, _, _, _, rfl, ?_⟩
    rw [Int.toNat_natCast, win_beside xs zs (by omega)] at hown5
    have hfl := fieldsV_length (bitAt (bs.take (psum ws / 8).toNat)) ws 0
    have h64 : ws.length ≤ 64 := hok.1
    refine (sameInts_spec (own_cells (own_ext hown1 (((hE3.ext hE4).ext hE8).ext hE10))) (own_cells hown5) hfl hfl (by omega)).mono ?_
    rintro _ w11 ⟨hE11, rfl⟩
    refine ⟨_, rfl, Br.f (by simp) (Br.no ?_ ?_)⟩
    · rw [w64 (by omega) (by omega)]; omega
    refine (num_spec _ w11).mono ?_
    rintro _ w12 ⟨rfl, rfl⟩
    exact ⟨_, rfl, Br.no (by omega) ((hE8.ext hE10).ext hE11)⟩
  rintro _ w13 hE13'
  unfold weirlaw1_ViewBeside_J255
  refine JoinVC.of (fun _ w' => Ext w4 w') ?_ ?_
  · refine (num_spec _ w13).mono ?_
    rintro _ w14 ⟨rfl, rfl⟩
    refine ⟨_, rfl, Br.dec (fun h0 => ?_) (fun _ => hE13')⟩
    obtain ⟨hq, hr, rfl, hw⟩ := hG1 h0
    refine (window_yes (p := (xs.length : Int)) (k := q) (own_cells (own_ext hown3 hE13')) (by simpa using hlen) hc3 (by omega) (by omega) hq (by omega)).mono ?_
    rintro _ w15 ⟨hE15, A6, rfl, hw6, -⟩
    refine ⟨_, _, _, _, rfl, ?_⟩
    rw [← List.map_drop, ← List.map_take, Int.toNat_natCast, win_beside xs zs (by omega)] at hw6
    have hln : (bs.take q.toNat).length = q.toNat := by rw [List.length_take]; omega
    refine (same_spec (hw6.ext hE15) (hw.ext (((hE3.ext hE4).ext hE13').ext hE15)) hln hln (bb.take _) (bb.take _)).mono ?_
    rintro _ w16 ⟨rfl, rfl⟩
    refine ⟨_, rfl, Br.f (by simp) ?_⟩
    refine (num_spec _ w15).mono ?_
    rintro _ w17 ⟨rfl, rfl⟩
    exact ⟨_, rfl, Br.no (by omega) (hE13'.ext hE15)⟩
  rintro _ w18 hE18'
  unfold weirlaw1_ViewBeside_J511
  refine (started_spec w18).mono ?_
  rintro _ w19 ⟨hE19, rfl⟩
  exact ⟨_, rfl, rfl, (hE14.ext hE18').ext hE19⟩
end Go.Proofs.Ytdchpilghgnnoaa
