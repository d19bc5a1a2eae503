/- IcmpBack, without the row: messages there and back, but for the other zero. -/
import Derived.Test.YtjngdcilnipjcaaDoorIc7
namespace Go.Eng
open Go Go.RowKit
theorem foldS_comp {a : Int} (h : 0 ≤ a) : foldS (a + (65535 - foldS a)) = 65535 := by
  by_cases e : a = 0
  · subst e; decide
  · have h1 : foldS a = (a - 1) % 65535 + 1 := by unfold foldS; rw [if_neg e]
    rw [h1]; unfold foldS
    rw [if_neg (by omega)]; omega
theorem foldS_full {a s : Int} (ha : 0 ≤ a) (h0 : 0 ≤ s) (h1 : s ≤ 65535) (h : foldS (a + s) = 65535) : s = 65535 - foldS a ∨ (s = 65535 ∧ 65535 - foldS a = 0) := by
  by_cases e : a = 0
  · subst e
    left
    have : foldS (0 : Int) = 0 := rfl
    rw [this]
    rw [Int.zero_add, foldS_small h0 h1] at h
    omega
  · have h2 : foldS a = (a - 1) % 65535 + 1 := by unfold foldS; rw [if_neg e]
    rw [h2]
    unfold foldS at h
    rw [if_neg (by omega)] at h
    omega
theorem raw_head {t c s r : Int} {data : List Int} : rawS true (headS t c s r ++ data) = rawS true (headS t c 0 r ++ data) + s := by
  simp only [headS, List.cons_append, List.nil_append, rawS]
  omega
theorem raw_over {v : Int} {src dst : IPV} {t c s r : Int} {data : List Int} : rawS true (overS v src dst (headS t c s r ++ data)) = rawS true (overS v src dst (headS t c 0 r ++ data)) + s := by
  unfold overS
  have hl : (headS t c s r ++ data).length = (headS t c 0 r ++ data).length := by rw [List.length_append, List.length_append, headS_len, headS_len]
  split
  · exact raw_head
  · have e1 := rawS_append (pseudoL src dst ((headS t c s r ++ data).length : Int)) (headS t c s r ++ data) true
    have e2 := rawS_append (pseudoL src dst ((headS t c 0 r ++ data).length : Int)) (headS t c 0 r ++ data) true
    have ef : flipS true 40 = true := rfl
    rw [pseudoL_len, ef] at e1 e2
    rw [e1, e2, hl, raw_head (s := s)]; omega
theorem over_raw {v : Int} {src dst : IPV} {bs : List Int} (hs : Bts src.bytes) (hd : Bts dst.bytes) (hb : Bts bs) (hl : bs.length ≤ 65535) : 0 ≤ rawS true (overS v src dst bs) := by
  unfold overS
  split
  · exact (rawS_bound hb true).1
  · exact (rawS_bound ((pseudoL_bts hs hd (by omega) (by omega)).append hb) true).1
theorem rest_head {t c s r : Int} {data : List Int} (hr : 0 ≤ r ∧ r ≤ 4294967295) : restS (headS t c s r ++ data) = r := by
  unfold restS
  simp only [headS, List.cons_append, List.nil_append, List.getD_cons_succ, List.getD_cons_zero]
  omega
theorem parse_ser {m : MsgV} {src dst : IPV} {data : List Int} (h : (serS m src dst data).2 = 0) (hl : data.length = m.n) (hB : Bts data) (hs : Bts src.bytes) (hd : Bts dst.bytes) :
    parseS m.v src dst (serS m src dst data).1 = ⟨m.v, m.t, m.c, m.r, data, 0⟩ ∧ checkS m = 0 := by
  have hok : checkS m = 0 := by
    unfold serS at h
    split at h
    · exact h
    · rename_i he; exact Decidable.not_not.1 he
  have hfam : ¬ (m.v ≠ 4 ∧ ¬ (src.v = 6 ∧ dst.v = 6)) := by
    intro e
    unfold serS at h
    rw [if_neg (by simp [hok]), if_pos e] at h
    simp at h
  refine ⟨?_, hok⟩
  obtain ⟨hv, ht, hc, hr, hn⟩ := checkS_ok hok
  have e : serS m src dst data = (headS m.t m.c (65535 - sumS (overS m.v src dst (headS m.t m.c 0 m.r ++ data))) m.r ++ data, 0) := by unfold serS; rw [if_neg (by simp [hok]), if_neg hfam]
  rw [e]
  have hhB : Bts (headS m.t m.c 0 m.r ++ data) := (headS_bts ht hc ⟨by decide, by decide⟩ hr).append hB
  have hlen0 : (headS m.t m.c 0 m.r ++ data).length = 8 + m.n := by rw [List.length_append, headS_len, hl]
  have hraw := over_raw (v := m.v) hs hd hhB (by omega)
  have hsum : sumS (overS m.v src dst (headS m.t m.c (65535 - sumS (overS m.v src dst (headS m.t m.c 0 m.r ++ data))) m.r ++ data)) = 65535 := by
    unfold sumS
    rw [raw_over]
    exact foldS_comp hraw
  have hlen : (headS m.t m.c (65535 - sumS (overS m.v src dst (headS m.t m.c 0 m.r ++ data))) m.r ++ data).length = 8 + m.n := by rw [List.length_append, headS_len, hl]
  rw [parseS_ok (by omega) (by omega) hfam (by omega) hsum, rest_head hr]
  rfl
theorem head_split {L : List Int} (hB : Bts L) (hl : 8 ≤ L.length) : L = headS (L.getD 0 0) (L.getD 1 0) (L.getD 2 0 * 256 + L.getD 3 0) (restS L) ++ L.drop 8 ∧ (0 ≤ L.getD 0 0 ∧ L.getD 0 0 ≤ 255) ∧ (0 ≤ L.getD 1 0 ∧ L.getD 1 0 ≤ 255) ∧
    (0 ≤ L.getD 2 0 ∧ L.getD 2 0 ≤ 255) ∧ (0 ≤ L.getD 3 0 ∧ L.getD 3 0 ≤ 255) ∧ (0 ≤ restS L ∧ restS L ≤ 4294967295) := by
  match L, hl with
  | b0 :: b1 :: b2 :: b3 :: b4 :: b5 :: b6 :: b7 :: r, _ =>
    have q0 := hB b0 (by simp)
    have q1 := hB b1 (by simp)
    have q2 := hB b2 (by simp)
    have q3 := hB b3 (by simp)
    have q4 := hB b4 (by simp)
    have q5 := hB b5 (by simp)
    have q6 := hB b6 (by simp)
    have q7 := hB b7 (by simp)
    simp only [restS, headS, List.getD_cons_zero, List.getD_cons_succ, List.drop_succ_cons, List.drop_zero, List.cons_append, List.nil_append, List.cons.injEq, and_true, true_and]
    omega
theorem parseS_facts {v : Int} {src dst : IPV} {bs : List Int} (h : (parseS v src dst bs).err = 0) : (¬ 65515 < bs.length ∧ ¬ (v ≠ 4 ∧ v ≠ 6) ∧ ¬ (v ≠ 4 ∧ ¬ (src.v = 6 ∧ dst.v = 6)) ∧ ¬ bs.length < 8 ∧ sumS (overS v src dst bs) = 65535) := by
  unfold parseS at h
  split at h
  · simp [noneP] at h
  · split at h
    · simp [noneP] at h
    · split at h
      · simp [noneP] at h
      · split at h
        · simp [noneP] at h
        · split at h
          · simp [noneP] at h
          · rename_i h1 h2 h3 h4 h5
            exact ⟨h1, h2, h3, h4, Decidable.not_not.1 h5⟩
theorem parseS_bad {v : Int} {src dst : IPV} {bs : List Int} (h : (parseS v src dst bs).err ≠ 0) : ∃ k, parseS v src dst bs = noneP k := by
  unfold parseS at h ⊢
  split
  · exact ⟨_, rfl⟩
  · rename_i h1
    split
    · exact ⟨_, rfl⟩
    · rename_i h2
      split
      · exact ⟨_, rfl⟩
      · rename_i h3
        split
        · exact ⟨_, rfl⟩
        · rename_i h4
          split
          · exact ⟨_, rfl⟩
          · rename_i h5
            rw [if_neg h1, if_neg h2, if_neg h3, if_neg h4, if_neg h5] at h
            exact absurd rfl h
/-- What was read is written in the same bytes, but for the other zero. -/
theorem ser_parse {v : Int} {src dst : IPV} {L : List Int} {A : Option Addr} {k : Nat} (h : (parseS v src dst L).err = 0) (hB : Bts L) (hs : Bts src.bytes) (hd : Bts dst.bytes) :
    (serS ((parseS v src dst L).msg A k) src dst (parseS v src dst L).data).2 = 0 ∧ (serS ((parseS v src dst L).msg A k) src dst (parseS v src dst L).data).1.length = L.length ∧ 8 ≤ L.length ∧
      ((serS ((parseS v src dst L).msg A k) src dst (parseS v src dst L).data).1 = L ∨
       (L.getD 2 0 = 255 ∧ L.getD 3 0 = 255 ∧ (serS ((parseS v src dst L).msg A k) src dst (parseS v src dst L).data).1.getD 2 0 = 0 ∧ (serS ((parseS v src dst L).msg A k) src dst (parseS v src dst L).data).1.getD 3 0 = 0 ∧
        ((serS ((parseS v src dst L).msg A k) src dst (parseS v src dst L).data).1.set 2 255).set 3 255 = L)) := by
  obtain ⟨h1, h2, h3, h4, h5⟩ := parseS_facts h
  rw [parseS_ok h1 h2 h3 h4 h5]
  obtain ⟨hL, b0, b1, b2, b3, hr⟩ := head_split hB (by omega)
  have hdB : Bts (L.drop 8) := hB.drop 8
  generalize L.getD 0 0 = t at hL b0 ⊢
  generalize L.getD 1 0 = c at hL b1 ⊢
  generalize hx2 : L.getD 2 0 = x2 at hL b2 ⊢
  generalize hx3 : L.getD 3 0 = x3 at hL b3 ⊢
  generalize restS L = r at hL hr ⊢
  have hdl : (L.drop 8).length = L.length - 8 := List.length_drop
  generalize L.drop 8 = data at hL hdB hdl ⊢
  have hok : checkS (ParsedV.msg ⟨v, t, c, r, data, 0⟩ A k) = 0 := by
    unfold checkS ParsedV.msg
    rw [if_neg (by simpa using h2), if_neg (by simp only; omega), if_neg (by simp only; omega)]
  have e : serS (ParsedV.msg ⟨v, t, c, r, data, 0⟩ A k) src dst data = (headS t c (65535 - sumS (overS v src dst (headS t c 0 r ++ data))) r ++ data, 0) := by
    unfold serS; rw [if_neg (by simp [hok]), if_neg (show ¬ ((ParsedV.msg ⟨v, t, c, r, data, 0⟩ A k).v ≠ 4 ∧ ¬ (src.v = 6 ∧ dst.v = 6)) from h3)]; rfl
  simp only [e]
  have hhB : Bts (headS t c 0 r ++ data) := (headS_bts b0 b1 ⟨by decide, by decide⟩ hr).append hdB
  have hlen0 : (headS t c 0 r ++ data).length = L.length := by rw [List.length_append, headS_len]; omega
  have hraw := over_raw (v := v) hs hd hhB (by omega)
  have hfull : foldS (rawS true (overS v src dst (headS t c 0 r ++ data)) + (x2 * 256 + x3)) = 65535 := by
    have := h5
    rw [hL] at this
    unfold sumS at this
    rwa [raw_over] at this
  refine ⟨trivial, by rw [List.length_append, headS_len]; omega, by omega, ?_⟩
  rcases foldS_full hraw (by omega) (by omega) hfull with hs' | ⟨hs1, hs2⟩
  · left
    unfold sumS
    rw [← hs']; exact hL.symm
  · right
    unfold sumS
    rw [hs2]
    refine ⟨by omega, by omega, rfl, rfl, ?_⟩
    have e2 : x2 = 255 := by omega
    have e3 : x3 = 255 := by omega
    subst e2; subst e3
    exact hL.symm
theorem serS_bad {m : MsgV} {src dst : IPV} {data : List Int} (h : (serS m src dst data).2 ≠ 0) : (serS m src dst data).1 = [] := by
  unfold serS at h ⊢
  split
  · rfl
  · rename_i h1
    split
    · rfl
    · rename_i h2
      rw [if_neg h1, if_neg h2] at h
      exact absurd rfl h
end Go.Eng
namespace Go.Proofs.YtjngdcilnipjcaaDoor
open Go.Eng Go.RowKit

section
variable {w : World}
set_option maxHeartbeats 4000000 in
theorem back_law {v : Int} {src dst : IPV} {m : MsgV} {data : List Int} {A : Option Addr} {n c : Nat} {bs : List Int} (hd : Cells w m.A (data.map (.int .u8))) (hl : data.length = m.n) (hB : Bts data) (hn : m.n ≤ 1048576)
    (hb : Cells w A (bs.map (.int .u8))) (hbl : bs.length = n) (hbB : Bts bs) (hk : n ≤ c) (hbn : n ≤ 1048576) (hs : Bts src.bytes) (ht : Bts dst.bytes) :
    Calls Tryd.prog 8 #[.int .i64 v, src.val, dst.val, m.val, .slice A n c] w fun e w' => e = .returned (.bool true) ∧ Ext w w' := by
  refine weirlaw8_IcmpBack_of v src.v src.a0 src.a1 src.a2 src.a3 src.a4 src.a5 src.a6 src.a7 src.a8 src.a9 src.a10 src.a11 src.a12 src.a13 src.a14 src.a15
    dst.v dst.a0 dst.a1 dst.a2 dst.a3 dst.a4 dst.a5 dst.a6 dst.a7 dst.a8 dst.a9 dst.a10 dst.a11 dst.a12 dst.a13 dst.a14 dst.a15 m.v m.t m.c m.r m.A m.n m.k A n c w _ ?_
  unfold weirlaw8_IcmpBack_VC
  refine NewVC.blk fun g1 w1 hg1 hz1 hE1 hb1 => NewVC.blk fun g2 w2 hg2 hz2 hE2 hb2 => NewVC.blk fun g3 w3 hg3 hz3 hE3 hb3 => ?_
  refine awake_spec.mono ?_
  rintro _ w4 ⟨hE4, rfl⟩
  refine ⟨_, rfl, Br.f rfl ?_⟩
  have hE04 := ((hE1.ext hE2).ext hE3).ext hE4
  have hb1 := ((hb1.ext hE2).ext hE3).ext hE4
  have hb2 := (hb2.ext hE3).ext hE4
  have hb3 := hb3.ext hE4
  refine ⟨_, _, _, _, _, _, _, _, _, _, _, _, _, _, _, _, _, CellsAt.blk hb1, _, _, _, _, _, _, _, _, _, _, _, _, _, _, _, _, _, CellsAt.blk hb2, _, _, _, _, _, _, _, CellsAt.blk hb3, ?_⟩
  refine (serialise_spec (m := m) (src := src) (dst := dst) (data := data) (hd.ext hE04) hl hB (by omega) hs ht).mono ?_
  rintro _ w5 ⟨hE5, SA, sc, rfl, hownS⟩
  refine ⟨_, _, _, _, rfl, ?_⟩
  have hE05 := hE04.ext hE5
  refine JoinVC.of (fun _ w' => Ext w5 w') ?_ ?_
  · refine Br.dec (fun hok => ?_) (fun hbad => ?_)
    · obtain ⟨hp, hck⟩ := parse_ser hok hl hB hs ht
      have hSB := serS_bts (m := m) (src := src) (dst := dst) hB hs ht hl
      refine ⟨_, (hb3.ext hE5).cell 0, _, _, _, _, _, _, _, _, _, _, _, _, _, _, _, _, _, CellsAt.blk (hb1.ext hE5), _, _, _, _, _, _, _, _, _, _, _, _, _, _, _, _, _, CellsAt.blk (hb2.ext hE5), ?_⟩
      have hsc : (serS m src dst data).1.length ≤ sc := by
        obtain ⟨A', c', hv, hle, _⟩ := own_form hownS
        injection hv with _ _ hc
        omega
      refine (parse_spec (v := m.v) (src := src) (dst := dst) (own_cells hownS) rfl hSB hsc hs ht).mono ?_
      rintro _ w6 ⟨hE6, A', rfl, hcA, -⟩
      rw [hp] at hcA ⊢
      refine ⟨_, _, _, _, _, _, _, _, rfl, ?_⟩
      refine NewVC.blk fun g4 w7 hg4 hz7 hE7 hb4 => ?_
      refine set5 hb4 fun w12 hz12 hm12 hb4 => ?_
      have s5 := hE6.size
      have hE512 : Ext w5 w12 := (hE6.ext hE7).set hm12 (by omega)
      have hE612 : Ext w6 w12 := hE7.set hm12 (by omega)
      let q : MsgV := ⟨m.v, m.t, m.c, m.r, A', data.length, data.length⟩
      have hb4 : Blk w12 g4 24 q.cells := hb4
      have hb312 := (hb3.ext hE5).ext hE512
      refine Br.no (fun h => h rfl) ⟨_, _, _, _, _, _, _, CellsAt.blk hb4, _, _, _, _, _, _, _, CellsAt.blk hb312, ?_⟩
      refine (same8_spec (a := q) (b := m) (da := data) (db := data) (hcA.ext hE612) (hd.ext (hE05.ext hE512)) rfl hl (by show data.length ≤ _; omega)).mono ?_
      rintro _ w13 ⟨hE13, rfl⟩
      refine ⟨_, rfl, Br.f (by simp [q]) ⟨_, _, _, _, _, _, _, CellsAt.blk (hb312.ext hE13), ?_⟩⟩
      refine (check_spec m (by omega)).mono ?_
      rintro _ w14 ⟨hE14, rfl⟩
      exact ⟨_, rfl, Br.no (fun h => h hck) ((hE512.ext hE13).ext hE14)⟩
    · rw [serS_bad hbad]
      exact Br.no (by decide) (Mod.refl _ _)
  rintro _ w15 hE15
  have hE015 := hE05.ext hE15
  have hb115 := (hb1.ext hE5).ext hE15
  have hb215 := (hb2.ext hE5).ext hE15
  clear hownS hb3
  unfold weirlaw8_IcmpBack_J15
  refine (laid_spec (hb.ext hE015) hbl hk (by omega)).mono ?_
  rintro _ w16 ⟨hE16, W, wc, rfl, hownW⟩
  refine ⟨_, _, _, _, _, _, rfl, ?_⟩
  have hLl : (bs.take 66000).length ≤ 66000 := by rw [List.length_take]; omega
  have hLB : Bts (bs.take 66000) := hbB.take _
  generalize bs.take 66000 = L at hLl hLB hownW ⊢
  have hwc : L.length + 5 ≤ wc := by
    obtain ⟨A', c', hv, hle, _⟩ := own_form hownW
    injection hv with _ _ hc
    omega
  have hcL : ∀ {w' : World}, Ext w16 w' → Cells w' W (L.map (.int .u8)) := fun h => by
    have := (own_cells (own_ext hownW h)).take L.length
    simpa using this
  have hE016 := hE015.ext hE16
  refine ⟨_, _, _, _, _, _, _, _, _, _, _, _, _, _, _, _, _, CellsAt.blk (hb115.ext hE16), _, _, _, _, _, _, _, _, _, _, _, _, _, _, _, _, _, CellsAt.blk (hb215.ext hE16), ?_⟩
  refine (parse_spec (v := v) (src := src) (dst := dst) (hcL (Mod.refl _ _)) rfl hLB (by omega) hs ht).mono ?_
  rintro _ w17 ⟨hE17, A', rfl, hcA, -⟩
  have hsp := @ser_parse v src dst L A' (parseS v src dst L).data.length
  have hbad := @parseS_bad v src dst L
  have hql : (parseS v src dst L).data.length ≤ 66000 := by
    by_cases h0 : 0 < (parseS v src dst L).data.length
    · by_cases he : (parseS v src dst L).err = 0
      · obtain ⟨h1, h2, h3, h4, h5⟩ := parseS_facts he
        rw [parseS_ok h1 h2 h3 h4 h5]
        simp only [List.length_drop]; omega
      · obtain ⟨k, hk⟩ := hbad he
        rw [hk]; simp [noneP]
    · omega
  have hqB : Bts (parseS v src dst L).data := by
    by_cases he : (parseS v src dst L).err = 0
    · obtain ⟨h1, h2, h3, h4, h5⟩ := parseS_facts he
      rw [parseS_ok h1 h2 h3 h4 h5]
      exact hLB.drop 8
    · obtain ⟨k, hk⟩ := hbad he
      rw [hk]; exact fun _ h => by cases h
  generalize parseS v src dst L = q at hcA hsp hbad hql hqB ⊢
  refine ⟨_, _, _, _, _, _, _, _, rfl, ?_⟩
  refine NewVC.blk fun g5 w18 hg5 hz18 hE18 hb5 => ?_
  refine set5 hb5 fun w23 hz23 hm23 hb5 => ?_
  have hb5 : Blk w23 g5 24 (q.msg A' q.data.length).cells := hb5
  have s16 := hE17.size
  have hE1723 : Ext w17 w23 := hE18.set hm23 (by omega)
  have hE1623 := hE17.ext hE1723
  have hE023 := hE016.ext hE1623
  refine Br.dec (fun hne => ?_) (fun he => ?_)
  · obtain ⟨k, rfl⟩ := hbad hne
    refine ⟨_, _, _, _, _, _, _, CellsAt.blk hb5, ?_⟩
    refine (same8_spec (a := (noneP k).msg A' (noneP k).data.length) (b := ⟨0, 0, 0, 0, none, 0, 0⟩) (da := []) (db := []) (Cells.nil _ _) (Cells.nil _ _) rfl rfl (by show 0 ≤ 100000000; decide)).mono ?_
    rintro _ w24 ⟨hE24, rfl⟩
    exact ⟨_, rfl, by simp [noneP, ParsedV.msg], hE023.ext hE24⟩
  have he : q.err = 0 := Decidable.not_not.1 he
  obtain ⟨hs2, hsl, h8, hcase⟩ := hsp he hLB hs ht
  refine ⟨_, _, _, _, _, _, _, _, _, _, _, _, _, _, _, _, _, CellsAt.blk ((hb115.ext hE16).ext hE1623), _, _, _, _, _, _, _, _, _, _, _, _, _, _, _, _, _, CellsAt.blk ((hb215.ext hE16).ext hE1623), _, _, _, _, _, _, _, CellsAt.blk hb5, ?_⟩
  refine (serialise_spec (m := q.msg A' q.data.length) (src := src) (dst := dst) (data := q.data) (hcA.ext hE1723) rfl hqB (by show q.data.length ≤ _; omega) hs ht).mono ?_
  rintro _ w25 ⟨hE25, OA, oc, rfl, hownO⟩
  rw [hs2]
  refine ⟨_, _, _, _, rfl, Br.no (by decide) (Br.no (fun h => h (by rw [hsl])) ?_)⟩
  generalize (serS (q.msg A' q.data.length) src dst q.data).1 = out at hownO hsl hcase ⊢
  have hE1625 := hE1623.ext hE25
  have hE025 := hE023.ext hE25
  have s23 := hE023.size
  refine JoinVC.of (fun _ w' => Ext w16 w' ∧ Ext w w' ∧ w'.ownsRow w23.heap.size 5 1 (.slice OA out.length oc) out.length (L.map (.int .u8))) ?_ ?_
  · have stay : ∀ (h : ¬ (L.getD 2 0 = 255 ∧ L.getD 3 0 = 255 ∧ out.getD 2 0 = 0 ∧ out.getD 3 0 = 0)), Ext w16 w25 ∧ Ext w w25 ∧ w25.ownsRow w23.heap.size 5 1 (.slice OA out.length oc) out.length (L.map (.int .u8)) := fun h => by
      rcases hcase with e | ⟨a, b, c', d, _⟩
      · exact ⟨hE1625, hE025, by rw [← e] at *; exact hownO⟩
      · exact absurd ⟨a, b, c', d⟩ h
    refine IdxVC.int (hcL hE1625) (by decide) (by omega) rfl fun a ha => ⟨_, ha, Br.dec (fun h2 => ?_) (fun h2 => stay fun e => h2 e.1)⟩
    refine IdxVC.int (hcL hE1625) (by decide) (by omega) rfl fun a ha => ⟨_, ha, Br.dec (fun h3 => ?_) (fun h3 => stay fun e => h3 e.2.1)⟩
    refine IdxVC.int (own_cells hownO) (by decide) (by omega) rfl fun a ha => ⟨_, ha, Br.dec (fun o2 => ?_) (fun o2 => stay fun e => o2 e.2.2.1)⟩
    refine IdxVC.int (own_cells hownO) (by decide) (by omega) rfl fun a ha => ⟨_, ha, Br.dec (fun o3 => ?_) (fun o3 => stay fun e => o3 e.2.2.2)⟩
    refine IdxVC.own hownO (by decide) (by omega) (by omega) fun a _ hset => hset _ _ rfl fun w26 hz26 hm26 hown26 => ?_
    refine IdxVC.own hown26 (by decide) (by omega) (by omega) fun a _ hset => hset _ _ rfl fun w27 hz27 hm27 hown27 => ?_
    have hk : ∀ k, some k = (Value.slice OA out.length oc).ownBlock → w23.heap.size ≤ k := fun k hk => own_new hownO k hk.symm
    have hm := hm26.trans hm27
    refine ⟨hE1625.trans' hm fun k hk' e => by have := hk k e; have := hE1623.size; omega, hE025.trans' hm fun k hk' e => by have := hk k e; omega, ?_⟩
    have e : (out.set 2 255).set 3 255 = L := by
      rcases hcase with e | ⟨_, _, _, _, e⟩
      · exfalso
        rw [e] at o2
        have : L.getD 2 0 = 255 := h2
        have : L.getD 2 0 = 0 := o2
        omega
      · exact e
    have hown27 : w27.ownsRow w23.heap.size 5 1 (.slice OA out.length oc) out.length (((out.map (.int .u8)).set 2 (.int .u8 255)).set 3 (.int .u8 255)) := hown27
    rw [map_set, map_set, e] at hown27
    exact hown27
  rintro _ w28 ⟨hE1628, hE028, hown28⟩
  unfold weirlaw8_IcmpBack_J1023
  refine (same_spec (own_cells hown28) (hcL hE1628) hsl.symm rfl (by omega)).mono ?_
  rintro _ w29 ⟨hE29, rfl⟩
  exact ⟨_, rfl, by simp, hE028.ext hE29⟩
end
end Go.Proofs.YtjngdcilnipjcaaDoor
