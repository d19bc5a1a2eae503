/- Neighbour discovery there and back: IcmpNdBack. -/
import Derived.Test.YtjngdcilnipjcaaDoorNd6
namespace Go.Eng
open Go Go.RowKit
theorem flagsND (n : NDV) : flagS (restND n) 2147483648 = n.r ∧ flagS (restND n) 1073741824 = n.s ∧ flagS (restND n) 536870912 = n.o := by
  unfold restND
  generalize n.r = r
  generalize n.s = s
  generalize n.o = o
  cases r <;> cases s <;> cases o <;> decide
theorem restND_bound (n : NDV) : 0 ≤ restND n ∧ restND n ≤ 4294967295 := by
  unfold restND
  generalize n.r = r
  generalize n.s = s
  generalize n.o = o
  cases r <;> cases s <;> cases o <;> decide
theorem badND_flags {n : NDV} (h : badND n = false) (hk : n.kind = 1) : n.r = false ∧ n.s = false ∧ n.o = false := by
  unfold badND at h
  simp [hk] at h
  exact ⟨h.1.1, h.1.2.1, h.1.2.2⟩
theorem macZ_iff (n : NDV) : macZ n = true ↔ n.m0 = 0 ∧ n.m1 = 0 ∧ n.m2 = 0 ∧ n.m3 = 0 ∧ n.m4 = 0 ∧ n.m5 = 0 := by
  simp [macZ]
theorem badND_mac {n : NDV} (h : badND n = false) (hh : n.h = false) : macZ n = true := by
  unfold badND at h
  simp [hh] at h
  exact h.2.2
theorem target_six {p : IPV} (h : targetS p = true) : p.v = 6 := by
  unfold targetS at h
  simp at h
  exact h.1
theorem ipOf_app {p : IPV} (h6 : p.v = 6) (r : List Int) : ipOf (p.bytes ++ r) = p := by
  obtain ⟨v, a0, a1, a2, a3, a4, a5, a6, a7, a8, a9, a10, a11, a12, a13, a14, a15⟩ := p
  simp only at h6
  subst h6
  rfl
theorem NDV.ext' {a b : NDV} (h1 : a.kind = b.kind) (h2 : a.p = b.p) (h3 : a.r = b.r) (h4 : a.s = b.s) (h5 : a.o = b.o) (h6 : a.h = b.h) (h7 : a.mac = b.mac) : a = b := by
  obtain ⟨k, p, r, s, o, h, m0, m1, m2, m3, m4, m5⟩ := a
  obtain ⟨k', p', r', s', o', h', n0, n1, n2, n3, n4, n5⟩ := b
  simp only [NDV.mac, List.cons.injEq, and_true] at h7
  simp only at h1 h2 h3 h4 h5 h6
  simp only [NDV.mk.injEq]
  exact ⟨h1, h2, h3, h4, h5, h6, h7⟩
/-- What PutND makes, ParseND reads as it was. -/
theorem parse_put {n : NDV} {A : Option Addr} {k : Nat} (h0 : putE n = 0) : checkS (putM n A k) = 0 ∧ parseND (putM n A k) (putD n) = (n, 0) := by
  obtain ⟨hbad, ht⟩ := putE_zero h0
  have h6 := target_six ht
  have hk := badND_kind hbad
  have hr := restND_bound n
  have hlen : (dataND n).length = 16 ∨ (dataND n).length = 24 := by
    rw [dataND_len]; cases n.h
    · exact .inl rfl
    · exact .inr rfl
  have hM : putM n A k = ⟨6, 134 + n.kind, 0, restND n, A, (dataND n).length, k⟩ := by unfold putM; rw [if_pos h0]
  have hD : putD n = dataND n := by unfold putD; rw [if_pos h0]
  have hck : checkS (putM n A k) = 0 := by
    rw [hM]; unfold checkS
    rw [if_neg (by show ¬ ((6 : Int) ≠ 4 ∧ (6 : Int) ≠ 6); omega), if_neg (by show ¬ (134 + n.kind < 0 ∨ 255 < 134 + n.kind ∨ (0 : Int) < 0 ∨ (255 : Int) < 0 ∨ restND n < 0 ∨ 4294967295 < restND n); omega), if_neg (by show ¬ (65507 < (dataND n).length); omega)]
  refine ⟨hck, ?_⟩
  have hip : ipOf (dataND n) = n.p := ipOf_app h6 _
  have hf := flagsND n
  have hhead : headND (putM n A k) (dataND n) = ⟨n.kind, n.p, n.r, n.s, n.o, false, 0, 0, 0, 0, 0, 0⟩ := by
    rw [hM]; unfold headND
    simp only
    rw [hip, hf.1, hf.2.1, hf.2.2, show (134 : Int) + n.kind - 134 = n.kind by omega]
    rcases hk with h1 | h2
    · obtain ⟨a, b, c⟩ := badND_flags hbad h1
      rw [a, b, c]; simp
    · rw [decide_eq_true (by omega)]; simp
  unfold parseND
  rw [hD, if_neg (by omega), if_neg (by rw [hM]; show ¬ ((6 : Int) ≠ 6 ∨ (134 + n.kind ≠ 135 ∧ 134 + n.kind ≠ 136) ∨ (0 : Int) ≠ 0); omega), if_neg (by omega), hip, ht, if_pos rfl, hhead]
  cases hh : n.h with
  | false =>
    have hz := (macZ_iff n).1 (badND_mac hbad hh)
    have hdd : (dataND n).drop 16 = [] := by unfold dataND; rw [hh]; rfl
    rw [hdd, optS_nil]
    have : (⟨n.kind, n.p, n.r, n.s, n.o, false, 0, 0, 0, 0, 0, 0⟩ : NDV) = n := NDV.ext' rfl rfl rfl rfl rfl hh.symm (by simp [NDV.mac, hz])
    rw [this]
  | true =>
    have hdd : (dataND n).drop 16 = [n.kind, 1, n.m0, n.m1, n.m2, n.m3, n.m4, n.m5] := by unfold dataND; rw [hh]; rfl
    have hl : (dataND n).length = 24 := by rw [dataND_len, hh]; rfl
    rw [hdd, hl]
    unfold optS
    rw [if_neg (by show ¬ ((8 : Nat) = 0); decide), if_neg (by show ¬ ((8 : Nat) = 1 ∨ (1 : Int) = 0 ∨ ((8 : Nat) : Int) < 8 * 1); omega), if_pos (by rfl), if_neg (by show ¬ (1 : Int) ≠ 1; omega)]
    show optS 23 (withMac _ _) [] = _
    rw [optS_nil]
    have : withMac ⟨n.kind, n.p, n.r, n.s, n.o, false, 0, 0, 0, 0, 0, 0⟩ [n.kind, 1, n.m0, n.m1, n.m2, n.m3, n.m4, n.m5] = n := NDV.ext' rfl rfl rfl rfl rfl hh.symm rfl
    rw [this]
/-- What the options leave alone. -/
theorem optS_ok : ∀ (f : Nat) (N : NDV) (b : List Int) (a : NDV), optS f N b = (a, 0) → Bts b → Bts N.mac → a.kind = N.kind ∧ a.p = N.p ∧ a.r = N.r ∧ a.s = N.s ∧ a.o = N.o ∧ (a.h = false → a.mac = N.mac) ∧ Bts a.mac ∧ (N.h = true → a.h = true)
  | 0, N, b, a, h, _, hM => by
    simp only [optS, Prod.mk.injEq, and_true] at h
    subst h
    exact ⟨rfl, rfl, rfl, rfl, rfl, fun _ => rfl, hM, id⟩
  | f + 1, N, b, a, h, hB, hM => by
    unfold optS at h
    by_cases h0 : b.length = 0
    · rw [if_pos h0] at h
      simp only [Prod.mk.injEq, and_true] at h
      subst h
      exact ⟨rfl, rfl, rfl, rfl, rfl, fun _ => rfl, hM, id⟩
    rw [if_neg h0] at h
    by_cases h1 : b.length = 1 ∨ b.getD 1 0 = 0 ∨ (b.length : Int) < 8 * b.getD 1 0
    · rw [if_pos h1] at h; simp at h
    rw [if_neg h1] at h
    by_cases h2 : b.getD 0 0 = N.kind
    · rw [if_pos h2] at h
      by_cases h3 : b.getD 1 0 ≠ 1
      · rw [if_pos h3] at h; simp at h
      rw [if_neg h3] at h
      cases hh : N.h with
      | true =>
        rw [hh, if_pos rfl] at h
        have := optS_ok f N _ a h (hB.drop _) hM
        rw [hh] at this
        exact this
      | false =>
        rw [hh, if_neg (by decide)] at h
        have hW : Bts (withMac N b).mac := fun x hx => by
          simp only [withMac, NDV.mac, List.mem_cons, List.not_mem_nil, or_false] at hx
          rcases hx with rfl | rfl | rfl | rfl | rfl | rfl <;> exact bts_getD hB _
        obtain ⟨r1, r2, r3, r4, r5, r6, r7, r8⟩ := optS_ok f (withMac N b) _ a h (hB.drop _) hW
        exact ⟨r1, r2, r3, r4, r5, fun h' => (by rw [r8 rfl] at h'; cases h'), r7, fun h' => by cases h'⟩
    · rw [if_neg h2] at h
      exact optS_ok f N _ a h (hB.drop _) hM
theorem optS_err : ∀ (f : Nat) (N : NDV) (b : List Int), (optS f N b).2 ≠ 0 → (optS f N b).1 = zeroND
  | 0, N, b, h => by simp [optS] at h
  | f + 1, N, b, h => by
    unfold optS at h ⊢
    split
    · rename_i h0; rw [if_pos h0] at h; simp at h
    · rename_i h0
      rw [if_neg h0] at h
      split
      · rfl
      · rename_i h1
        rw [if_neg h1] at h
        split
        · rename_i h2
          rw [if_pos h2] at h
          split
          · rfl
          · rename_i h3
            rw [if_neg h3] at h
            exact optS_err f _ _ h
        · rename_i h2
          rw [if_neg h2] at h
          exact optS_err f _ _ h
theorem parse_err {m : MsgV} {data : List Int} (h : (parseND m data).2 ≠ 0) : (parseND m data).1 = zeroND := by
  unfold parseND at h ⊢
  split
  · rfl
  · rename_i h0
    rw [if_neg h0] at h
    split
    · rfl
    · rename_i h1
      rw [if_neg h1] at h
      split
      · rfl
      · rename_i h2
        rw [if_neg h2] at h
        split
        · rename_i h3
          rw [if_pos h3] at h
          exact optS_err _ _ _ h
        · rfl
/-- What ParseND reads, PutND makes. -/
theorem parse_ok {m : MsgV} {data : List Int} (hB : Bts data) (h : (parseND m data).2 = 0) : putE (parseND m data).1 = 0 ∧ Bts (parseND m data).1.p.bytes ∧ Bts (parseND m data).1.mac ∧ (1 ≤ (parseND m data).1.kind ∧ (parseND m data).1.kind ≤ 2) := by
  by_cases h0 : checkS m ≠ 0
  · have : (parseND m data).2 = checkS m := by unfold parseND; rw [if_pos h0]
    rw [this] at h; exact absurd h h0
  by_cases h1 : m.v ≠ 6 ∨ (m.t ≠ 135 ∧ m.t ≠ 136) ∨ m.c ≠ 0
  · have : (parseND m data).2 = 83 := by unfold parseND; rw [if_neg h0, if_pos h1]
    rw [this] at h; cases h
  by_cases h2 : data.length < 16
  · have : (parseND m data).2 = 84 := by unfold parseND; rw [if_neg h0, if_neg h1, if_pos h2]
    rw [this] at h; cases h
  cases ht : targetS (ipOf data) with
  | false =>
    have : (parseND m data).2 = 86 := by unfold parseND; rw [if_neg h0, if_neg h1, if_neg h2, ht]; rfl
    rw [this] at h; cases h
  | true =>
    have hp : parseND m data = optS data.length (headND m data) (data.drop 16) := by unfold parseND; rw [if_neg h0, if_neg h1, if_neg h2, ht, if_pos rfl]
    generalize hq : parseND m data = q at h
    obtain ⟨a, e⟩ := q
    simp only at h ⊢
    subst h
    rw [hp] at hq
    obtain ⟨r1, r2, r3, r4, r5, r6, r7, r8⟩ := optS_ok _ _ _ a hq (hB.drop _) (by intro x hx; simp [headND, NDV.mac] at hx; omega)
    have hk : a.kind = m.t - 134 := r1
    have hbad : badND a = false := by
      unfold badND
      have b1 : (decide (a.kind ≠ 1) && decide (a.kind ≠ 2)) = false := by
        by_cases h : a.kind = 1
        · rw [decide_eq_false (by omega : ¬ a.kind ≠ 1)]; rfl
        · rw [decide_eq_false (by omega : ¬ a.kind ≠ 2), Bool.and_false]
      have b2 : (decide (a.kind = 1) && (a.r || (a.s || a.o))) = false := by
        by_cases h : a.kind = 1
        · have h136 : ¬ m.t = 136 := by omega
          have e3 : a.r = false := by rw [r3]; unfold headND; rw [decide_eq_false h136]; rfl
          have e4 : a.s = false := by rw [r4]; unfold headND; rw [decide_eq_false h136]; rfl
          have e5 : a.o = false := by rw [r5]; unfold headND; rw [decide_eq_false h136]; rfl
          rw [e3, e4, e5]; simp
        · rw [decide_eq_false h]; rfl
      have b3 : (!a.h && !macZ a) = false := by
        cases hh : a.h with
        | true => rfl
        | false =>
          have hm := r6 hh
          simp only [headND, NDV.mac, List.cons.injEq, and_true] at hm
          rw [(macZ_iff a).2 hm]; rfl
      rw [b1, b2, b3]; rfl
    have hat : targetS a.p = true := by rw [r2]; exact ht
    refine ⟨by unfold putE; rw [hbad, hat]; rfl, ?_, r7, by omega⟩
    rw [r2]
    exact ipOf_bts hB
end Go.Eng
namespace Go.Proofs.YtjngdcilnipjcaaDoor
namespace Nd
open Go.Eng Go.RowKit
section
variable {w : World}
theorem dataND_bts {n : NDV} (hB : Bts n.p.bytes) (hM : Bts n.mac) (h0 : putE n = 0) : Bts (putD n) := by
  have hk := badND_kind (putE_zero h0).1
  have hD : putD n = dataND n := by unfold putD; rw [if_pos h0]
  rw [hD]
  unfold dataND
  intro x hx
  rcases List.mem_append.1 hx with h | h
  · exact hB x h
  · cases hh : n.h with
    | false => rw [hh] at h; simp at h
    | true =>
      rw [hh, if_pos rfl] at h
      rcases List.mem_append.1 h with h | h
      · simp at h; omega
      · exact hM x h
set_option maxHeartbeats 2000000 in
set_option maxRecDepth 20000 in
theorem ndBack_law {n : NDV} {m : MsgV} {data : List Int} (hB : Bts n.p.bytes) (hM : Bts n.mac) (hk : -9223372036854775808 ≤ n.kind ∧ n.kind ≤ 9223372036854775807) (hd : Cells w m.A (data.map (.int .u8))) (hl : data.length = m.n) (hDB : Bts data) (hmk : m.n ≤ m.k) (hn : m.n ≤ 1048576) (hT : Tab w) :
    Calls Tryd.prog 5 #[n.val, m.val] w fun e w' => e = .returned (.bool true) ∧ Ext w w' := by
  refine weirlaw8_IcmpNdBack_of n.kind n.p.v n.p.a0 n.p.a1 n.p.a2 n.p.a3 n.p.a4 n.p.a5 n.p.a6 n.p.a7 n.p.a8 n.p.a9 n.p.a10 n.p.a11 n.p.a12 n.p.a13 n.p.a14 n.p.a15 n.r n.s n.o n.h n.m0 n.m1 n.m2 n.m3 n.m4 n.m5 m.v m.t m.c m.r m.A m.n m.k w _ ?_
  unfold weirlaw8_IcmpNdBack_VC
  refine NewVC.blk fun g1 w1 hg1 hz1 hE1 hb1 => NewVC.blk fun g2 w2 hg2 hz2 hE2 hb2 => ?_
  have hb1 : Blk w2 g1 35 n.cells := hb1.ext hE2
  have hb2 : Blk w2 g2 24 m.cells := hb2
  have hE02 := hE1.ext hE2
  refine (neighbours_spec (hT.ext hE02)).mono ?_
  rintro _ w3 ⟨hE3, rfl⟩
  have hE03 := hE02.ext hE3
  have hb1 := hb1.ext hE3
  have hb2 := hb2.ext hE3
  refine ⟨_, rfl, Br.f rfl ⟨_, _, _, _, _, _, _, _, _, _, _, _, _, _, _, _, _, _, _, _, _, _, _, _, _, _, _, _, CellsAt.blk hb1, ?_⟩⟩
  refine (PutND_spec hB hM hk (hT.ext hE03)).mono ?_
  rintro _ w4 ⟨hE4, A, k, rfl, hownA⟩
  have hE04 := hE03.ext hE4
  have hpv : ∀ (n : NDV) A k, (putM n A k).val = .agg #[.int .i64 (putM n A k).v, .int .i64 (putM n A k).t, .int .i64 (putM n A k).c, .int .i64 (putM n A k).r, .slice A (putD n).length k] := fun n A k => by
    unfold putM putD MsgV.val
    by_cases h : putE n = 0
    · simp only [h, if_true]
    · simp only [h, if_false]; rfl
  have s3 := hE3.size
  have s4 := hE4.size
  have s03 := hE03.size
  refine ⟨_, _, _, _, _, _, _, _, by rw [hpv], ?_⟩
  refine NewVC.blk fun g3 w5 hg3 hz5 hE5 hb3 => ?_
  have hMc : ∀ (n : NDV) A k, [.int .i64 (putM n A k).v, .int .i64 (putM n A k).t, .int .i64 (putM n A k).c, .int .i64 (putM n A k).r, .slice A (putD n).length k] = (putM n A k).cells := fun n A k => by
    unfold putM putD MsgV.cells
    by_cases h : putE n = 0
    · simp only [h, if_true]
    · simp only [h, if_false]; rfl
  have hMn : ∀ (n : NDV) A k, (putM n A k).n = (putD n).length ∧ (putM n A k).A = A ∧ (putM n A k).k = k := fun n A k => by
    unfold putM putD
    by_cases h : putE n = 0
    · simp only [h, if_true, and_self]
    · simp only [h, if_false, and_self, List.length_nil]
  have hDl : ∀ n : NDV, (putD n).length ≤ 24 := fun n => by
    unfold putD
    split
    · rw [dataND_len]; split <;> decide
    · exact Nat.zero_le _
  refine setAll [.int .i64 (putM n A k).v, .int .i64 (putM n A k).t, .int .i64 (putM n A k).c, .int .i64 (putM n A k).r, .slice A (putD n).length k] 0 w5 _ _ hb3 rfl fun w6 hz6 hm6 hb6 => ?_
  have hb6 : Blk w6 g3 24 (putM n A k).cells := by rw [← hMc]; exact hb6
  have hE46 : Ext w4 w6 := hE5.set hm6 (by omega)
  have hE06 := hE04.ext hE46
  have hb16 := (hb1.ext hE4).ext hE46
  have hb26 := (hb2.ext hE4).ext hE46
  have hownA6 := own_ext hownA hE46
  have ckOf : ∀ {w' : World} {base : Nat} {n : NDV} {A : Option Addr} {k : Nat}, w'.ownsRow base 5 1 (.slice A (putD n).length k) (putD n).length ((putD n).map (.int .u8)) → (putD n).length ≤ k := fun h => by
    obtain ⟨_, _, hv, hle, _⟩ := own_form h
    injection hv with _ _ h3
    omega
  refine JoinVC.of (fun _ w' => Ext w6 w') ?_ ?_
  · refine Br.dec (fun h0 => ?_) fun _ => Mod.refl _ _
    have hpp := parse_put (A := A) (k := k) h0
    refine ⟨_, _, _, _, _, _, _, CellsAt.blk hb6, ?_⟩
    refine (ParseND_spec (m := putM n A k) (data := putD n) (by rw [(hMn n A k).2.1]; exact own_cells hownA6) (hMn n A k).1.symm (dataND_bts hB hM h0) (by rw [(hMn n A k).1, (hMn n A k).2.2]; exact ckOf hownA6) (by rw [(hMn n A k).1]; have := hDl n; omega) (hT.ext hE06)).mono ?_
    rintro _ w7 ⟨hE7, rfl⟩
    rw [hpp.2]
    refine ⟨_, _, _, _, _, _, _, _, _, _, _, _, _, _, _, _, _, _, _, _, _, _, _, _, _, _, _, _, _, rfl, ?_⟩
    have s7 := hE7.size
    refine NewVC.blk fun g4 w8 hg4 hz8 hE8 hb8 => ?_
    refine setAll n.cells 0 w8 _ _ hb8 rfl fun w9 hz9 hm9 hb9 => ?_
    have hb9 : Blk w9 g4 35 n.cells := hb9
    have hE79 : Ext w7 w9 := hE8.set hm9 (by omega)
    have hE69 := hE7.ext hE79
    refine Br.no (A := False) (p := (0 : Int) ≠ 0) (by decide) ?_
    refine ⟨_, _, _, _, _, _, _, _, _, _, _, _, _, _, _, _, _, _, _, _, _, _, _, _, _, _, _, _, CellsAt.blk hb9, _, _, _, _, _, _, _, _, _, _, _, _, _, _, _, _, _, _, _, _, _, _, _, _, _, _, _, _, CellsAt.blk (hb16.ext hE69), Br.f (by show (!(eqND n n)) = false; rw [eqND_refl]; rfl) ?_⟩
    refine ⟨_, _, _, _, _, _, _, CellsAt.blk (hb6.ext hE69), ?_⟩
    refine (check_spec (putM n A k) (by rw [(hMn n A k).1]; have := hDl n; omega)).mono ?_
    rintro _ w10 ⟨hE10, rfl⟩
    exact ⟨_, rfl, Br.no (fun h => h hpp.1) (hE69.ext hE10)⟩
  rintro _ w7 hE67
  have hE07 := hE06.ext hE67
  have hb27 := hb26.ext hE67
  have hb67 := hb6.ext hE67
  unfold weirlaw8_IcmpNdBack_J15
  refine ⟨_, _, _, _, _, _, _, CellsAt.blk hb27, ?_⟩
  refine (ParseND_spec (m := m) (data := data) (hd.ext hE07) hl hDB hmk hn (hT.ext hE07)).mono ?_
  rintro _ w8 ⟨hE8, rfl⟩
  refine ⟨_, _, _, _, _, _, _, _, _, _, _, _, _, _, _, _, _, _, _, _, _, _, _, _, _, _, _, _, _, rfl, ?_⟩
  have s8 := hE8.size
  have s67 := hE67.size
  refine NewVC.blk fun g5 w9 hg5 hz9 hE9 hb9 => ?_
  refine setAll (parseND m data).1.cells 0 w9 _ _ hb9 rfl fun w10 hz10 hm10 hb10 => ?_
  have hb10 : Blk w10 g5 35 (parseND m data).1.cells := hb10
  have hE810 : Ext w8 w10 := hE9.set hm10 (by omega)
  have hE710 := hE8.ext hE810
  have hE010 := hE07.ext hE710
  refine Br.dec (fun he => ?_) fun he => ?_
  · refine ⟨_, _, _, _, _, _, _, _, _, _, _, _, _, _, _, _, _, _, _, _, _, _, _, _, _, _, _, _, CellsAt.blk hb10, ?_, hE010⟩
    have hz := parse_err he
    rw [hz]
    rfl
  have he : (parseND m data).2 = 0 := by omega
  obtain ⟨hp0, hpB, hpM, hpk⟩ := parse_ok hDB he
  generalize (parseND m data).1 = a at hb10 hp0 hpB hpM hpk ⊢
  have hpp := fun A k => parse_put (A := A) (k := k) hp0
  refine ⟨_, _, _, _, _, _, _, _, _, _, _, _, _, _, _, _, _, _, _, _, _, _, _, _, _, _, _, _, CellsAt.blk hb10, ?_⟩
  refine (PutND_spec (n := a) hpB hpM ⟨by omega, by omega⟩ (hT.ext hE010)).mono ?_
  rintro _ w11 ⟨hE11, A2, k2, rfl, hownA2⟩
  refine ⟨_, _, _, _, _, _, _, _, by rw [hpv], ?_⟩
  have hb611 := ((hb67.ext hE710).ext hE11)
  refine setAll [.int .i64 (putM a A2 k2).v, .int .i64 (putM a A2 k2).t, .int .i64 (putM a A2 k2).c, .int .i64 (putM a A2 k2).r, .slice A2 (putD a).length k2] 0 w11 _ _ hb611 rfl fun w12 hz12 hm12 hb12 => ?_
  have hb12 : Blk w12 g3 24 (putM a A2 k2).cells := by rw [← hMc]; exact hb12
  have s04 := hE04.size
  have hE012 : Ext w w12 := (hE010.ext hE11).set hm12 (by omega)
  have hownA12 := own_mod hownA2 hm12 (own_ty hownA2 hb611 (by decide))
  have l6 := hb6.lt
  have hb512 := (hb10.ext hE11).mod hm12 (by show ¬ g5 = g3; omega)
  refine ⟨_, _, _, _, _, _, _, CellsAt.blk hb12, ?_⟩
  refine (ParseND_spec (m := putM a A2 k2) (data := putD a) (by rw [(hMn a A2 k2).2.1]; exact own_cells hownA12) (hMn a A2 k2).1.symm (dataND_bts hpB hpM hp0) (by rw [(hMn a A2 k2).1, (hMn a A2 k2).2.2]; exact ckOf hownA12) (by rw [(hMn a A2 k2).1]; have := hDl a; omega) (hT.ext hE012)).mono ?_
  rintro _ w13 ⟨hE13, rfl⟩
  rw [(hpp A2 k2).2]
  refine ⟨_, _, _, _, _, _, _, _, _, _, _, _, _, _, _, _, _, _, _, _, _, _, _, _, _, _, _, _, _, rfl, ?_⟩
  have s13 := hE13.size
  refine NewVC.blk fun g6 w14 hg6 hz14 hE14 hb14 => ?_
  refine setAll a.cells 0 w14 _ _ hb14 rfl fun w15 hz15 hm15 hb15 => ?_
  have hb15 : Blk w15 g6 35 a.cells := hb15
  have hE1315 : Ext w13 w15 := hE14.set hm15 (by omega)
  have hE1215 := hE13.ext hE1315
  refine Br.yes hp0 (Br.yes rfl ⟨_, _, _, _, _, _, _, _, _, _, _, _, _, _, _, _, _, _, _, _, _, _, _, _, _, _, _, _, CellsAt.blk (hb512.ext hE1215), _, _, _, _, _, _, _, _, _, _, _, _, _, _, _, _, _, _, _, _, _, _, _, _, _, _, _, _, CellsAt.blk hb15, ?_, hE012.ext hE1215⟩)
  exact congrArg (fun b => Ending.returned (Value.bool b)) (eqND_refl a)
end
end Nd
end Go.Proofs.YtjngdcilnipjcaaDoor
