/- A window shares its memory with the bytes, and what is appended to it runs into nothing. -/
import Derived.Test.YtdchpilghgnnoaaL5
import Derived.ArgAppend
namespace Go.Eng
open Go Go.RowKit
section
variable {P : Program} {w w' : World} {base e n c : Nat} {A : Option Addr} {xs : List Value}
theorem IdxVC.ownAt {m off : Nat} {i : Int} {F : Addr → Prop} (hown : w.ownsRow base e 1 (.slice A n c) n xs) (h0 : 0 ≤ i) (h1 : off + i.toNat < n) (h2 : i < m)
    (hF : ∀ a, w.cell? a = xs[off + i.toNat]? → (∀ v K, v.oneCell' = true → (∀ w', w'.heap.size = w.heap.size → Mod (fun k => some k = (Value.slice A n c).ownBlock) w w' → w'.ownsRow base e 1 (.slice A n c) n (xs.set (off + i.toNat) v) → K w') → SetVC w a v K) → F a) :
    IdxVC (A.map (·.add off)) m 1 i F := by
  have hidx : IdxVC A n 1 ((off + i.toNat : Nat) : Int) F := IdxVC.own hown (by omega) (by omega) (by omega) fun a ha hset => by
    rw [Int.toNat_natCast] at ha hset
    exact hF a ha hset
  obtain ⟨a, ha, _, _, hf⟩ := hidx
  subst ha
  refine ⟨a.add off, rfl, h0, h2, ?_⟩
  rw [add_add]
  rwa [Int.toNat_natCast, Nat.mul_one, ← Nat.mul_one i.toNat] at hf
/-- append onto a slice that is full: new memory. -/
theorem AppVC.full {t ty : TypeId} {z : Value} {bytes : Nat} (ht : P.underlying t = some (.slice e)) (hi : TypeIs P e z 1 bytes) (hzs : z.cells.size = 1)
    {m c' g : Nat} {news : List Value} {F : Option Addr → Nat → Nat → World → Prop}
    (hd : Cells w A xs) (hl : xs.length = n) (hsrc : Blk w g e news) (hm : news.length = m) (h0 : 0 < m) (h1 : ∀ u ∈ news, u.oneCell' = true) (hbytes : (n + m) * bytes ≤ 140737488355328) (hb0 : 0 < bytes)
    (h : ∀ A2 c2 w', w'.ownsRow w.heap.size e 1 (.slice A2 (n + m) c2) (n + m) (xs ++ news) → Ext w w' → F A2 (n + m) c2 w') :
    AppVC P #[t, t] ty (.slice A n n) (.slice (some ⟨g, 0, none⟩) m c') w F := by
  obtain ⟨i, hi, hz, hs, hy⟩ := hi
  have hsc : Cells w (some ⟨g, 0, none⟩) news := by simpa using Cells.of_blk hsrc 0
  rcases A with _ | a
  · have hx : xs = [] := by
      rcases xs with _ | ⟨u, r⟩
      · rfl
      · obtain ⟨_, ha, _⟩ := hd 0 u rfl
        cases ha
    subst hx
    have hn0 : n = 0 := by simpa using hl.symm
    subst hn0
    refine AppVC.own ht hi hz hs hy hzs (by decide) (World.ownsRow_nil _ _ _ _) hsc (by omega) h1 hbytes hb0 (Nat.le_refl _) fun A2 c2 w2 hown hm2 _ => ?_
    exact h A2 c2 w2 hown (hm2.mono fun k hk e => by simp [Value.ownBlock] at e)
  · have h63 : n + m ≤ maxLen := by
      have : (n + m) * 1 ≤ (n + m) * bytes := Nat.mul_le_mul_left _ hb0
      simp only [maxLen]; omega
    obtain ⟨v', w', hr, ho, hg⟩ := run_append_arg_grows (P := P) (w := w) t ty e i z 1 bytes ht hi hz hs hy hzs (by decide) a n n xs (by omega)
      (fun j u hu => by obtain ⟨a', ha, hc⟩ := hd j u hu; cases ha; exact hc) ⟨g, 0, none⟩ m c' news (by omega)
      (fun j u hu => by obtain ⟨a', ha, hc⟩ := hsc j u hu; cases ha; exact hc) (by omega) h63 hbytes
    obtain ⟨A2, c2, rfl, _, _⟩ := own_form ho
    exact ⟨A2, n + m, c2, w', hr, h A2 c2 w' ho ((Mod.grown hg).mono fun k hk e => by cases e)⟩
theorem map_add_zero (A : Option Addr) : A.map (·.add 0) = A := by cases A <;> simp [add_zero]
end
end Go.Eng
namespace Go.Proofs.Ytdchpilghgnnoaa
open Go.Eng Go.RowKit

/-- The room, as it stands: its length, its bytes, its tail. -/
structure Room (w : World) (base : Nat) (A : Option Addr) (c n : Nat) (L : List Int) : Prop where
  own : w.ownsRow base 5 1 (.slice A (n + 75) c) (n + 75) (L.map (.int .u8))
  len : L.length = n + 75
  bts : Bts L
  tail : L.drop n = wideTail 75
  cap : n + 75 ≤ c
section
variable {w w' : World} {base n c p k : Nat} {A : Option Addr} {L : List Int}
theorem Room.ext (h : Room w base A c n L) (hE : Ext w w') : Room w' base A c n L := { h with own := own_ext h.own hE }
theorem Room.grow {w0 : World} (h : Room w w0.heap.size A c n L) (hE : Ext w0 w) (hm : Mod (fun k => some k = (Value.slice A (n + 75) c).ownBlock) w w') : Ext w0 w' := Ext.own hE h.own hm
theorem Room.set (h : Room w base A c n L) {q : Nat} {v : Int} (hq : q < n) (h0 : 0 ≤ v) (h1 : v < 256) (hown : w'.ownsRow base 5 1 (.slice A (n + 75) c) (n + 75) ((L.map (.int .u8)).set q (.int .u8 v))) : Room w' base A c n (L.set q v) := by
  rw [map_set] at hown
  refine ⟨hown, by simpa using h.len, h.bts.set _ h0 h1, ?_, h.cap⟩
  rw [List.drop_set_of_lt hq, h.tail]
theorem Room.cells (h : Room w base A c n L) : Cells w A ((L.take n).map (.int .u8)) := by
  have := (own_cells h.own).take n
  rwa [← List.map_take] at this
theorem Room.take_len (h : Room w base A c n L) : (L.take n).length = n := by rw [List.length_take, h.len]; omega
/-- A place of it is read. -/
theorem Room.read (h : Room w base A c n L) {m off : Nat} {i : Int} {F : Addr → Prop} (h0 : 0 ≤ i) (h1 : off + i.toNat < n) (h2 : i < m) (hF : ∀ a, w.cell? a = some (.int .u8 (L.getD (off + i.toNat) 0)) → F a) : IdxVC (A.map (·.add off)) m 1 i F := by
  have hl := h.len
  refine IdxVC.ownAt h.own h0 (by omega) h2 fun a ha _ => hF a ?_
  rw [ha, List.getElem?_map, List.getElem?_eq_getElem (by omega)]
  simp [show off + i.toNat < L.length by omega]
end
theorem mark_wrap (i : Nat) : IntKind.u8.wrap (IntKind.i64.wrap (7 + Int.tmod (i : Int) 200)) = 7 + ((i % 200 : Nat) : Int) := by
  have e : Int.tmod (i : Int) 200 = ((i % 200 : Nat) : Int) := by rw [Int.tmod_eq_emod_of_nonneg (by omega)]; omega
  rw [e, w64 (by omega) (by omega), wu8 (by omega) (by omega)]
theorem getD_take (L : List Int) {q n : Nat} (h : q < n) : (L.take n).getD q 0 = L.getD q 0 := by
  simp [List.getD_eq_getElem?_getD, h]
theorem getD_set_eq (L : List Int) {q : Nat} (v : Int) (h : q < L.length) : (L.set q v).getD q 0 = v := by simp [h]
theorem getD_set_ne (L : List Int) {q r : Nat} (v : Int) (h : q ≠ r) : (L.set q v).getD r 0 = L.getD r 0 := by simp [h]

/-- The last part: a cursor's window over the rest, written full and lengthened. -/
theorem shares_end {w0 w : World} {A : Option Addr} {c n k : Nat} {lo : Int} {L : List Int} {at_ : Int} {x0A x0A1 : Option Addr} (hE : Ext w0 w) (hR : Room w w0.heap.size A c n L) (hn : n ≤ 1048576)
    (hw : Cells w x0A (((L.drop at_.toNat).take k).map (.int .u8))) (hk : ((L.drop at_.toNat).take k).length = k) (hkn : k ≤ n) (hz : Cells w x0A1 ((L.take n).map (.int .u8))) :
    weirlaw1_ViewShares_J2047 (fun e w' => e = .returned (.bool true) ∧ Ext w0 w') n (k : Int) lo A (n + 75) c A n c x0A k k x0A1 n n w := by
  unfold weirlaw1_ViewShares_J2047
  have hl := hR.len
  have hcap := hR.cap
  refine (join_spec (ys := []) (zs := []) (own_cells hR.own) (Cells.nil _ _) (Cells.nil _ _) hl rfl rfl (by simp; omega)).mono ?_
  rintro _ w13 ⟨hE13, A3, c3, rfl, hc3, hown3⟩
  rw [List.append_nil, List.append_nil] at hown3
  refine ⟨_, _, _, rfl, ?_⟩
  refine NewVC.blk fun g1 w14 hg1 hz14 hE14 hb1 => ?_
  refine AppVC.full Try.underlying22 tyByte rfl ((hw.ext hE13).ext hE14) (by simpa using hk) hb1 rfl (by decide) (by simp [Value.oneCell']) (by omega) (by decide) fun A4 c4 w15 hown4 hE15 => ?_
  refine NewVC.blk fun g2 w16 hg2 hz16 hE16 hb2 => ?_
  have hEx := ((hE13.ext hE14).ext hE15).ext hE16
  refine AppVC.full Try.underlying22 tyByte rfl (hw.ext hEx) (by simpa using hk) hb2 rfl (by decide) (by simp [Value.oneCell']) (by omega) (by decide) fun A5 c5 w17 hown5 hE17 => ?_
  refine NewVC.blk fun g3 w18 hg3 hz18 hE18 hb3 => ?_
  have hEy := (hEx.ext hE17).ext hE18
  refine AppVC.full Try.underlying22 tyByte rfl (hz.ext hEy) (by simpa using hR.take_len) hb3 rfl (by decide) (by simp [Value.oneCell']) (by omega) (by decide) fun A6 c6 w19 hown6 hE19 => ?_
  have hE119 : Ext w w19 := hEy.ext hE19
  refine Br.no (by rw [w64 (by omega) (by omega)]; omega) (Br.no (by rw [w64 (by omega) (by omega)]; omega) (Br.no (by rw [w64 (by omega) (by omega)]; omega) ?_))
  have hR := hR.ext hE119
  refine (same_spec (own_cells hR.own) (own_cells (own_ext hown3 ((((((hE14.ext hE15).ext hE16).ext hE17).ext hE18).ext hE19)))) hl (by omega) hR.bts hR.bts).mono ?_
  rintro _ w20 ⟨rfl, rfl⟩
  refine ⟨_, rfl, Br.f (by simp) ?_⟩
  have hltA : ∀ k, (Value.slice A (n + 75) c).ownBlock = some k → k < w19.heap.size := fun k hk => (hR.own.lt k hk).2
  refine (At_spec (w := w19)).mono ?_
  rintro _ w21 ⟨hE21, rfl, hbc⟩
  have hR := hR.ext hE21
  have hE021 : Ext w0 w21 := (hE.ext hE119).ext hE21
  have hcw := hR.take_len
  refine ⟨_, rfl, Br.f rfl (Br.dec (fun _ => ⟨rfl, hE021⟩) (fun hlo => Br.dec (fun _ => ⟨rfl, hE021⟩) (fun hhi => ?_)))⟩
  have hgc : w19.heap.size < w21.heap.size := hbc.lt
  have hs0 := (hE.ext hE119).size
  refine (curSkip_spec (k := lo) hbc hR.cells hcw (by omega) (by omega)).mono ?_
  rintro _ w22 ⟨hm22, rfl, hbc⟩
  have e1 : (winS (L.take n) 0 lo).2 = 0 := by unfold winS; rw [if_pos (by omega)]
  rw [e1] at hbc ⊢
  have e2 : nextAt 0 0 lo = lo := by unfold nextAt; rw [if_pos rfl]; omega
  rw [e2] at hbc
  have hE022 : Ext w0 w22 := hE021.trans' hm22 fun k hk e => by omega
  have hR : Room w22 w0.heap.size A c n L := { hR with own := own_mod hR.own hm22 fun k hk e => by have := hltA k hk; omega }
  refine ⟨_, rfl, ?_⟩
  rw [w64 (n := (n : Int) - lo) (by omega) (by omega)]
  refine (curWindow_spec (k := (n : Int) - lo) hbc hR.cells hcw (by omega) (by omega)).mono ?_
  rintro _ w23 ⟨hm23, ⟨A7, c7, rfl, rfl, hA7, -⟩, hbc⟩
  have hE023 : Ext w0 w23 := hE022.trans' hm23 fun k hk e => by omega
  have hR : Room w23 w0.heap.size A c n L := { hR with own := own_mod hR.own hm23 fun k hk e => by have := hltA k hk; omega }
  have ew : winS (L.take n) lo ((n : Int) - lo) = (((L.take n).drop lo.toNat).take ((n : Int) - lo).toNat, 0) := by unfold winS; rw [if_pos (by omega)]
  have hrl : (winS (L.take n) lo ((n : Int) - lo)).1.length = n - lo.toNat := by rw [ew]; simp only [List.length_take, List.length_drop]; omega
  have ew2 : (winS (L.take n) lo ((n : Int) - lo)).2 = 0 := by rw [ew]
  rw [hrl] at hA7
  rw [hrl, ew2]
  obtain ⟨q, rfl⟩ := Int.eq_ofNat_of_zero_le (show 0 ≤ lo by omega)
  rw [Int.toNat_natCast] at hA7 hrl ⊢
  refine ⟨_, _, _, _, rfl, ?_⟩
  refine (num_spec _ w23).mono ?_
  rintro _ w24 ⟨rfl, rfl⟩
  refine ⟨_, rfl, Br.no (by decide) ?_⟩
  refine (num_spec _ w23).mono ?_
  rintro _ w25 ⟨rfl, rfl⟩
  refine ⟨_, rfl, Br.no (by decide) (Br.no (by omega) ?_)⟩
  refine LoopVC.of (fun i w' => Ext w0 w' ∧ ∃ (j : Nat) (L' : List Int), i = (j : Int) ∧ j ≤ n - q ∧ Room w' w0.heap.size A c n L' ∧ ∀ r, r < j → L'.getD (q + r) 0 = 5) (fun i _ => ((n - q : Nat) - i).toNat) ⟨hE023, 0, L, rfl, by omega, hR, fun r hr => by omega⟩ ?_
  rintro _ w26 ⟨hE26, j, L', rfl, hj, hR, h5⟩
  show weirlaw1_ViewShares_L33554426 _ n (q : Int) A (n + 75) c A n A7 (n - q) (n - q) (j : Int) w26 _
  unfold weirlaw1_ViewShares_L33554426
  have hl' := hR.len
  refine Br.dec (fun hlt => ?_) (fun hge => ?_)
  · rw [hA7 (by omega)]
    refine IdxVC.ownAt hR.own (by omega) (by omega) hlt fun a _ hset => ?_
    refine hset _ _ rfl fun w27 hz27 hm27 hown27 => ?_
    rw [Int.toNat_natCast] at hown27
    have hR2 := hR.set (by omega) (by decide) (by decide) hown27
    rw [w64 (by omega) (by omega)]
    refine ⟨⟨hR.grow hE26 hm27, j + 1, _, by omega, by omega, hR2, fun r hr => ?_⟩, by omega⟩
    by_cases e : r = j
    · subst e; exact getD_set_eq _ _ (by omega)
    · rw [getD_set_ne _ _ (by omega)]; exact h5 r (by omega)
  · have hjq : j = n - q := by omega
    subst hjq
    have hwc : Cells w26 A7 (((L'.drop q).take (n - q)).map (.int .u8)) := by
      by_cases h0 : n - q = 0
      · rw [h0]; simpa using Cells.nil _ _
      · rw [hA7 (by omega)]
        have := (own_cells hR.own).win (p := (q : Int)) (k := ((n - q : Nat) : Int))
        rw [if_neg (by omega), Int.toNat_natCast, Int.toNat_natCast] at this
        rw [List.map_take, List.map_drop]; exact this
    refine NewVC.blk fun g4 w28 hg4 hz28 hE28 hb4 => ?_
    refine AppVC.full Try.underlying22 tyByte rfl (hwc.ext hE28) (by simp; omega) hb4 rfl (by decide) (by simp [Value.oneCell']) (by omega) (by decide) fun A8 c8 w29 hown8 hE29 => ?_
    have hR := (hR.ext hE28).ext hE29
    have hE029 := (hE26.ext hE28).ext hE29
    refine LoopVC.of (fun i w' => w29 = w' ∧ ∃ j : Nat, i = ((q + j : Nat) : Int) ∧ q + j ≤ n) (fun i _ => ((n : Int) - i).toNat) ⟨rfl, 0, by simp, by omega⟩ ?_
    rintro _ w30 ⟨rfl, j, rfl, hj⟩
    show weirlaw1_ViewShares_L134217722 _ n A (n + 75) c A n (n - q) (n - q + 1) ((q + j : Nat) : Int) w29 _
    unfold weirlaw1_ViewShares_L134217722
    refine Br.dec (fun hlt => ?_) (fun hge => ?_)
    · refine IdxVC.int hR.cells (by omega) hlt hR.take_len fun a ha => ⟨_, ha, Br.no ?_ ?_⟩
      · rw [Int.toNat_natCast, getD_take _ (by omega), h5 j (by omega)]; decide
      · rw [w64 (by omega) (by omega)]
        exact ⟨⟨rfl, j + 1, by omega, by omega⟩, by omega⟩
    · intro w31 hw31
      have hE31 : Ext w29 w31 := by subst hw31; exact Ext.drew w29
      refine ⟨fun _ => True, trivial, Br.yes (by rw [w64 (by omega) (by omega)]; omega) ⟨by omega, by omega, ?_⟩⟩
      rw [Int.toNat_natCast, if_neg (by omega)]
      refine (roomy_spec (n := 0) (bs := []) (Cells.nil w31 _) rfl (by omega)).mono ?_
      rintro _ w32 ⟨hE32, A9, c9, rfl, hc9, hown9⟩
      refine ⟨_, _, _, rfl, trivial, ?_⟩
      have htl : Cells w32 (A.map (·.add (n * 1))) ((wideTail 75).map (.int .u8)) := by
        have := ((own_cells (hR.own)).drop n (c := n + 1 + (n + 75)) (by simp; omega) 1 (.inl rfl))
        rw [if_neg (by omega), ← List.map_drop, hR.tail] at this
        exact (this.ext hE31).ext hE32
      refine (same_spec htl (own_cells hown9) (by simp [wideTail]) (by simp [wideTail]) (wideTail_bts 75) (by simpa using wideTail_bts 75)).mono ?_
      rintro _ w33 ⟨rfl, rfl⟩
      exact ⟨_, rfl, trivial, by rw [decide_eq_true (by simp)], (hE029.ext hE31).ext hE32⟩

theorem Room.win {w : World} {base n c : Nat} {A : Option Addr} {L : List Int} (hR : Room w base A c n L) {x0A : Option Addr} (p k : Nat) (hx : 0 < k → x0A = A.map (·.add p)) : Cells w x0A (((L.drop p).take k).map (.int .u8)) := by
  by_cases h0 : k = 0
  · rw [h0]; simpa using Cells.nil _ _
  · rw [hx (by omega)]
    have := (own_cells hR.own).win (p := (p : Int)) (k := (k : Int))
    rw [if_neg (by omega), Int.toNat_natCast, Int.toNat_natCast] at this
    rw [List.map_take, List.map_drop]; exact this
theorem shares_law {A : Option Addr} {n c : Nat} {bs : List Int} {at_ k place lo : Int} {w : World} (hb : Cells w A (bs.map (.int .u8))) (hl : bs.length = n) (hB : Bts bs) (hn : n ≤ 1048576) :
    Calls Try.prog 8 #[.slice A n c, .int .i64 at_, .int .i64 k, .int .i64 place, .int .i64 lo] w fun e w' => e = .returned (.bool true) ∧ Ext w w' := by
  refine weirlaw1_ViewShares_of A n c at_ k place lo w _ ?_
  unfold weirlaw1_ViewShares_VC
  refine (roomy_spec hb hl (by omega)).mono ?_
  rintro _ w1 ⟨hE1, A1, c1, rfl, hc1, hown1⟩
  have hR : Room w1 w.heap.size A1 c1 n (bs ++ wideTail 75) := ⟨hown1, by simp [wideTail]; omega, bts_append hB (wideTail_bts 75), by rw [← hl, List.drop_left], hc1⟩
  have htk : (bs ++ wideTail 75).take n = bs := by rw [← hl, List.take_left]
  refine ⟨_, _, _, rfl, by omega, by omega, ?_⟩
  rw [Int.toNat_natCast]
  have hcl := hR.cells
  rw [htk] at hcl
  refine (window_fn hcl hl (by omega) (by omega)).mono ?_
  rintro _ w2 ⟨hE2, A2, rfl, -, hA2⟩
  refine ⟨_, _, _, _, rfl, ?_⟩
  refine (window_fn (hcl.ext hE2) hl (by omega) (by omega)).mono ?_
  rintro _ w3 ⟨hE3, A3, rfl, -, hA3⟩
  have e3 : winS bs 0 (n : Int) = (bs, 0) := by
    unfold winS
    rw [if_pos (by omega), Int.toNat_natCast, ← hl]; simp
  rw [e3] at hA3 ⊢
  simp only at hA3 ⊢
  rw [hl] at hA3 ⊢
  refine ⟨_, _, _, _, rfl, ?_⟩
  refine (num_spec _ w3).mono ?_
  rintro _ w4 ⟨rfl, rfl⟩
  refine ⟨_, rfl, Br.no (by decide) (Br.no (by omega) ?_)⟩
  refine (started_spec w3).mono ?_
  rintro _ w5 ⟨hE5, rfl⟩
  refine ⟨_, rfl, Br.f rfl ?_⟩
  refine (num_spec _ w5).mono ?_
  rintro _ w6 ⟨rfl, rfl⟩
  have hE05 := ((hE1.ext hE2).ext hE3).ext hE5
  refine ⟨_, rfl, Br.dec (fun hne => ⟨?_, hE05⟩) (fun he => ?_)⟩
  · have : winS bs at_ k = ([], if k < 0 then 1 else 10) := by
      unfold winS at hne ⊢
      split
      · rename_i h; rw [if_pos h] at hne; simp at hne
      · rfl
    rw [this]; rfl
  have hr := winS_range bs at_ k (by omega)
  have e2 : winS bs at_ k = ((bs.drop at_.toNat).take k.toNat, 0) := by unfold winS; rw [if_pos (by omega)]
  have hk2 : (winS bs at_ k).1.length = k.toNat := by rw [e2]; simp only [List.length_take, List.length_drop]; omega
  rw [hk2] at hA2 ⊢
  obtain ⟨m, rfl⟩ := Int.eq_ofNat_of_zero_le hr.1
  obtain ⟨p, rfl⟩ := Int.eq_ofNat_of_zero_le hr.2.1
  rw [Int.toNat_natCast, Int.toNat_natCast] at hA2
  rw [Int.toNat_natCast]
  have hA3' : 0 < n → A3 = A1 := fun h => by have := hA3 h; rwa [Int.toNat_zero, map_add_zero] at this
  have hzc : ∀ {w' : World} {L : List Int}, Room w' w.heap.size A1 c1 n L → Cells w' A3 ((L.take n).map (.int .u8)) := fun {w' L} hR => by
    by_cases h0 : n = 0
    · rw [h0]; simpa using Cells.nil _ _
    · rw [hA3' (by omega)]; exact hR.cells
  refine Br.no (by omega) (Br.no (by omega) (Br.no (by omega) (Br.no (by rw [w64 (by omega) (by omega)]; omega) ?_)))
  have hR := ((hR.ext hE2).ext hE3).ext hE5
  refine LoopVC.of (fun i w' => Ext w w' ∧ ∃ (j : Nat) (L : List Int), i = (j : Int) ∧ j ≤ m ∧ Room w' w.heap.size A1 c1 n L ∧ ∀ r, r < j → L.getD (p + r) 0 = 7 + ((r % 200 : Nat) : Int)) (fun i _ => ((m : Int) - i).toNat) ⟨hE05, 0, _, rfl, by omega, hR, fun r hr => by omega⟩ ?_
  rintro _ w7 ⟨hE7, j, L, rfl, hj, hR, hmk⟩
  show weirlaw1_ViewShares_L4090 _ n (p : Int) (m : Int) place lo A1 (n + 75) c1 A1 n c1 A2 m m A3 n n (j : Int) w7 _
  unfold weirlaw1_ViewShares_L4090
  have hlL := hR.len
  refine Br.dec (fun hlt => ?_) (fun hge => ?_)
  · rw [hA2 (by omega)]
    refine IdxVC.ownAt hR.own (by omega) (by omega) hlt fun a _ hset => ?_
    refine hset _ _ rfl fun w8 hz8 hm8 hown8 => ?_
    rw [mark_wrap] at hown8
    rw [Int.toNat_natCast] at hown8
    have hR2 := hR.set (by omega) (by omega) (by omega) hown8
    rw [w64 (by omega) (by omega)]
    refine ⟨⟨hR.grow hE7 hm8, j + 1, _, by omega, by omega, hR2, fun r hr => ?_⟩, by omega⟩
    by_cases e : r = j
    · subst e; exact getD_set_eq _ _ (by omega)
    · rw [getD_set_ne _ _ (by omega)]; exact hmk r (by omega)
  have hjm : j = m := by omega
  subst hjm
  have hend : ∀ w' L', Ext w w' → Room w' w.heap.size A1 c1 n L' → weirlaw1_ViewShares_J2047 (fun e w' => e = .returned (.bool true) ∧ Ext w w') n (j : Int) lo A1 (n + 75) c1 A1 n c1 A2 j j A3 n n w' := fun w' L' hE' hR' => by
    have h1 := hR'.len
    exact shares_end (at_ := (p : Int)) hE' hR' hn (by rw [Int.toNat_natCast]; exact hR'.win p j hA2) (by simp; omega) (by omega) (hzc hR')
  refine LoopVC.of (fun i w' => w7 = w' ∧ ∃ r : Nat, i = (r : Int) ∧ r ≤ j) (fun i _ => ((j : Int) - i).toNat) ⟨rfl, 0, rfl, by omega⟩ ?_
  rintro _ w9 ⟨rfl, r, rfl, hr'⟩
  show weirlaw1_ViewShares_L8186 _ n (p : Int) (j : Int) place lo A1 (n + 75) c1 A1 n c1 A2 j j A3 n n (r : Int) w7 _
  unfold weirlaw1_ViewShares_L8186
  refine Br.dec (fun hlt => ?_) (fun hge => ?_)
  · have epr : (p : Int) + r = ((p + r : Nat) : Int) := by omega
    rw [w64 (n := (p : Int) + r) (by omega) (by omega), epr, mark_wrap]
    have hgd : (L.take n).getD (p + r) 0 = 7 + ((r % 200 : Nat) : Int) := by rw [getD_take _ (by omega)]; exact hmk r (by omega)
    refine IdxVC.int hR.cells (by omega) (by omega) hR.take_len fun a ha => ⟨_, ha, Br.no ?_ ?_⟩
    · rw [Int.toNat_natCast, hgd]; simp
    refine IdxVC.int (hzc hR) (by omega) (by omega) hR.take_len fun a ha => ⟨_, ha, Br.no ?_ ?_⟩
    · rw [Int.toNat_natCast, hgd]; simp
    rw [w64 (by omega) (by omega)]
    exact ⟨⟨rfl, r + 1, by omega, by omega⟩, by omega⟩
  · refine JoinVC.of (fun _ w' => ∃ L', Ext w w' ∧ Room w' w.heap.size A1 c1 n L') ?_ (fun _ w12 ⟨L', hE', hR'⟩ => hend w12 L' hE' hR')
    refine JoinVC.of (fun b w' => w7 = w' ∧ (b = true → 0 ≤ place ∧ place < j)) (Br.dec (fun h0 => ⟨rfl, fun h => ⟨h0, by simpa using h⟩⟩) (fun _ => ⟨rfl, fun h => by cases h⟩)) ?_
    rintro b w10 ⟨rfl, hp⟩
    unfold weirlaw1_ViewShares_J4094
    refine Br.intro (fun hb => ?_) (fun _ => ⟨L, hE7, hR⟩)
    obtain ⟨hp0, hp1⟩ := hp hb
    obtain ⟨q, rfl⟩ := Int.eq_ofNat_of_zero_le hp0
    have epq : (p : Int) + q = ((p + q : Nat) : Int) := by omega
    rw [w64 (n := (p : Int) + q) (by omega) (by omega), epq]
    refine IdxVC.own hR.own (by omega) (by omega) (by omega) fun a _ hset => ?_
    refine hset _ _ rfl fun w11 hz11 hm11 hown11 => ?_
    rw [Int.toNat_natCast] at hown11
    have hR2 := hR.set (by omega) (by decide) (by decide) hown11
    have hgd : (L.set (p + q) 6).getD (p + q) 0 = 6 := getD_set_eq _ _ (by omega)
    rw [hA2 (by omega)]
    refine hR2.read (by omega) (by omega) hp1 fun a ha => ⟨_, ha, Br.no ?_ ?_⟩
    · rw [Int.toNat_natCast, hgd]; decide
    refine IdxVC.int (hzc hR2) (by omega) (by omega) hR2.take_len fun a ha => ⟨_, ha, Br.no ?_ ?_⟩
    · rw [Int.toNat_natCast, getD_take _ (by omega), hgd]; decide
    exact ⟨_, hR.grow hE7 hm11, hR2⟩
end Go.Proofs.Ytdchpilghgnnoaa
