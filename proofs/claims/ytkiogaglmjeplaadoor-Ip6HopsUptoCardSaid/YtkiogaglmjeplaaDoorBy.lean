/- What Parse read still reads so, as long as its own memory and the bytes stand. -/
import Derived.Test.YtkiogaglmjeplaaDoorBu
import Derived.Test.YtkiogaglmjeplaaDoorBw
import Derived.Test.YtkiogaglmjeplaaDoorBx
namespace Go.Proofs.YtkiogaglmjeplaaDoor
namespace N6
open Go.Eng Go.RowKit
section
variable {w : World} {s : Sl} {l : List Int}
theorem ParseRead.late (hBt : Bts l) (hn : l.length ≤ 4000000) {e : Ending} {w' : World} (h : ParseRead w s l e w') : ∃ (h : Ip6V) (xs : List ExtR), e = .returned (.tuple #[h.val, .int .i64 (parsed l).2]) ∧ Sep (Fct.rest w None :: readX w.heap.size h.exts xs) w' ∧
    ∃ data, h.d xs data = (parsed l).1 ∧ ∀ {w2 : World} {b : Nat}, (∀ f ∈ readX b h.exts xs, f.φ w2) → BytesAt w2 s l → Ip6At w2 h xs data := by
  obtain ⟨h, xs, H, hn, hm⟩ := h
  unfold parsed
  cases hp : parseS l with
  | error er =>
    rw [hp] at hm
    obtain ⟨rfl, rfl, rfl, he⟩ := hm
    exact ⟨Ip6V.z, [], rfl, H, [], rfl, fun _ _ => Ip6At.z _⟩
  | ok t =>
    rw [hp] at hm
    obtain ⟨rfl, h40, hA, hd, h1, h2, h3, h4, h5, h6, h7⟩ := hm
    have hp' : walkS (bpart l 40 (lenP l)) (l.getD 6 0) false = .ok t := by
      unfold parseS at hp
      split at hp
      · cases hp
      · split at hp
        · cases hp
        · split at hp
          · cases hp
          · split at hp
            · cases hp
            · exact hp
    have hWb : Bts (bpart l 40 (lenP l)) := (hBt.drop _).take _
    have hwl : (bpart l 40 (lenP l)).length = lenP l := bpart_len h40
    obtain ⟨i1, i2, i3, i4⟩ := walkS_inside hWb (getD_byte hBt 6) hp'
    have hal := hA.len
    refine ⟨h, xs, rfl, H, (bpart l 40 (lenP l)).drop t.p, ?_, fun {w2 b} hf hB => ?_⟩
    · unfold Ip6V.d Tail6.d
      rw [hA.map_eq fun x r h => h.d, h1, h2, h3, h4, h5, h6, h7]
      rfl
    have hW := (hB.win (p := 40) (n := lenP l) h40)
    have hdata := hW.win (p := t.p) (n := lenP l - t.p) (by omega)
    have hdl : bpart (bpart l 40 (lenP l)) t.p (lenP l - t.p) = (bpart l 40 (lenP l)).drop t.p := by
      have := bpart_end i2
      rwa [hwl] at this
    rw [hdl] at hdata
    refine ⟨extsAt_read hf hW hA i1 hn.symm (by omega), by rw [hd]; exact hdata, ?_, ?_⟩
    · rw [h4]; intro x hx
      have e := ipOf_back (v := 6) (l := bpart l 8 16) (bpart_len (by omega))
      rw [e] at hx
      exact (hBt.drop _).take _ x hx
    · rw [h5]; intro x hx
      have e := ipOf_back (v := 6) (l := bpart l 24 16) (bpart_len (by omega))
      rw [e] at hx
      exact (hBt.drop _).take _ x hx
theorem parse_late (hB : BytesAt w s l) (hK : Kn w) : Calls Tryd.prog 13 #[s.val] w fun e w' => ∃ (h : Ip6V) (xs : List ExtR), e = .returned (.tuple #[h.val, .int .i64 (parsed l).2]) ∧ Sep (Fct.rest w None :: readX w.heap.size h.exts xs) w' ∧
    ∃ data, h.d xs data = (parsed l).1 ∧ ∀ {w2 : World} {b : Nat}, (∀ f ∈ readX b h.exts xs, f.φ w2) → BytesAt w2 s l → Ip6At w2 h xs data :=
  (parse_spec hB hK).mono fun _ _ h => h.late hB.bts (by have := hB.len; have := hB.small; omega)
end
end N6
end Go.Proofs.YtkiogaglmjeplaaDoor
/- Chapter 7's laws: Ip6Hops. -/
namespace Go.Eng
open Go Go.RowKit
/-- The bytes behind j hops. -/
def cur7 (l : List Int) (j : Nat) : List Int := l.set 7 (l.getD 7 0 - j)
def Hopable (l : List Int) : Prop := 40 ≤ l.length ∧ l.getD 0 0 / 16 = 6
instance (l : List Int) : Decidable (Hopable l) := by unfold Hopable; infer_instance
theorem cur7_zero (l : List Int) : cur7 l 0 = l := by
  unfold cur7
  rcases Nat.lt_or_ge 7 l.length with h | h
  · have := set7_self h
    simpa using this
  · exact List.set_eq_of_length_le h
theorem cur7_len (l : List Int) (j : Nat) : (cur7 l j).length = l.length := by unfold cur7; simp
theorem cur7_seven {l : List Int} (h : 7 < l.length) (j : Nat) : (cur7 l j).getD 7 0 = l.getD 7 0 - j := getD_set7_self h
theorem cur7_bts {l : List Int} (hB : Bts l) {j : Nat} (h : (j : Int) ≤ l.getD 7 0 ∨ j = 0) : Bts (cur7 l j) := by
  rcases Nat.eq_zero_or_pos j with rfl | hj
  · rw [cur7_zero]; exact hB
  · intro y hy
    have b7 := getD_byte hB 7
    rcases List.mem_or_eq_of_mem_set hy with hy | hy
    · exact hB y hy
    · subst hy; omega
theorem hop_no {l : List Int} (h : ¬ Hopable l) : (hopS l).2 ≠ 0 := by
  unfold hopS
  unfold Hopable at h
  split
  · show (70 : Int) ≠ 0; decide
  · split
    · show (71 : Int) ≠ 0; decide
    · omega
theorem hop_cur {l : List Int} (h : Hopable l) (j : Nat) : hopS (cur7 l j) = if l.getD 7 0 - j < 2 then (cur7 l j, 77) else (cur7 l (j + 1), 0) := by
  have h7 : 7 < l.length := by unfold Hopable at h; omega
  have e0 : (cur7 l j).getD 0 0 = l.getD 0 0 := getD_set7 (by decide)
  unfold hopS
  unfold Hopable at h
  rw [cur7_len, if_neg (by omega), e0, if_neg (by omega), cur7_seven h7]
  split
  · rfl
  · have : (cur7 l j).set 7 (l.getD 7 0 - j - 1) = cur7 l (j + 1) := by
      unfold cur7
      rw [set_set7]
      congr 1
      omega
    rw [this]
end Go.Eng
namespace Go.Proofs.YtkiogaglmjeplaaDoor
namespace N6
open Go.Eng Go.RowKit
section
variable {w : World} {s : Sl} {l : List Int}
/-- As many hops as there can be. -/
def Done (l : List Int) (j : Nat) : Prop := if Hopable l then l.getD 7 0 - j < 2 ∧ (j = 0 ∨ (j : Int) + 1 ≤ l.getD 7 0) else j = 0
set_option maxHeartbeats 4000000 in
theorem hops_tail {w1 w17 : World} {g1 n c j : Nat} {c1 : List Value} {A : Option Addr} (hB : BytesAt w s l) (hE : Ext w w1) (hK : Kn w) (hj : Done l j) (hn : n = l.length)
    (H : Sep [Fct.rest w1 None, Fct.blk g1 30 c1, ownB w1.heap.size (.slice A n c) n (cur7 l j)] w17) :
    weirlaw7_Ip6Hops_J127 (fun e w' => e = .returned (.bool true) ∧ Ext w w') s.A s.n s.k A n c (j : Int) w17 := by
  unfold weirlaw7_Ip6Hops_J127
  have hl := hB.len
  have hs := hB.small
  have b0 := getD_byte hB.bts 0
  have b7 := getD_byte hB.bts 7
  have hX : ∀ {w'}, Ext w1 w' → Ext w w' := fun h => hE.trans h
  have e0 : l.getD (0 : Int).toNat 0 = l.getD 0 0 := rfl
  have e7 : l.getD (7 : Int).toNat 0 = l.getD 7 0 := rfl
  refine JoinVC.of (fun st w' => st = decide (¬ Hopable l) ∧ w' = w17) ?_ ?_
  · refine Br.dec (fun h => ⟨(decide_eq_true (by unfold Hopable; omega)).symm, rfl⟩) fun h => ?_
    refine IdxVC.int (k := .u8) (hB.ext (hX (H.restOf 0 rfl))).cells (by decide) (by omega) hl fun a ha => ⟨_, ha, ?_⟩
    rw [e0]
    refine Br.dec (fun h2 => ⟨(decide_eq_true (by unfold Hopable; omega)).symm, rfl⟩) fun h2 => ?_
    refine IdxVC.int (k := .u8) (hB.ext (hX (H.restOf 0 rfl))).cells (by decide) (by omega) hl fun a1 ha1 => ⟨_, ha1, ?_, rfl⟩
    rw [e0]
    exact decide_eq_decide.2 (by unfold Hopable; omega)
  rintro _ w18 ⟨rfl, hw18⟩
  subst w18
  unfold weirlaw7_Ip6Hops_J510
  unfold Done at hj
  refine Br.dec (fun hno => ?_) fun hyes => ?_
  · rw [if_neg hno] at hj
    subst hj
    rw [cur7_zero] at H
    refine (started7_spec (hK.ext (hX (H.restOf 0 rfl)))).mono ?_
    rintro _ w19 ⟨hE19, rfl⟩
    have H := H.ext hE19
    refine ⟨_, rfl, Br.t rfl (Br.yes rfl ?_)⟩
    have hw : BytesAt w19 ⟨A, n, c⟩ l := bytesAt_of (s := ⟨A, n, c⟩) (b := w1.heap.size) (H.own 2 rfl) ⟨by show n ≤ 4000000; omega, hB.bts⟩
    refine (alike7_spec (s := ⟨A, n, c⟩) hw (hB.ext (hX (H.restOf 0 rfl)))).mono ?_
    rintro _ w20 ⟨hw20, rfl⟩
    subst w20
    rw [decide_eq_true rfl]
    exact ⟨_, rfl, rfl, hX (H.restOf 0 rfl)⟩
  · have hho : Hopable l := Classical.not_not.1 hyes
    rw [if_pos hho] at hj
    have h40 := hho.1
    have h7 : 7 < l.length := by omega
    refine JoinVC.of (fun st w' => st = (j : Int) ∧ w' = w17) ?_ ?_
    · refine IdxVC.int (k := .u8) (hB.ext (hX (H.restOf 0 rfl))).cells (by decide) (by omega) hl fun a ha => ⟨_, ha, ?_⟩
      rw [e7]
      refine Br.dec (fun hp => ?_) fun hz => ⟨by omega, rfl⟩
      refine IdxVC.int (k := .u8) (hB.ext (hX (H.restOf 0 rfl))).cells (by decide) (by omega) hl fun a3 ha3 => ⟨_, ha3, ?_, rfl⟩
      rw [e7, w64 (n := l.getD 7 0) (by omega) (by omega), w64 (by omega) (by omega)]
      omega
    rintro _ w21 ⟨rfl, hw21⟩
    subst w21
    unfold weirlaw7_Ip6Hops_J1023
    have hcl := cur7_len l j
    refine DrawVC.sep H (fun w' => BytesAt w' s l ∧ Cells w' A ((cur7 l j).map (.int .u8))) fun w22 H => ⟨⟨hB.ext (hX (H.restOf 0 rfl)), H.cells 2 rfl⟩, Br.no (fun h => h rfl) ?_⟩
    have hS : BytesAt w22 s l ∧ Cells w22 A ((cur7 l j).map (.int .u8)) := ⟨hB.ext (hX (H.restOf 0 rfl)), H.cells 2 rfl⟩
    refine IdxVC.draw (k := .u8) (xs := cur7 l j) (w := w22) (S := fun w' => BytesAt w' s l ∧ Cells w' A ((cur7 l j).map (.int .u8))) hS (fun w' h => h.2) (by decide) (by omega) (by omega) fun a4 ha4 => ⟨_, ha4, ?_⟩
    refine IdxVC.draw (k := .u8) (xs := l) (w := w22) (S := fun w' => BytesAt w' s l ∧ Cells w' A ((cur7 l j).map (.int .u8))) hS (fun w' h => h.1.cells) (by decide) (by omega) hl fun a5 ha5 => ⟨_, ha5, ?_⟩
    have e7c : (cur7 l j).getD (7 : Int).toNat 0 = l.getD 7 0 - j := cur7_seven h7 j
    rw [e7, e7c, w64 (n := l.getD 7 0 - j) (by omega) (by omega), w64 (n := l.getD 7 0) (by omega) (by omega), w64 (by omega) (by omega)]
    refine Br.no (fun h => h rfl) ?_
    refine IdxVC.int (k := .u8) hS.1.cells (by decide) (by omega) hl fun a6 ha6 => ⟨_, ha6, ?_⟩
    rw [e7]
    refine IdxVC.sep H 2 rfl (by decide) (by omega) (by omega) fun a7 _ hset => hset _ _ rfl fun w23 H => ?_
    have e : ((cur7 l j).map (Value.int .u8)).set (7 : Int).toNat (.int .u8 (l.getD 7 0)) = l.map (.int .u8) := by
      rw [show (7 : Int).toNat = 7 from rfl, map_set]
      unfold cur7
      rw [set_set7, set7_self h7]
    rw [e] at H
    refine (started7_spec (hK.ext (hX (H.restOf 0 rfl)))).mono ?_
    rintro _ w24 ⟨hE24, rfl⟩
    have H := H.ext hE24
    refine ⟨_, rfl, Br.t rfl ?_⟩
    have hw : BytesAt w24 ⟨A, n, c⟩ l := bytesAt_of (s := ⟨A, n, c⟩) (b := w1.heap.size) (H.own 2 rfl) ⟨by show n ≤ 4000000; omega, hB.bts⟩
    refine (alike7_spec (s := ⟨A, n, c⟩) hw (hB.ext (hX (H.restOf 0 rfl)))).mono ?_
    rintro _ w25 ⟨hw25, rfl⟩
    subst w25
    rw [decide_eq_true rfl]
    exact ⟨_, rfl, rfl, hX (H.restOf 0 rfl)⟩
set_option maxRecDepth 100000 in
set_option maxHeartbeats 4000000 in
theorem hops6_law (hB : BytesAt w s l) (hn8 : s.n ≤ 1048576) (hK : Kn w) : Calls Tryd.prog 11 #[s.val] w fun e w' => e = .returned (.bool true) ∧ Ext w w' := by
  refine weirlaw7_Ip6Hops_of s.A s.n s.k w _ ?_
  unfold weirlaw7_Ip6Hops_VC
  have hl := hB.len
  have hs := hB.small
  have b7 := getD_byte hB.bts 7
  refine (parse_at hB hK).mono ?_
  rintro _ w1 ⟨h, xs, data, rfl, hd, hA, hE1⟩
  refine onRet_is (Ip6V.of h ⟨_, rfl, NewVC.sep (Sep.start0 w1) fun g1 w2 H => Stores.sep H 1 rfl (Ip6V.one h) (Nat.le_refl _) (splice_all rfl) fun w3 H => ?_⟩)
  have H := H.nil w1.heap.size 5 1
  refine appB (m := s.n) (xs := []) (ys := l) H 2 rfl (hB.ext (hE1.trans (H.restOf 0 rfl))).cells hl (by omega) (H.restOf 0 rfl).size fun A2 c2 w4 H _ => ?_
  rw [Nat.zero_add] at H ⊢
  have hX : ∀ {w'}, Ext w1 w' → Ext w w' := fun h => hE1.trans h
  refine (canonical_spec (hB.ext (hX (H.restOf 0 rfl))) (hK.ext (hX (H.restOf 0 rfl)))).mono ?_
  rintro _ w5 ⟨hE5, rfl⟩
  have H := H.ext hE5
  refine ⟨_, rfl, ?_⟩
  refine JoinVC.of (fun st w' => ∃ (j : Nat) (c1 : List Value), st = (j : Int) ∧ Done l j ∧ Sep [Fct.rest w1 None, Fct.blk g1 30 c1, ownB w1.heap.size (.slice A2 s.n c2) s.n (cur7 l j)] w') ?_ ?_
  · refine LoopVC.of (fun st w' => ∃ (j : Nat) (c1 : List Value), st = (j : Int) ∧ (j = 0 ∨ (Hopable l ∧ (j : Int) + 1 ≤ l.getD 7 0)) ∧ ((parsed l).2 = 0 → c1 = ({ h with hop := l.getD 7 0 - j } : Ip6V).cells) ∧
      Sep [Fct.rest w1 None, Fct.blk g1 30 c1, ownB w1.heap.size (.slice A2 s.n c2) s.n (cur7 l j)] w') (fun st _ => (300 - st).toNat) ⟨0, h.cells, rfl, .inl rfl, fun h0 => ?_, by rw [cur7_zero]; exact H⟩ ?_
    · cases hp : parseS l with
      | error er => rw [parsed_err hp] at h0; exact absurd h0 (parseS_ne hp)
      | ok t =>
        rw [parsed_ok hp] at hd
        have : h.hop = l.getD 7 0 := congrArg Ip6D.hop hd
        rw [← this]; simp
    rintro _ w6 ⟨j, c1, rfl, hj, hc1, H⟩
    unfold weirlaw7_Ip6Hops_L508
    have hjb : Bts (cur7 l j) := cur7_bts hB.bts (by omega)
    refine Br.yes (by omega) ?_
    refine (hop_spec (l := cur7 l j) (H.own 2 rfl) hjb (by omega)).mono ?_
    rintro _ w7 ⟨rfl, hm, hz, ho⟩
    have H := H.mod 2 rfl hm (fun k _ e => e) (ownB w1.heap.size (.slice A2 s.n c2) s.n (hopS (cur7 l j)).1) ho fun k hk => .inl hk
    have H : Sep [Fct.rest w1 None, Fct.blk g1 30 c1, ownB w1.heap.size (.slice A2 s.n c2) s.n (hopS (cur7 l j)).1] w7 := H
    refine ⟨_, rfl, ?_⟩
    refine num7_spec.mono ?_
    rintro _ w8 ⟨hw8, rfl⟩
    subst w8
    by_cases hho : Hopable l
    · have h40 := hho.1
      have h7 : 7 < l.length := by omega
      rw [hop_cur hho j] at H ⊢
      by_cases h2 : l.getD 7 0 - j < 2
      · rw [if_pos h2] at H ⊢
        refine ⟨_, rfl, Br.no (show ¬ ((77 : Int) = 0) by decide) ⟨j, c1, rfl, ?_, H⟩⟩
        unfold Done; rw [if_pos hho]; exact ⟨h2, hj.imp id fun x => x.2⟩
      · rw [if_neg h2] at H ⊢
        refine ⟨_, rfl, Br.yes rfl ?_⟩
        refine num7_spec.mono ?_
        rintro _ w9 ⟨hw9, rfl⟩
        subst w9
        have hj1 : (j + 1 = 0 ∨ (Hopable l ∧ ((j + 1 : Nat) : Int) + 1 ≤ l.getD 7 0)) := .inr ⟨hho, by omega⟩
        have hwr : IntKind.i64.wrap ((j : Int) + 1) = ((j + 1 : Nat) : Int) := by rw [w64 (by omega) (by omega)]; omega
        refine ⟨_, rfl, Br.dec (fun hok => ?_) fun hno => ?_⟩
        · obtain rfl := hc1 hok
          have hB' : BytesAt w7 ⟨A2, s.n, c2⟩ (cur7 l (j + 1)) := bytesAt_of (s := ⟨A2, s.n, c2⟩) (b := w1.heap.size) (H.own 2 rfl) ⟨by show s.n ≤ 4000000; omega, cur7_bts hB.bts (.inl (by omega))⟩
          have hpa := parse_late hB' (hK.ext (hX (H.restOf 0 rfl)))
          have hpv : parsed (cur7 l (j + 1)) = ({ (parsed l).1 with hop := l.getD 7 0 - ((j + 1 : Nat) : Int) }, 0) := parsed_set7 hok h7
          rw [hpv] at hpa
          have hz7 := (H.restOf 0 rfl).size
          refine hpa.mono ?_
          rintro _ w10 ⟨h2', xs2, rfl, H10, data2, hd2, hlate⟩
          have H10 := (AllLe.append (AllLe.refl [Fct.rest w7 None]) (readX_less hz7)).sep H10
          have H := H.mades H10
          refine onRet_is (Ip6V.of h2' ⟨_, rfl, NewVC.sep H fun g2 w11 H => ?_⟩)
          have H := H.front
          refine Stores.sep H 0 rfl (Ip6V.one h2') (Nat.le_refl _) (splice_all rfl) fun w12 H => ?_
          refine ⟨_, H.cell 2 rfl 2 rfl, SetVC.sep H 2 rfl (show 2 < 44 by decide) fun w13 H => ?_⟩
          have ehop : IntKind.i64.wrap (l.getD 7 0 - (j : Int) - 1) = l.getD 7 0 - ((j + 1 : Nat) : Int) := by rw [w64 (by omega) (by omega)]; omega
          rw [ehop] at H
          have H : Sep (Fct.blk g2 30 h2'.cells :: Fct.rest w1 None :: Fct.blk g1 30 ({ h with hop := l.getD 7 0 - ((j + 1 : Nat) : Int) } : Ip6V).cells :: ownB w1.heap.size (.slice A2 s.n c2) s.n (cur7 l (j + 1)) :: readX w1.heap.size h2'.exts xs2) w13 := H
          have hB13 : BytesAt w13 ⟨A2, s.n, c2⟩ (cur7 l (j + 1)) := bytesAt_of (s := ⟨A2, s.n, c2⟩) (b := w1.heap.size) (H.own 3 rfl) ⟨by show s.n ≤ 4000000; omega, cur7_bts hB.bts (.inl (by omega))⟩
          have hA2 := hlate (w2 := w13) (b := w1.heap.size) (fun f hf => H.mem (List.mem_cons_of_mem _ (List.mem_cons_of_mem _ (List.mem_cons_of_mem _ (List.mem_cons_of_mem _ hf))))) hB13
          refine num7_spec.mono ?_
          rintro _ w14 ⟨hw14, rfl⟩
          subst w14
          refine ⟨_, rfl, Br.no (fun h => h rfl) (Ip6V.of h2' ⟨H.at 0 rfl, Ip6V.of { h with hop := l.getD 7 0 - ((j + 1 : Nat) : Int) } ⟨H.at 2 rfl, ?_⟩⟩)⟩
          have hA3 : Ip6At w13 ({ h with hop := l.getD 7 0 - ((j + 1 : Nat) : Int) } : Ip6V) xs data := ⟨(hA.ext (H.restOf 1 rfl)).exts, (hA.ext (H.restOf 1 rfl)).data, hA.src, hA.dst⟩
          have hd3 : ({ h with hop := l.getD 7 0 - ((j + 1 : Nat) : Int) } : Ip6V).d xs data = { (parsed l).1 with hop := l.getD 7 0 - ((j + 1 : Nat) : Int) } := by rw [← hd]; rfl
          refine (same6_spec hA2 hA3).mono ?_
          rintro _ w15 ⟨x, rfl, hx, hE15⟩
          have hxt := hx.2 (hd2.trans hd3.symm)
          subst hxt
          have H := H.ext hE15
          refine ⟨_, rfl, Br.f rfl ?_⟩
          refine (canonical_spec (hB13.ext hE15) (hK.ext (hX (H.restOf 1 rfl)))).mono ?_
          rintro _ w16 ⟨hE16, rfl⟩
          have H := H.ext hE16
          have hcc : canonS (cur7 l (j + 1)) = canonS l := by
            cases hp : parseS l with
            | error er => rw [parsed_err hp] at hok; exact absurd hok (parseS_ne hp)
            | ok t => exact canon_set7 hB.bts hp (by omega) h7
          rw [hcc]
          refine ⟨_, rfl, Br.f (by simp) ?_⟩
          rw [hwr]
          refine ⟨⟨j + 1, _, rfl, hj1, fun _ => rfl, ?_⟩, by omega⟩
          exact H.sub (.cons _ (.cons_cons _ (.cons_cons _ (.cons_cons _ (List.nil_sublist _)))))
        · rw [hwr]
          exact ⟨⟨j + 1, c1, rfl, hj1, fun h => absurd h hno, H⟩, by omega⟩
    · have hj0 : j = 0 := hj.elim id fun x => absurd x.1 hho
      subst hj0
      rw [cur7_zero] at H ⊢
      have hne := hop_no hho
      have hse : (hopS l).1 = l := by
        unfold hopS
        unfold Hopable at hho
        split
        · rfl
        · split
          · rfl
          · omega
      rw [hse] at H
      refine ⟨_, rfl, Br.no hne ⟨0, c1, rfl, ?_, by rw [cur7_zero]; exact H⟩⟩
      unfold Done; rw [if_neg hho]
  · rintro _ w17 ⟨j, c1, rfl, hj, H⟩
    exact hops_tail hB hE1 hK hj (by omega) H
end
end N6
end Go.Proofs.YtkiogaglmjeplaaDoor
