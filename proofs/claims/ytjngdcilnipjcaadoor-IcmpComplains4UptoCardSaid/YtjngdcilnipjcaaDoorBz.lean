/- IcmpComplains4 and IcmpComplains6: what is told about any datagram. -/
import Derived.Test.YtjngdcilnipjcaaDoorBy
import Derived.Test.YtjngdcilnipjcaaDoorBx
namespace Go.Proofs.YtjngdcilnipjcaaDoor
namespace N6
open Go.Eng Go.RowKit
section
variable {w w' : World} {Γ : List Fct} {t : TrbV} {f : Fct}
/-- A message by value. -/
def IsMsg (v : Int) (r : Option (Int × Int × Int × List Int)) (m : IcmV) (L : List Int) : Prop :=
  match r with
  | none => m = IcmV.z ∧ L = []
  | some (t, c, rs, d) => (m.v = v ∧ m.t = t ∧ m.c = c ∧ m.r = rs) ∧ L = d
theorem IsMsg.same {v : Int} {r : Option (Int × Int × Int × List Int)} {m n : IcmV} {L K : List Int} (h : IsMsg v r m L) (k : IsMsg v r n K) : m.v = n.v ∧ m.t = n.t ∧ m.c = n.c ∧ m.r = n.r ∧ L = K := by
  cases r with
  | none =>
    obtain ⟨rfl, rfl⟩ := h
    obtain ⟨rfl, rfl⟩ := k
    exact ⟨rfl, rfl, rfl, rfl, rfl⟩
  | some r =>
    obtain ⟨⟨a1, a2, a3, a4⟩, rfl⟩ := h
    obtain ⟨⟨b1, b2, b3, b4⟩, rfl⟩ := k
    exact ⟨a1.trans b1.symm, a2.trans b2.symm, a3.trans b3.symm, a4.trans b4.symm, rfl⟩
theorem Comp.r {v : Int} {r : Option (Int × Int × Int × List Int)} {e : Ending} (h : Comp v w r e w') : RComp v w r e w' := by
  cases r with
  | none => exact h
  | some r =>
    obtain ⟨A, he, H⟩ := h
    exact ⟨A, _, he, H⟩
theorem RComp.uni {v : Int} {r : Option (Int × Int × Int × List Int)} {e : Ending} {b : Nat} (h : RComp v w r e w') (H : Sep Γ w) (hb : b ≤ w.heap.size) :
    ∃ (m : IcmV) (L : List Int), e = .returned (.tuple #[m.val, .bool r.isSome]) ∧ IsMsg v r m L ∧ L.length = m.data.n ∧ Sep (winB b m.data.val m.data.n L :: Γ) w' ∧ Ext w w' := by
  cases r with
  | none =>
    obtain ⟨rfl, hE⟩ := h
    refine ⟨IcmV.z, [], rfl, ⟨rfl, rfl⟩, rfl, ?_, hE⟩
    have H1 := ((H.ext hE).nil b 5 1).front
    exact H1.ownWin (i := 0) rfl
  | some r =>
    obtain ⟨ty, cd, rs, d⟩ := r
    obtain ⟨A, k, rfl, HC⟩ := h
    have HC := HC.weaken 1 rfl (f' := winB b (.slice A d.length k) d.length d) (Win.low (HC.win 1 rfl) hb) fun _ h => h
    exact ⟨⟨v, ty, cd, rs, ⟨A, d.length, k⟩⟩, d, rfl, ⟨⟨rfl, rfl, rfl, rfl⟩, rfl⟩, rfl, (H.mades HC).front, HC.restOf 0 rfl⟩
theorem comp4_len {d : Ip4D} {m : IcmV} {L : List Int} (h : IsMsg 4 (comp4S t d) m L) : L.length ≤ 1232 := by
  unfold comp4S at h
  split at h
  · rw [h.2, List.length_take]
    have := Nat.min_le_left 548 (ser4S d).1.length
    omega
  · rw [h.2]; exact Nat.zero_le _
theorem sameM_spec {v : Int} {r : Option (Int × Int × Int × List Int)} {m n : IcmV} {L K : List Int} (hm : IsMsg v r m L) (hn : IsMsg v r n K) (hL : Cells w m.data.A (L.map (.int .u8))) (hK : Cells w n.data.A (K.map (.int .u8))) (lL : L.length = m.data.n) (lK : K.length = n.data.n) (h1 : L.length ≤ 1232) :
    Calls Tryd.prog 21 #[m.val, n.val] w fun e w' => Ext w w' ∧ e = .returned (.bool true) := by
  have hs := hm.same hn
  refine (Go.Proofs.YtjngdcilnipjcaaDoor.same8_spec (a := ⟨m.v, m.t, m.c, m.r, m.data.A, m.data.n, m.data.k⟩) (b := ⟨n.v, n.t, n.c, n.r, n.data.A, n.data.n, n.data.k⟩) (da := L) (db := K) hL hK lL lK (by show m.data.n ≤ _; omega)).mono ?_
  rintro _ w' ⟨hE, rfl⟩
  exact ⟨hE, by rw [decide_eq_true hs]⟩
theorem holds_left {T Δ : List Fct} (h : ∀ f ∈ T ++ Δ, f.φ w) : ∀ f ∈ T, f.φ w := fun f hf => h f (List.mem_append_left _ hf)
theorem holds_right {T Δ : List Fct} (h : ∀ f ∈ T ++ Δ, f.φ w) : ∀ f ∈ Δ, f.φ w := fun f hf => h f (List.mem_append_right _ hf)
set_option maxHeartbeats 8000000 in
theorem complains4_law {h : Ip4V} {os : List OptR} {data : List Int} (hA : Ip4At w h os data) (hT : Tb w) (hN : Nd.Tab w) (hW : Wd w) (hK : Kn w) :
    Calls Tryd.prog 10 #[t.val, h.val] w fun e w' => e = .returned (.bool true) ∧ Ext w w' := by
  refine weirlaw8_IcmpComplains4_of t h w _ ?_
  unfold weirlaw8_IcmpComplains4_VC
  refine NewVC.sep (Sep.start0 w) fun g1 w1 H => NewVC.sep H fun g2 w2 H => ?_
  have hE2 := H.restOf 0 rfl
  refine (told_spec (hT.ext hE2) (hN.ext hE2) (hW.ext hE2) (hK.ext hE2)).mono ?_
  rintro _ w3 ⟨hE3, rfl⟩
  have H := H.ext hE3
  refine ⟨_, rfl, Br.f rfl (Ip4V.of h ⟨H.at 2 rfl, ?_⟩)⟩
  have hz3 := (H.restOf 0 rfl).size
  refine (four_sep (hA.ext (H.restOf 0 rfl))).mono ?_
  rintro _ w4 ⟨se1, R1, ys1, rfl, ok1, H4⟩
  have H4 := (AllLe.append (AllLe.refl [Fct.rest w3 None]) (fourFs_less hz3)).sep H4
  have H := H.mades H4
  obtain ⟨i1, hi1⟩ : ∃ i1, i1 = fourV h se1 R1 data := ⟨_, rfl⟩
  rw [← hi1]
  refine onRet_is (Ip4V.of i1 ⟨rfl, NewVC.sep H fun g3 w5 H => ?_⟩)
  have H := H.front
  refine Stores.sep H 0 rfl (cs' := i1.cells) (Ip4V.one i1) (Nat.le_refl _) (splice_all rfl) fun w6 H => ?_
  refine Ip4V.of h ⟨H.at 3 rfl, ?_⟩
  have hz6 := (H.restOf 1 rfl).size
  refine (four_sep (hA.ext (H.restOf 1 rfl))).mono ?_
  rintro _ w7 ⟨se2, R2, ys2, rfl, ok2, H7⟩
  have H7 := (AllLe.append (AllLe.refl [Fct.rest w6 None]) (fourFs_less hz6)).sep H7
  have H := H.mades H7
  obtain ⟨i2, hi2⟩ : ∃ i2, i2 = fourV h se2 R2 data := ⟨_, rfl⟩
  rw [← hi2]
  refine onRet_is (Ip4V.of i2 ⟨rfl, NewVC.sep H fun g4 w8 H => ?_⟩)
  have H := H.front
  refine Stores.sep H 0 rfl (cs' := i2.cells) (Ip4V.one i2) (Nat.le_refl _) (splice_all rfl) fun w9 H => ?_
  obtain ⟨F1, hF1⟩ : ∃ F1, F1 = fourFs w.heap.size se1 R1 ys1 data := ⟨_, rfl⟩
  obtain ⟨F2, hF2⟩ : ∃ F2, F2 = fourFs w.heap.size se2 R2 ys2 data := ⟨_, rfl⟩
  have at1 : ∀ {w' : World}, (∀ f ∈ F1, f.φ w') → FourAt w' i1 ys1 (data.take 66000) := fun hf => by rw [hi1]; exact fourAt_of (b := w.heap.size) hA.src hA.dst (by rw [← hF1]; exact hf) ok1
  have at2 : ∀ {w' : World}, (∀ f ∈ F2, f.φ w') → FourAt w' i2 ys2 (data.take 66000) := fun hf => by rw [hi2]; exact fourAt_of (b := w.heap.size) hA.src hA.dst (by rw [← hF2]; exact hf) ok2
  have d1 : i1.d (ys1.map LaidQ.opt) (data.take 66000) = cut4 (h.d os data) := by rw [hi1]; exact fourV_d ok1
  have d2 : i2.d (ys2.map LaidQ.opt) (data.take 66000) = cut4 (h.d os data) := by rw [hi2]; exact fourV_d ok2
  have hsame : (ys1.map LaidQ.opt).map OptR.d = (ys2.map LaidQ.opt).map OptR.d := by rw [ok1.same, ok2.same]
  have H : Sep (Fct.blk g4 73 i2.cells :: Fct.blk g3 73 i1.cells :: Fct.rest w None :: Fct.blk g1 70 t.cells :: Fct.blk g2 73 h.cells :: (F1 ++ F2)) w9 := by rw [hF1, hF2]; exact H
  clear hF1 hF2
  obtain ⟨r, hr⟩ : ∃ r, r = comp4S t (cut4 (h.d os data)) := ⟨_, rfl⟩
  have h9 : ∀ f ∈ F1 ++ F2, f.φ w9 := fun f hf => H.mem (by repeat (first | exact hf | refine List.mem_cons_of_mem _ ?_))
  have hE9 := H.restOf 2 rfl
  refine TrbV.of t ⟨H.at 3 rfl, Ip4V.of i1 ⟨H.at 1 rfl, ?_⟩⟩
  refine (Complain4_spec (t := t) (at1 (holds_left h9)).at (hT.ext hE9) (hN.ext hE9) (hW.ext hE9)).mono ?_
  intro e w10 hc
  rw [d1, ← hr] at hc
  obtain ⟨m1, L1, rfl, hm1, l1, H, -⟩ := hc.r.uni H hE9.size
  refine onRet_is (IcmV.of m1 ⟨_, rfl, NewVC.sep H fun g5 w11 H => ?_⟩)
  have H := H.front
  refine Stores.sep H 0 rfl (cs' := m1.cells) (IcmV.one m1) (Nat.le_refl _) (splice_all rfl) fun w12 H => ?_
  have h12 : ∀ f ∈ F1 ++ F2, f.φ w12 := fun f hf => H.mem (by repeat (first | exact hf | refine List.mem_cons_of_mem _ ?_))
  refine TrbV.of t ⟨H.at 5 rfl, Ip4V.of i2 ⟨H.at 2 rfl, ?_⟩⟩
  refine (refComplain4_spec (t := t) (at2 (holds_right h12)).at).mono ?_
  intro e w13 hc
  rw [d2, ← hr] at hc
  obtain ⟨m2, L2, rfl, hm2, l2, H, -⟩ := hc.uni H (H.restOf 4 rfl).size
  refine onRet_is (IcmV.of m2 ⟨_, rfl, NewVC.sep H fun g6 w14 H => ?_⟩)
  have H := H.front
  refine Stores.sep H 0 rfl (cs' := m2.cells) (IcmV.one m2) (Nat.le_refl _) (splice_all rfl) fun w15 H => ?_
  have hlen1 : L1.length ≤ 1232 := comp4_len (t := t) (d := cut4 (h.d os data)) (by rw [← hr]; exact hm1)
  refine Br.f (by cases r.isSome <;> rfl) (IcmV.of m1 ⟨H.at 2 rfl, IcmV.of m2 ⟨H.at 0 rfl, ?_⟩⟩)
  refine (sameM_spec hm1 hm2 (H.winCells 3 rfl) (H.winCells 1 rfl) l1 l2 hlen1).mono ?_
  rintro _ w16 ⟨hE16, rfl⟩
  have H := H.ext hE16
  have h16 : ∀ f ∈ F1 ++ F2, f.φ w16 := fun f hf => H.mem (by repeat (first | exact hf | refine List.mem_cons_of_mem _ ?_))
  refine ⟨_, rfl, Br.f rfl (Ip4V.of i1 ⟨H.at 5 rfl, Ip4V.of i2 ⟨H.at 4 rfl, ?_⟩⟩)⟩
  refine (fourStands_spec (at1 (holds_left h16)) (at2 (holds_right h16)).at hsame).mono ?_
  rintro _ w17 ⟨hE17, rfl⟩
  have H := H.ext hE17
  refine ⟨_, rfl, Br.f rfl ⟨_, _, _, H.cell 2 rfl 4 rfl, ?_⟩⟩
  have H := (H.pull 3 rfl).pull 6 rfl
  have H := H.winRow 1 rfl
  have H : Sep (Fct.rest w None :: Fct.row w.heap.size 5 1 m1.data.A m1.data.k m1.data.n (L1.map (.int .u8)) :: Fct.blk g6 24 m2.cells :: winB w.heap.size m2.data.val m2.data.n L2 :: Fct.blk g5 24 m1.cells :: Fct.blk g4 73 i2.cells :: Fct.blk g3 73 i1.cells :: Fct.blk g1 70 t.cells :: Fct.blk g2 73 h.cells :: (F1 ++ F2)) w17 := H
  refine (marked_row H rfl 0 rfl (by omega) (Nat.le_refl _)).mono ?_
  rintro _ w18 ⟨g, ps, q, Δ, rfl, hps, H, hst⟩
  obtain ⟨Γs, hΓs⟩ : ∃ Γs : List Fct, Γs = Fct.rest w None :: rowM w.heap.size m1.data.A m1.data.k q 77 :: Fct.blk g6 24 m2.cells :: winB w.heap.size m2.data.val m2.data.n L2 :: Fct.blk g5 24 m1.cells :: Fct.blk g4 73 i2.cells :: Fct.blk g3 73 i1.cells :: Fct.blk g1 70 t.cells :: Fct.blk g2 73 h.cells :: ((F1 ++ F2) ++ Δ) := ⟨_, rfl⟩
  have hst : ∀ w2, (∀ f ∈ Γs, f.φ w2) → StandAt w2 (some ⟨g, 0, none⟩) ps 77 := by rw [hΓs]; exact hst
  have H : Sep Γs w18 := by rw [hΓs]; exact H
  rw [hΓs] at H
  have h18 : ∀ f ∈ (F1 ++ F2) ++ Δ, f.φ w18 := fun f hf => H.mem (by repeat (first | exact hf | refine List.mem_cons_of_mem _ ?_))
  have hE18 := H.restOf 0 rfl
  refine ⟨_, _, _, rfl, TrbV.of t ⟨H.at 7 rfl, Ip4V.of i1 ⟨H.at 6 rfl, ?_⟩⟩⟩
  refine (Complain4_spec (t := t) (at1 (holds_left (holds_left h18))).at (hT.ext hE18) (hN.ext hE18) (hW.ext hE18)).mono ?_
  intro e w19 hc
  rw [d1, ← hr] at hc
  obtain ⟨m3, L3, rfl, hm3, l3, H, -⟩ := hc.r.uni H hE18.size
  refine onRet_is (IcmV.of m3 ⟨_, rfl, NewVC.sep H fun g7 w20 H => ?_⟩)
  have H := H.front
  refine Stores.sep H 0 rfl (cs' := m3.cells) (IcmV.one m3) (Nat.le_refl _) (splice_all rfl) fun w21 H => ?_
  have hlen3 : L3.length ≤ 1232 := comp4_len (t := t) (d := cut4 (h.d os data)) (by rw [← hr]; exact hm3)
  refine Br.t (by cases r.isSome <;> rfl) (IcmV.of m3 ⟨H.at 0 rfl, IcmV.of m2 ⟨H.at 4 rfl, ?_⟩⟩)
  refine (sameM_spec hm3 hm2 (H.winCells 1 rfl) (H.winCells 5 rfl) l3 l2 hlen3).mono ?_
  rintro _ w22 ⟨hE22, rfl⟩
  have H := H.ext hE22
  have hE22 := H.restOf 2 rfl
  refine ⟨_, rfl, Br.t rfl ?_⟩
  refine (told_spec (hT.ext hE22) (hN.ext hE22) (hW.ext hE22) (hK.ext hE22)).mono ?_
  rintro _ w23 ⟨hE23, rfl⟩
  have H := H.ext hE23
  refine ⟨_, rfl, Br.t rfl ?_⟩
  have h23 : ∀ f ∈ Γs, f.φ w23 := fun f hf => H.mem (by rw [hΓs] at hf; exact List.mem_cons_of_mem _ (List.mem_cons_of_mem _ hf))
  refine (Go.Proofs.YtjngdcilnipjcaaDoor.stand_spec (hst _ h23) hps (by decide)).mono ?_
  rintro _ w24 ⟨rfl, rfl⟩
  refine ⟨_, rfl, Br.t rfl (Ip4V.of i1 ⟨H.at 8 rfl, Ip4V.of i2 ⟨H.at 7 rfl, ?_⟩⟩)⟩
  have h24 : ∀ f ∈ (F1 ++ F2) ++ Δ, f.φ w23 := fun f hf => H.mem (by repeat (first | exact hf | refine List.mem_cons_of_mem _ ?_))
  refine (fourStands_spec (at1 (holds_left (holds_left h24))) (at2 (holds_right (holds_left h24))).at hsame).mono ?_
  rintro _ w25 ⟨hE25, rfl⟩
  exact ⟨_, rfl, rfl, (H.restOf 2 rfl).trans hE25⟩
end
end N6
end Go.Proofs.YtjngdcilnipjcaaDoor
