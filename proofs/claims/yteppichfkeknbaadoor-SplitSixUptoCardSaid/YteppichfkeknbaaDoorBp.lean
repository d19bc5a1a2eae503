/- SplitWhole4: the parts, each at its place, are the whole. -/
import Derived.Test.YteppichfkeknbaaDoorBn
import Derived.Test.YteppichfkeknbaaDoorBh
import Derived.Test.YteppichfkeknbaaDoorBl
namespace Go.Proofs.YteppichfkeknbaaDoor
namespace N6
open Go.Eng Go.RowKit
section
variable {w : World} {s : Sl}
theorem OptsAt.idxR {rs : List OptR} (hO : OptsAt w s rs) {i : Nat} {r : OptR} (hi : rs[i]? = some r) {F : Addr → Prop} (hF : ∀ a, CellsAt w a 0 r.v.cells → F a) : IdxVC s.A s.n 2 (i : Int) F :=
  OptsAt.idxD (S := fun w' => w' = w) rfl (fun w' e => by subst e; exact hO) hi fun a ha => hF a (ha w rfl)
def High (w : World) (rs : List OptR) (e : Ending) (w' : World) : Prop := ∃ (s' : Sl) (rs' : List OptR), e = .returned s'.val ∧ rs'.map OptR.d = (rs.map OptR.d).filter hi ∧ (∀ r ∈ rs', r ∈ rs) ∧ rs'.length = s'.n ∧ s'.n ≤ 4000000 ∧ s'.n ≤ s'.k ∧
    Sep [Fct.rest w None, rowO w.heap.size s' rs'] w'
theorem high_vc {rs : List OptR} (hO : OptsAt w s rs) : weirlaw13_high_VC s.A s.n s.k w (High w rs) := by
  unfold weirlaw13_high_VC
  have hl := hO.len
  have hsm := hO.small
  refine LoopVC.of (fun st w' => ∃ (i : Nat) (rs' : List OptR), st.2 = i ∧ i ≤ s.n ∧ rs'.map OptR.d = ((rs.take i).map OptR.d).filter hi ∧ (∀ r ∈ rs', r ∈ rs) ∧ rs'.length = st.1.2.1 ∧ st.1.2.1 ≤ i ∧
      Sep [Fct.rest w None, rowO w.heap.size ⟨st.1.1, st.1.2.1, st.1.2.2⟩ rs'] w') (fun st _ => ((s.n : Int) - st.2).toNat)
    ⟨0, [], rfl, Nat.zero_le _, rfl, (fun r hr => by cases hr), rfl, Nat.zero_le _, (Sep.start0 w).nil _ _ _⟩ ?_
  rintro ⟨⟨A1, n1, c1⟩, _⟩ w1 ⟨i, rs', rfl, hi', hd, hsub, hlen, hn1, H⟩
  simp only at hn1 hlen
  show weirlaw13_high_L58 _ s.A s.n A1 n1 c1 (i : Int) w1 _
  unfold weirlaw13_high_L58
  refine Br.dec (fun hlt => ?_) fun hge => ?_
  · have hr : rs[i]? = some rs[i] := List.getElem?_eq_getElem (by omega)
    have hO1 := hO.ext (H.restOf 0 rfl)
    have htake : rs.take (i + 1) = rs.take i ++ [rs[i]] := by rw [List.take_add_one, hr]; rfl
    have hi1 : IntKind.i64.wrap ((i : Int) + 1) = ((i + 1 : Nat) : Int) := by rw [w64 (by omega) (by omega)]; omega
    refine OptsAt.idxR hO1 hr fun a ha => ⟨_, c0 ha, Br.dec (fun hk => ?_) fun hk => ?_⟩
    · refine OptsAt.idxR hO1 hr fun a ha => OptV.of rs[i].v ⟨ha, NewVC.sep H fun g1 w2 H => ?_⟩
      have hz2 := (H.restOf 0 rfl).size
      refine appO (o := rs[i].v) H 1 rfl (Cells.blk0 (H.blk 2 rfl)) (show n1 ≤ 1000000000 by omega) (by omega) fun A2 c2 w3 H hc2 => ⟨⟨i + 1, rs' ++ [rs[i]], hi1, by omega, ?_, ?_, ?_, by simp only; omega, ?_⟩, by simp only [hi1]; omega⟩
      · rw [htake, List.map_append, List.map_append, List.filter_append, hd]
        have : hi rs[i].d = true := decide_eq_true hk
        simp [this]
      · intro r hr
        rcases List.mem_append.1 hr with hr | hr
        · exact hsub r hr
        · simp at hr; subst hr; exact List.getElem_mem _
      · simp only [List.length_append, hlen]; rfl
      · have H := H.take 2
        simp only [rowO, List.map_append, List.flatten_append, List.map_cons, List.map_nil, List.flatten_cons, List.flatten_nil, List.append_nil]
        exact H
    · refine ⟨⟨i + 1, rs', hi1, by omega, ?_, hsub, hlen, by simp only; omega, H⟩, by simp only [hi1]; omega⟩
      rw [htake, List.map_append, List.filter_append, hd]
      have : hi rs[i].d = false := decide_eq_false hk
      simp [this]
  · have hin : i = s.n := by omega
    exact ⟨⟨A1, n1, c1⟩, rs', rfl, by rw [hd, hin, ← hl, List.take_length], hsub, hlen, by show n1 ≤ 4000000; omega, own_le (H.own 1 rfl), H⟩
theorem high_spec {rs : List OptR} (hO : OptsAt w s rs) : Calls Tryd.prog 15 #[s.val] w (High w rs) := weirlaw13_high_of s.A s.n s.k w _ (high_vc hO)
set_option maxHeartbeats 2000000 in
theorem whole4_law {h : Ip4V} {os : List OptR} {data : List Int} {mtu : Int} (hA : Ip4At w h os data) (hK : Kn w) : Calls Tryd.prog 3 #[h.val, .int .i64 mtu] w fun e w' => e = .returned (.bool true) ∧ Ext w w' := by
  refine weirlaw13_SplitWhole4_of h mtu w _ ?_
  unfold weirlaw13_SplitWhole4_VC
  refine NewVC.sep (Sep.start0 w) fun g1 w1 H => Ip4V.of h ⟨H.at 1 rfl, ?_⟩
  refine (split4_spec (mtu := mtu) (hA.ext (H.restOf 0 rfl))).mono ?_
  intro e w2 hc
  obtain ⟨s, rs, rfl, hrs, hat, hE2⟩ := hc.at
  have H := H.ext hE2
  refine ⟨_, _, _, _, rfl, ?_⟩
  refine num_spec.mono ?_
  rintro _ w3 ⟨hw3, rfl⟩
  subst w3
  refine ⟨_, rfl, Br.dec (fun hne => ?_) fun heq => ?_⟩
  · refine (started_spec (hK.ext (H.restOf 0 rfl))).mono ?_
    rintro _ w4 ⟨hE4, rfl⟩
    exact ⟨_, rfl, rfl, (H.restOf 0 rfl).trans hE4⟩
  have heq : (split4S (h.d os data) mtu).2 = 0 := by omega
  obtain ⟨hchk, _, _, xs, hxs, hxn, hch, _⟩ := split4_parts heq
  rw [hxs] at hrs
  have hoff : 0 ≤ h.off ∧ h.off ≤ 65528 := by have := (check4S_ok hchk).1; rw [bad4_iff] at this; omega
  have hdl := hA.data.len
  have hds := hA.data.small
  have hlen : rs.length = xs.length := by have := congrArg List.length hrs; simpa using this
  have hsn := hat.len
  have hsm := hat.small
  have hE0 := H.restOf 0 rfl
  have hA2 := hA.ext hE0
  have hb1 := H.blk 1 rfl
  have hed : (h.d os data).data = data := rfl
  rw [hed] at hch
  refine LoopVC.of (fun st w' => ∃ (i p : Nat), st.2 = i ∧ i ≤ xs.length ∧ Chained data.length p (xs.drop i) ∧ (i < xs.length → (0 < i ↔ 0 < p)) ∧ st.1.2.1 = p ∧ Sep [Fct.rest w2 None, ownB w2.heap.size (.slice st.1.1 st.1.2.1 st.1.2.2) st.1.2.1 (data.take p)] w') (fun st _ => ((xs.length : Int) - st.2).toNat)
    ⟨0, 0, rfl, Nat.zero_le _, hch, (fun _ => Iff.rfl), rfl, (Sep.start0 w2).nil _ _ _⟩ ?_
  rintro ⟨⟨A1, n1, c1⟩, _⟩ w5 ⟨i, p, rfl, hi', hcp, hip, hn1, H⟩
  simp only at hn1
  subst hn1
  show weirlaw13_SplitWhole4_L250 _ g1 s.A s.n A1 n1 c1 (i : Int) w5 _
  unfold weirlaw13_SplitWhole4_L250
  have hple := hcp.le
  refine Br.dec (fun hlt => ?_) fun hge => ?_
  · have hix : i < xs.length := by omega
    have hri : rs[i]? = some rs[i] := List.getElem?_eq_getElem (by omega)
    have hxi : xs[i]? = some xs[i] := List.getElem?_eq_getElem hix
    have hrd : rs[i].d = piece4 (h.d os data) xs[i] := by
      have := congrArg (·[i]?) hrs
      simpa [List.getElem?_map, hri, hxi] using this
    rw [List.drop_eq_getElem_cons hix] at hcp
    obtain ⟨k1, k2, k3, k4⟩ := hcp
    have hroff : rs[i].v.off = h.off + n1 := by
      have := congrArg Ip4D.off hrd
      rw [show rs[i].d.off = rs[i].v.off from rfl] at this
      rw [this, ← k1]; rfl
    have hrdata : rs[i].data = (data.drop n1).take xs[i].2 := by
      have := congrArg Ip4D.data hrd
      rw [show rs[i].d.data = rs[i].data from rfl] at this
      rw [this, ← k1]; rfl
    have hrAt := hat.each rs[i] (List.getElem_mem _)
    have hrl : rs[i].v.data.n = xs[i].2 := by
      rw [← hrAt.data.len, hrdata, List.length_take, List.length_drop]; omega
    refine DrawVC.sep H (fun w' => Ip4sAt w' s rs ∧ Blk w' g1 28 h.cells) fun w6 H => ?_
    have hS6 : Ip4sAt w6 s rs ∧ Blk w6 g1 28 h.cells := ⟨hat.ext (H.restOf 0 rfl), hb1.ext (H.restOf 0 rfl)⟩
    refine ⟨hS6, Ip4sAt.idxD (S := fun w' => Ip4sAt w' s rs ∧ Blk w' g1 28 h.cells) hS6 (fun w' h => h.1) hri fun a ha => ⟨_, fun w' h => four_off (ha w' h), _, fun w' h => h.2.cell 4, ?_⟩⟩
    rw [hroff, w64 (n := h.off + (n1 : Int)) (by omega) (by omega)]
    refine Br.no (fun h => h rfl) (hS6.1.idx hri fun a1 ha1 => ⟨_, _, _, cells_get ha1 42 rfl, ?_⟩)
    have hz6 := (H.restOf 0 rfl).size
    refine appB (m := rs[i].v.data.n) (ys := rs[i].data) H 1 rfl ((hrAt.ext (H.restOf 0 rfl)).data.cells) hrAt.data.len (show n1 + rs[i].v.data.n ≤ 140737488355328 by omega) (by omega) fun A2 c2 w7 H hc2 => ?_
    refine Ip4V.of h ⟨CellsAt.blk (hb1.ext (H.restOf 0 rfl)), NewVC.sep H fun g2 w8 H => ?_⟩
    have H := H.front
    refine Stores.sep H 0 rfl (Ip4V.one _) (Nat.le_refl _) (splice_all rfl) fun w9 H => ?_
    refine (hat.ext (H.restOf 1 rfl)).idx hri fun a2 ha2 => ⟨_, four_off ha2, SetVC.sep H 0 rfl (show 4 < 43 by decide) fun w10 H => ?_⟩
    refine (hat.ext (H.restOf 1 rfl)).idx hri fun a3 ha3 => ⟨_, _, _, cells_get ha3 42 rfl, SetVC.sep H 0 rfl (show 42 < 43 by decide) fun w11 H => ?_⟩
    obtain ⟨hp', hhp'⟩ : ∃ hp' : Ip4V, hp' = { h with off := rs[i].v.off, data := rs[i].v.data } := ⟨_, rfl⟩
    have H : Sep [Fct.blk g2 28 hp'.cells, Fct.rest w2 None, ownB w2.heap.size (.slice A2 (n1 + rs[i].v.data.n) c2) (n1 + rs[i].v.data.n) (data.take n1 ++ rs[i].data)] w11 := by rw [hhp']; exact H
    have hro : rs[i].opts.map OptR.d = if xs[i].1 = 0 then os.map OptR.d else (os.map OptR.d).filter hi := congrArg Ip4D.opts hrd
    have h1c : ∀ (os' : List OptR), ∀ r ∈ os'.map (fun r => r.v.cells), r ≠ [] := fun os' r hr => by obtain ⟨y, _, rfl⟩ := List.mem_map.1 hr; simp [OptV.cells]
    have h2c : ∀ (os' : List OptR), ∀ r ∈ os'.map (fun r => r.v.cells), r.length = 2 := fun os' r hr => by obtain ⟨y, _, rfl⟩ := List.mem_map.1 hr; rfl
    -- the options
    refine JoinVC.of (fun _ w' => ∃ (so : Sl) (os' : List OptR), os'.map OptR.d = rs[i].opts.map OptR.d ∧ OptsOld w2 so os' ∧
      Sep [Fct.blk g2 28 ({ hp' with opts := so } : Ip4V).cells, Fct.rest w2 None, ownB w2.heap.size (.slice A2 (n1 + rs[i].v.data.n) c2) (n1 + rs[i].v.data.n) (data.take n1 ++ rs[i].data), Fct.recs w2 so.A 2 (os'.map fun r => r.v.cells)] w') ?_ ?_
    · refine Br.dec (fun h0 => ?_) fun h0 => ?_
      · refine ⟨_, _, _, (hb1.ext (H.restOf 1 rfl)).cell 41, ?_⟩
        have hz11 := (H.restOf 1 rfl).size
        refine (high_spec (s := h.opts) (rs := os) (hA2.opts.ext (H.restOf 1 rfl))).mono ?_
        rintro _ w12 ⟨so, os', rfl, ho, hsub, hol, hos, hoc, H12⟩
        have H := (H.made (H12.lower 1 rfl hz11)).ownRecs (w0 := w2) (s := so) 3 rfl (by decide) (h2c os') (Nat.le_refl _)
        refine ⟨_, _, _, rfl, SetVC.sep H 0 rfl (show 41 < 43 by decide) fun w13 H => ⟨so, os', ?_, ⟨hol, hoc, hos, fun r hr => hA2.opts.each r (hsub r hr)⟩, H⟩⟩
        rw [hro, if_neg (by have := hip hix; omega), ho]
      · have h00 : i = 0 := by omega
        refine ⟨h.opts, os, ?_, hA2.opts.old, ?_⟩
        · rw [hro, if_pos (by have := hip hix; omega)]
        · have H := H.pushRecs (w0 := w2) (rs := os.map fun r => r.v.cells) hA2.opts.recs (h1c os)
          rw [hhp'] at H ⊢; exact H
    rintro _ w14 ⟨so, os', hod, hoo, H⟩
    show weirlaw13_SplitWhole4_J128159 _ s.A s.n (i : Int) _ A2 (n1 + rs[i].v.data.n) c2 g2 w14
    unfold weirlaw13_SplitWhole4_J128159
    obtain ⟨hq, hhq⟩ : ∃ hq : Ip4V, hq = { hp' with opts := so, mf := rs[i].v.mf } := ⟨_, rfl⟩
    have hi1 : IntKind.i64.wrap ((i : Int) + 1) = ((i + 1 : Nat) : Int) := by rw [w64 (by omega) (by omega)]; omega
    have hrmf : rs[i].v.mf = (decide (xs[i].1 + xs[i].2 < data.length) || h.mf) := by
      have := congrArg Ip4D.mf hrd
      rw [show rs[i].d.mf = rs[i].v.mf from rfl] at this
      rw [this]; rfl
    rw [hi1]
    refine JoinVC.of (fun _ w' => Sep [Fct.blk g2 28 hq.cells, Fct.rest w2 None, ownB w2.heap.size (.slice A2 (n1 + rs[i].v.data.n) c2) (n1 + rs[i].v.data.n) (data.take n1 ++ rs[i].data), Fct.recs w2 so.A 2 (os'.map fun r => r.v.cells)] w') ?_ ?_
    · refine Br.dec (fun hm => SetVC.sep H 0 rfl (show 3 < 43 by decide) fun w15 H => ?_) fun hm => ?_
      · have : rs[i].v.mf = true := by
          rw [hrmf, k1, decide_eq_true (k3 (by
            intro e
            have := congrArg List.length e
            rw [List.length_drop] at this
            simp at this
            omega)).2]; rfl
        rw [hhq, this]
        exact H
      · have hlast : xs.drop (i + 1) = [] := List.drop_of_length_le (by omega)
        rw [hlast] at k4
        have : rs[i].v.mf = h.mf := by
          have k4 : n1 + xs[i].2 = data.length := k4
          rw [hrmf, k1, decide_eq_false (by omega)]; rfl
        rw [hhq, this]
        rw [hhp'] at H ⊢
        exact H
    rintro _ w16 H
    unfold weirlaw13_SplitWhole4_J256319
    refine DrawVC.sep H (fun w' => Ip4sAt w' s rs ∧ Blk w' g2 28 hq.cells) fun w17 H => ?_
    have hS17 : Ip4sAt w17 s rs ∧ Blk w17 g2 28 hq.cells := ⟨hat.ext (H.restOf 1 rfl), H.blk 0 rfl⟩
    refine ⟨hS17, Ip4sAt.idxD (S := fun w' => Ip4sAt w' s rs ∧ Blk w' g2 28 hq.cells) hS17 (fun w' h => h.1) hri fun a4 ha4 => Ip4V.of rs[i].v ⟨ha4, Ip4V.of hq ⟨fun w' h => CellsAt.blk h.2, ?_⟩⟩⟩
    have hqA : Ip4At w17 hq os' rs[i].data := by
      refine ⟨?_, ?_, ?_, ?_⟩
      · rw [hhq]; exact H.optAt (H.restOf 1 rfl) 3 rfl hoo
      · rw [hhq, hhp']; exact (hrAt.ext (H.restOf 1 rfl)).data
      · rw [hhq, hhp']; exact hA.src
      · rw [hhq, hhp']; exact hA.dst
    have hqd : rs[i].v.d rs[i].opts rs[i].data = hq.d os' rs[i].data := by
      have e1 : rs[i].v.tos = h.tos := congrArg Ip4D.tos hrd
      have e2 : rs[i].v.id = h.id := congrArg Ip4D.id hrd
      have e3 : rs[i].v.df = h.df := congrArg Ip4D.df hrd
      have e4 : rs[i].v.ttl = h.ttl := congrArg Ip4D.ttl hrd
      have e5 : rs[i].v.proto = h.proto := congrArg Ip4D.proto hrd
      have e6 : rs[i].v.src = h.src := congrArg Ip4D.src hrd
      have e7 : rs[i].v.dst = h.dst := congrArg Ip4D.dst hrd
      rw [ip4_key, hhq, hhp']
      exact ⟨e1, e2, e3, rfl, rfl, e4, e5, e6, e7, hod.symm, rfl⟩
    refine (same4_spec (hS17.1.each _ (List.getElem_mem _)) hqA).mono ?_
    rintro _ w18 ⟨b, rfl, hb, hE18⟩
    have hbt := hb.2 hqd
    subst hbt
    have H := H.ext hE18
    refine ⟨_, rfl, ⟨hat.ext (H.restOf 1 rfl), H.blk 0 rfl⟩, Br.f rfl ⟨⟨i + 1, n1 + rs[i].v.data.n, hi1, by omega, ?_, ?_, rfl, ?_⟩, by simp only [hi1]; omega⟩⟩
    · rw [hrl]; exact k4
    · intro hlt2
      have := k3 (by
        intro e
        have := congrArg List.length e
        rw [List.length_drop] at this
        simp at this
        omega)
      rw [hrl]; omega
    · have H := (H.sub (Γ' := [Fct.rest w2 None, ownB w2.heap.size (.slice A2 (n1 + rs[i].v.data.n) c2) (n1 + rs[i].v.data.n) (data.take n1 ++ rs[i].data)]) (.cons _ (.cons_cons _ (.cons_cons _ (.cons _ .slnil)))))
      rw [hrdata, hrl, ← List.take_add] at H
      rw [hrl]
      exact H
  · have hin : i = xs.length := by omega
    rw [hin, List.drop_length] at hcp
    have hcp : n1 = data.length := hcp
    have hH0 := H.restOf 0 rfl
    refine (started_spec (hK.ext (hE0.trans hH0))).mono ?_
    rintro _ w19 ⟨hE19, rfl⟩
    have H := H.ext hE19
    refine ⟨_, rfl, Br.t rfl ⟨_, _, _, (hb1.ext (H.restOf 0 rfl)).cell 42, ?_⟩⟩
    have hrow : BytesAt w19 ⟨A1, n1, c1⟩ data := bytesAt_of (b := w2.heap.size) (by
      have := H.own 1 rfl
      rw [List.take_of_length_le (by omega)] at this
      exact this) ⟨by show n1 ≤ 4000000; omega, hA.data.bts⟩
    refine (alike7_spec (s := ⟨A1, n1, c1⟩) (t := h.data) hrow (hA2.data.ext (H.restOf 0 rfl))).mono ?_
    rintro _ w20 ⟨hw20, rfl⟩
    subst w20
    exact ⟨_, rfl, by rw [decide_eq_true rfl], hE0.trans (H.restOf 0 rfl)⟩
end
end N6
end Go.Proofs.YteppichfkeknbaaDoor
