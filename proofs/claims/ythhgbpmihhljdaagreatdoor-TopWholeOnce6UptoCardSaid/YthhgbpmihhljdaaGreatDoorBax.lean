/- Chapter 13, the program's Split6 and Fits6. -/
import Derived.Test.YthhgbpmihhljdaaGreatDoorBaw
import Derived.Test.YthhgbpmihhljdaaGreatDoorBaq
namespace Go.Proofs.YthhgbpmihhljdaaGreatDoor
namespace N6
open Go.Eng Go.RowKit
section
variable {w : World} {Γ : List Fct} {h : Ip6V} {es : List ExtR} {data : List Int}
set_option maxHeartbeats 1000000 in
theorem split6_cut {w10 : World} {g1 mtu : Nat} {id : Int} {r : List Ip6D × Int} (hA : Ip6At w h es data) (hK : Kn w) (hs : (ser6S (h.d es data)).2 = 0) (hfr : h.frag.has = false) (_hm : 1280 ≤ mtu) (hm2 : mtu ≤ 65535)
    (hr : r = if (mtu : Int) < (hd6 (h.d es data) + 8 : Nat) then ([], 133) else ((parts (hd6 (h.d es data)) (hd6 (h.d es data)) mtu (rest6 (h.d es data)).length 0).map (piece6 (h.d es data) id), 0))
    (H : Sep [Fct.rest w None, Fct.blk g1 30 h.cells] w10) :
    split_Split6_J1023 (Cut6 w r) (mtu : Int) id g1 (((ser6S (h.d es data)).1.length : Nat) : Int) ((keptS (es.map ExtR.d) : Nat) : Int) (firstR (h.d es data)) w10 := by
  obtain ⟨k1, k2, k3, k4, k5⟩ := split6_len hs hfr 44
  have hsl := ser6S_len (h.d es data)
  have hk := keptS_le (es.map ExtR.d)
  rw [List.length_map, hA.exts.len] at hk
  have hXc := hA.exts.cap
  have hds := hA.data.small
  have hdl := hA.data.len
  have hed : (h.d es data).data = data := rfl
  have hee : (h.d es data).exts = es.map ExtR.d := rfl
  have hen : (h.d es data).next = h.next := rfl
  unfold split_Split6_J1023
  refine DrawVC.sep H (fun w' => Blk w' g1 30 h.cells) fun w11 H => ⟨H.blk 1 rfl, _, _, _, fun w' hb => hb.cell 37, ⟨by omega, by omega, ?_⟩⟩
  refine ⟨_, fun w' hb => hb.cell 42, ?_⟩
  rw [Int.toNat_natCast]
  have hz11 := (H.restOf 0 rfl).size
  refine (putChain_spec (s := ⟨if h.exts.k = keptS (es.map ExtR.d) then h.exts.A else h.exts.A.map (·.add (keptS (es.map ExtR.d) * 3)), h.exts.n - keptS (es.map ExtR.d), h.exts.k - keptS (es.map ExtR.d)⟩) (rs := es.drop (keptS (es.map ExtR.d))) (next := h.next)
    ((hA.exts.ext (H.restOf 0 rfl)).drop hk) (hK.ext (H.restOf 0 rfl))).mono ?_
  have hpc : putChainS ((es.drop (keptS (es.map ExtR.d))).map ExtR.d) h.next = ((headersS ((h.d es data).exts.drop (keptS (h.d es data).exts)) (h.d es data).next false).1, 0) := by
    rw [hee, hen, List.map_drop]
    unfold putChainS
    rw [hee, hen] at k2
    rw [hen] at k5
    have : ¬ (h.next < 0 ∨ 255 < h.next) := fun x => k4 (by unfold fieldBad; rw [hen]; omega)
    rw [if_neg this, if_neg (by omega), if_pos k5]
  rw [hpc]
  rintro _ w12 ⟨PA, pc, rfl, H12⟩
  have H := (H.made (H12.lower 1 rfl hz11))
  refine ⟨_, _, _, _, rfl, H.blk 1 rfl, _, _, _, H.cell 1 rfl 43 rfl, ?_⟩
  have hz12 := (H.restOf 0 rfl).size
  have hhl := headersS_len ((h.d es data).exts.drop (keptS (h.d es data).exts)) (h.d es data).next false
  refine appB (m := h.data.n) (ys := data) H 2 rfl ((hA.data.ext (H.restOf 0 rfl)).cells) hdl (show (headersS ((h.d es data).exts.drop (keptS (h.d es data).exts)) (h.d es data).next false).1.length + h.data.n ≤ 140737488355328 by omega) (by omega) fun A2 c2 w13 H hc2 => ?_
  have hc2 : (headersS ((h.d es data).exts.drop (keptS (h.d es data).exts)) (h.d es data).next false).1.length + h.data.n ≤ c2 := hc2
  have hrest : (headersS ((h.d es data).exts.drop (keptS (h.d es data).exts)) (h.d es data).next false).1 ++ data = rest6 (h.d es data) := rfl
  rw [hrest] at H
  have hrl : (headersS ((h.d es data).exts.drop (keptS (h.d es data).exts)) (h.d es data).next false).1.length + h.data.n = (rest6 (h.d es data)).length := by rw [← hrest, List.length_append]; omega
  rw [hrl] at H hc2
  show Br (decide ((mtu : Int) < IntKind.i64.wrap (IntKind.i64.wrap (IntKind.i64.wrap (_ - (((headersS ((h.d es data).exts.drop (keptS (h.d es data).exts)) (h.d es data).next false).1.length + h.data.n : Nat) : Int)) + 8) + 8))) _ _
  rw [hrl]
  have e1 : IntKind.i64.wrap (IntKind.i64.wrap ((((ser6S (h.d es data)).1.length : Nat) : Int) - (((rest6 (h.d es data)).length : Nat) : Int)) + 8) = ((hd6 (h.d es data) : Nat) : Int) := by
    unfold hd6
    rw [w64 (n := (((ser6S (h.d es data)).1.length : Nat) : Int) - _) (by omega) (by omega), w64 (by omega) (by omega)]; omega
  have hd : hd6 (h.d es data) ≤ 65543 := by unfold hd6; omega
  have e2 : IntKind.i64.wrap (((hd6 (h.d es data) : Nat) : Int) + 8) = ((hd6 (h.d es data) + 8 : Nat) : Int) := by rw [w64 (by omega) (by omega)]; omega
  rw [e1, e2]
  refine Br.dec (fun ht => Cut6.err (H.restOf 0 rfl) (by rw [hr, if_pos ht])) fun ht => ?_
  rw [if_neg ht] at hr
  rw [hr]
  have hz13 := (H.restOf 0 rfl).size
  have hBts : Bts (rest6 (h.d es data)) := by
    rw [← hrest]
    refine Bts.append (headersS_bts fun x hx => ?_) hA.data.bts
    rw [hee] at hx
    obtain ⟨y, hy, rfl⟩ := List.mem_map.1 (List.mem_of_mem_drop hx)
    exact ⟨(hA.exts.data y hy).bts, fun o ho => by
      obtain ⟨z, hz, rfl⟩ := List.mem_map.1 ho
      exact ((hA.exts.opts y hy).each z hz).bts⟩
  have hrow : BytesAt w13 ⟨A2, (rest6 (h.d es data)).length, c2⟩ (rest6 (h.d es data)) := ⟨rfl, hc2, by simp only; omega, hBts, H.cells 2 rfl⟩
  refine (cut6_spec (s := ⟨A2, (rest6 (h.d es data)).length, c2⟩) hrow (a := hd6 (h.d es data)) (mtu := mtu) (by omega) hm2).mono ?_
  rintro _ w14 ⟨sp, ps, rfl, hps, hpf, H14⟩
  have H14 := (AllLe.append (AllLe.refl [Fct.rest w13 None]) (pieFs_less hz13)).sep H14
  have H := H.mades H14
  refine ⟨_, _, _, rfl, ?_⟩
  refine split6_loop hA (by omega) hm2 rfl (by omega) hps hpf ?_
  have H := H.sub (Γ' := Fct.rest w None :: Fct.blk g1 30 h.cells :: pieFs w.heap.size sp ps) (.cons_cons _ (.cons_cons _ (.cons _ (List.Sublist.refl _))))
  exact H.perm (.trans (.cons _ (.swap _ _ _)) (.swap _ _ _))
set_option maxHeartbeats 2000000 in
theorem split6_spec {mtu id : Int} (hA : Ip6At w h es data) (hK : Kn w) : Calls Tryz.prog 6 #[h.val, .int .i64 mtu, .int .i64 id] w (Cut6 w (split6S (h.d es data) mtu id)) := by
  refine split_Split6_of h mtu id w _ ?_
  unfold split_Split6_VC
  refine NewVC.sep (Sep.start0 w) fun g1 w1 H => Ip6V.of h ⟨H.at 1 rfl, ?_⟩
  refine (check6_spec (hA.ext (H.restOf 0 rfl)) (hK.ext (H.restOf 0 rfl))).mono ?_
  rintro _ w2 ⟨hE2, rfl⟩
  have H := H.ext hE2
  refine ⟨_, rfl, Br.dec (fun hne => Cut6.err (H.restOf 0 rfl) (by unfold split6S; rw [if_pos hne])) fun hc => ?_⟩
  have hc : (ser6S (h.d es data)).2 = 0 := by omega
  refine Br.dec (fun h1 => Cut6.err (H.restOf 0 rfl) (by unfold split6S; rw [if_neg (by omega), if_pos (by omega)])) fun h1 => ?_
  refine Br.dec (fun h2 => Cut6.err (H.restOf 0 rfl) (by unfold split6S; rw [if_neg (by omega), if_pos (by omega)])) fun h2 => ?_
  refine Br.dec (fun h3 => Cut6.err (H.restOf 0 rfl) (by unfold split6S; rw [if_neg (by omega), if_neg (by omega), if_pos (by omega)])) fun h3 => ?_
  refine Br.dec (fun h4 => Cut6.err (H.restOf 0 rfl) (by unfold split6S; rw [if_neg (by omega), if_neg (by omega), if_pos (by omega)])) fun h4 => ?_
  obtain ⟨m, rfl⟩ : ∃ m : Nat, mtu = m := ⟨mtu.toNat, by omega⟩
  refine Ip6V.of h ⟨H.at 1 rfl, ?_⟩
  refine (size6_spec (hA.ext (H.restOf 0 rfl)) (hK.ext (H.restOf 0 rfl))).mono ?_
  rintro _ w3 ⟨hE3, rfl⟩
  have H := H.ext hE3
  have hes : split6S (h.d es data) (m : Int) id = if ((ser6S (h.d es data)).1.length : Int) ≤ (m : Int) then ([h.d es data], 0) else if h.frag.has = true then ([], 131) else if (m : Int) < (hd6 (h.d es data) + 8 : Nat) then ([], 133)
      else ((parts (hd6 (h.d es data)) (hd6 (h.d es data)) m (rest6 (h.d es data)).length 0).map (piece6 (h.d es data) id), 0) := by
    unfold split6S
    rw [if_neg (by omega), if_neg (by omega), if_neg (by omega)]
    rfl
  refine ⟨_, rfl, Br.dec (fun hfit => ?_) fun hfit => ?_⟩
  · rw [if_pos hfit] at hes
    have hz3 := (H.restOf 0 rfl).size
    refine ⟨_, _, _, H.cell 1 rfl 37 rfl, ?_⟩
    refine (exts_spec (s := h.exts) (rs := es) (hA.exts.ext (H.restOf 0 rfl))).mono ?_
    rintro _ w4 ⟨se, es', rfl, hed, hef, H4⟩
    have H4 := (AllLe.append (AllLe.refl [Fct.rest w3 None]) (extFs_less hz3)).sep H4
    have H := H.mades H4
    refine ⟨_, _, _, rfl, SetVC.sep H 1 rfl (show 37 < 44 by decide) fun w5 H => ?_⟩
    have hz5 := (H.restOf 0 rfl).size
    refine ⟨_, _, _, H.cell 1 rfl 43 rfl, ?_⟩
    refine (clone_spec (s := h.data) (l := data) (hA.data.ext (H.restOf 0 rfl))).mono ?_
    rintro _ w6 ⟨sd, rfl, hB, hn, H6⟩
    have H := (H.made (H6.lower 1 rfl hz5)).front
    refine ⟨_, _, _, rfl, SetVC.sep H 2 rfl (show 43 < 44 by decide) fun w7 H => ?_⟩
    refine Ip6V.of { h with exts := se, data := sd } ⟨H.at 2 rfl, NewVC.sep H fun g2 w8 H => ?_⟩
    have H := H.front
    have hg := H.fresh 2 0 (by decide) rfl rfl
    have H := H.blkRec 0 rfl (b := w.heap.size) (n := 1) (size := 44) hg rfl (by decide)
    rw [hes]
    refine ⟨⟨some ⟨g2, 0, none⟩, 1, 1⟩, [⟨{ h with exts := se, data := sd }, es', data⟩], rfl, ?_, ⟨rfl, show 1 ≤ 4000001 by decide, fun y hy => by simp at hy; subst hy; exact ⟨hef, hB, hA.src, hA.dst⟩⟩, ?_⟩
    · simp only [List.map_cons, List.map_nil, Ip6R.d, Ip6V.d, hed]
    · have H := H.sub (Γ' := rowI6 w.heap.size ⟨some ⟨g2, 0, none⟩, 1, 1⟩ [⟨{ h with exts := se, data := sd }, es', data⟩] :: rowB w.heap.size sd data :: Fct.rest w None :: extFs w.heap.size se es') (by
        simp only [rowI6, List.map_cons, List.map_nil, List.flatten_cons, List.flatten_nil, List.append_nil]
        exact .cons_cons _ (.cons_cons _ (.cons_cons _ (.cons _ (List.Sublist.refl _)))))
      have H := H.perm (.trans (.swap _ _ _) (.cons _ (.swap _ _ _)))
      unfold ip6Fs
      simp only [List.map_cons, List.map_nil, List.flatMap_cons, List.flatMap_nil, List.append_nil, List.singleton_append]
      exact H
  · rw [if_neg hfit] at hes
    refine ⟨_, H.cell 1 rfl 38 rfl, ?_⟩
    cases hfr : h.frag.has with
    | true =>
      rw [if_pos hfr] at hes
      exact Br.t rfl (Cut6.err (H.restOf 0 rfl) hes)
    | false =>
      rw [if_neg (by rw [hfr]; decide)] at hes
      refine Br.f rfl ⟨_, _, _, H.cell 1 rfl 37 rfl, ?_⟩
      refine (kept_spec (s := h.exts) (rs := es) (hA.exts.ext (H.restOf 0 rfl))).mono ?_
      rintro _ w9 ⟨hw9, rfl⟩
      subst w9
      refine ⟨_, rfl, _, H.cell 1 rfl 42 rfl, ?_⟩
      have hk := keptS_le (es.map ExtR.d)
      rw [List.length_map] at hk
      have hlen := hA.exts.len
      have hee : (h.d es data).exts = es.map ExtR.d := rfl
      refine JoinVC.of (fun x w' => x = firstR (h.d es data) ∧ w' = w3) ?_ ?_
      · refine ⟨_, _, _, H.cell 1 rfl 37 rfl, Br.dec (fun hlt => ⟨_, _, _, H.cell 1 rfl 37 rfl, ?_⟩) fun hge => ?_⟩
        · refine (hA.exts.ext (H.restOf 0 rfl)).idx rfl (by omega) fun a r hr hcr _ _ => ⟨r.v.kind, by simpa [ExtV.cells, add_zero] using hcr.1, ?_, rfl⟩
          unfold firstR
          rw [hee, ← List.map_drop]
          obtain ⟨hkl, hke⟩ := List.getElem?_eq_some_iff.1 hr
          rw [List.drop_eq_getElem_cons hkl, hke]
          rfl
        · refine ⟨?_, rfl⟩
          unfold firstR
          rw [hee, List.drop_of_length_le (by simp; omega)]
          rfl
      · rintro _ w10 ⟨rfl, hw10⟩
        subst w10
        exact split6_cut hA hK hc hfr (by omega) (by omega) hes H
end
end N6
end Go.Proofs.YthhgbpmihhljdaaGreatDoor
/- Whether two datagrams hold the same, or two lists of them. -/
namespace Go.Proofs.YthhgbpmihhljdaaGreatDoor
namespace N6
open Go.Eng Go.RowKit
section
variable {w : World} {s t : Sl}
theorem ip6_key {a b : Ip6V} {oa ob : List ExtR} {da db : List Int} : a.d oa da = b.d ob db ↔ (a.cls = b.cls ∧ a.flow = b.flow ∧ a.hop = b.hop ∧ a.src = b.src ∧ a.dst = b.dst ∧ oa.map ExtR.d = ob.map ExtR.d ∧ a.frag = b.frag ∧ a.next = b.next ∧ da = db) := by
  unfold Ip6V.d; simp only [Ip6D.mk.injEq]
theorem ip6_src {g : Nat} {w' : World} {h : Ip6V} (hb : Blk w' g 30 h.cells) : CellsAt w' ⟨g, 3, none⟩ 0 h.src.cells := ⟨hb.cell 3, hb.cell 4, hb.cell 5, hb.cell 6, hb.cell 7, hb.cell 8, hb.cell 9, hb.cell 10, hb.cell 11, hb.cell 12, hb.cell 13, hb.cell 14, hb.cell 15, hb.cell 16, hb.cell 17, hb.cell 18, hb.cell 19, trivial⟩
theorem ip6_dst {g : Nat} {w' : World} {h : Ip6V} (hb : Blk w' g 30 h.cells) : CellsAt w' ⟨g, 20, none⟩ 0 h.dst.cells := ⟨hb.cell 20, hb.cell 21, hb.cell 22, hb.cell 23, hb.cell 24, hb.cell 25, hb.cell 26, hb.cell 27, hb.cell 28, hb.cell 29, hb.cell 30, hb.cell 31, hb.cell 32, hb.cell 33, hb.cell 34, hb.cell 35, hb.cell 36, trivial⟩
theorem ip6_frg {g : Nat} {w' : World} {h : Ip6V} (hb : Blk w' g 30 h.cells) : CellsAt w' ⟨g, 38, none⟩ 0 h.frag.cells := ⟨hb.cell 38, hb.cell 39, hb.cell 40, hb.cell 41, trivial⟩
theorem ipv_br {x y : IPV} {A B : Prop} (h1 : x ≠ y → A) (h2 : x = y → B) : Br (!(IPV.beq x y)) A B := by
  cases hb : IPV.beq x y with
  | true => exact Br.f rfl (h2 (ipv_beq.1 hb))
  | false => exact Br.t rfl (h1 fun e => by rw [ipv_beq.2 e] at hb; cases hb)
theorem frag_br {x y : FragV} {A B : Prop} (h1 : x ≠ y → A) (h2 : x = y → B) : Br (!(FragV.beq x y)) A B := by
  cases hb : FragV.beq x y with
  | true => exact Br.f rfl (h2 (frag_beq.1 hb))
  | false => exact Br.t rfl (h1 fun e => by rw [frag_beq.2 e] at hb; cases hb)
/-- Datagrams that lie there, one behind the other. -/
structure Ip4sAt (w : World) (s : Sl) (rs : List Ip4R) : Prop where
  len : rs.length = s.n
  cap : s.n ≤ s.k
  small : s.n ≤ 4000001
  recs : Recs w s.A 43 (rs.map fun r => r.v.cells)
  each : ∀ r ∈ rs, Ip4At w r.v r.opts r.data
structure Ip6sAt (w : World) (s : Sl) (rs : List Ip6R) : Prop where
  len : rs.length = s.n
  cap : s.n ≤ s.k
  small : s.n ≤ 4000001
  recs : Recs w s.A 44 (rs.map fun r => r.v.cells)
  each : ∀ r ∈ rs, Ip6At w r.v r.exts r.data
theorem Ip4sAt.ext {w' : World} {rs : List Ip4R} (h : Ip4sAt w s rs) (hE : Ext w w') : Ip4sAt w' s rs := { h with recs := h.recs.ext hE, each := fun r hr => (h.each r hr).ext hE }
theorem Ip6sAt.ext {w' : World} {rs : List Ip6R} (h : Ip6sAt w s rs) (hE : Ext w w') : Ip6sAt w' s rs := { h with recs := h.recs.ext hE, each := fun r hr => (h.each r hr).ext hE }
theorem ip4sAt_of {b : Nat} {rs : List Ip4R} (h : ∀ f ∈ ip4Fs b s rs, f.φ w) (hf : Ip4sFine s rs) : Ip4sAt w s rs := by
  have h0 := h (rowI4 b s rs) (by simp [ip4Fs])
  refine ⟨hf.len, own_le h0, hf.small, Recs.of_cells (by decide) (fun r hr => ?_) (own_cells (A := s.A) (c := s.k) h0), fun r hr => ip4At_of h hf hr⟩
  obtain ⟨x, _, rfl⟩ := List.mem_map.1 hr; rfl
theorem ip6sAt_of {b : Nat} {rs : List Ip6R} (h : ∀ f ∈ ip6Fs b s rs, f.φ w) (hf : Ip6sFine s rs) : Ip6sAt w s rs := by
  have h0 := h (rowI6 b s rs) (by simp [ip6Fs])
  refine ⟨hf.len, own_le h0, hf.small, Recs.of_cells (by decide) (fun r hr => ?_) (own_cells (A := s.A) (c := s.k) h0), fun r hr => ip6At_of h hf hr⟩
  obtain ⟨x, _, rfl⟩ := List.mem_map.1 hr; rfl
theorem Cut4.at {w' : World} {r : List Ip4D × Int} {e : Ending} (h : Cut4 w r e w') : ∃ (s' : Sl) (rs : List Ip4R), e = .returned (.tuple #[s'.val, .int .i64 r.2]) ∧ rs.map Ip4R.d = r.1 ∧ Ip4sAt w' s' rs ∧ Ext w w' := by
  obtain ⟨s', rs, he, hd, hf, H⟩ := h
  exact ⟨s', rs, he, hd, ip4sAt_of (fun f hf => H.mem (List.mem_cons_of_mem _ hf)) hf, H.start1⟩
theorem Cut6.at {w' : World} {r : List Ip6D × Int} {e : Ending} (h : Cut6 w r e w') : ∃ (s' : Sl) (rs : List Ip6R), e = .returned (.tuple #[s'.val, .int .i64 r.2]) ∧ rs.map Ip6R.d = r.1 ∧ Ip6sAt w' s' rs ∧ Ext w w' := by
  obtain ⟨s', rs, he, hd, hf, H⟩ := h
  exact ⟨s', rs, he, hd, ip6sAt_of (fun f hf => H.mem (List.mem_cons_of_mem _ hf)) hf, H.start1⟩
theorem Ip4sAt.idxD {S : World → Prop} {rs : List Ip4R} (hw : S w) (hS : ∀ w', S w' → Ip4sAt w' s rs) {i : Nat} {r : Ip4R} (hi : rs[i]? = some r) {F : Addr → Prop} (hF : ∀ a, (∀ w', S w' → CellsAt w' a 0 r.v.cells) → F a) : IdxVC s.A s.n 43 (i : Int) F :=
  IdxVC.recD S hw (fun w' h => (hS w' h).recs) (by simpa using (hS w hw).len) (cs := r.v.cells) (by rw [List.getElem?_map, hi]; rfl) hF
theorem Ip6sAt.idxD {S : World → Prop} {rs : List Ip6R} (hw : S w) (hS : ∀ w', S w' → Ip6sAt w' s rs) {i : Nat} {r : Ip6R} (hi : rs[i]? = some r) {F : Addr → Prop} (hF : ∀ a, (∀ w', S w' → CellsAt w' a 0 r.v.cells) → F a) : IdxVC s.A s.n 44 (i : Int) F :=
  IdxVC.recD S hw (fun w' h => (hS w' h).recs) (by simpa using (hS w hw).len) (cs := r.v.cells) (by rw [List.getElem?_map, hi]; rfl) hF
theorem Ip4sAt.idx {rs : List Ip4R} (h : Ip4sAt w s rs) {i : Nat} {r : Ip4R} (hi : rs[i]? = some r) {F : Addr → Prop} (hF : ∀ a, CellsAt w a 0 r.v.cells → F a) : IdxVC s.A s.n 43 (i : Int) F :=
  Ip4sAt.idxD (S := fun w' => w' = w) rfl (fun w' e => by subst e; exact h) hi fun a ha => hF a (ha w rfl)
theorem Ip6sAt.idx {rs : List Ip6R} (h : Ip6sAt w s rs) {i : Nat} {r : Ip6R} (hi : rs[i]? = some r) {F : Addr → Prop} (hF : ∀ a, CellsAt w a 0 r.v.cells → F a) : IdxVC s.A s.n 44 (i : Int) F :=
  Ip6sAt.idxD (S := fun w' => w' = w) rfl (fun w' e => by subst e; exact h) hi fun a ha => hF a (ha w rfl)
end
end N6
end Go.Proofs.YthhgbpmihhljdaaGreatDoor
/- Chapter 7 by value: what bytes are read as. -/
namespace Go.Eng
open Go Go.RowKit
/-- An option that was read: its kind, where its data lie, how many they are; kind 0: a run of padding. -/
structure OP where
  kind : Int
  p : Nat
  n : Nat
def bpart (b : List Int) (p n : Nat) : List Int := (b.drop p).take n
theorem bpart_len {b : List Int} {p n : Nat} (h : p + n ≤ b.length) : (bpart b p n).length = n := by
  unfold bpart; rw [List.length_take, List.length_drop]; omega
def OP.d (b : List Int) (o : OP) : OptD := if o.kind = 0 then ⟨0, List.replicate o.n 0⟩ else ⟨o.kind, bpart b o.p o.n⟩
def flushS (run : Nat) : List OP := if run = 0 then [] else [⟨0, 0, run⟩]
/-- What the bytes from p on hold, so many bytes of padding being behind. -/
def optsS (b : List Int) (p run : Nat) : Option (List OP) :=
  if _h : b.length ≤ p then some (flushS run)
  else if b.getD p 0 = 0 then optsS b (p + 1) (run + 1)
  else if b.length < p + 2 + (b.getD (p + 1) 0).toNat then none
  else if b.getD p 0 = 1 then optsS b (p + 2 + (b.getD (p + 1) 0).toNat) (run + 2 + (b.getD (p + 1) 0).toNat)
  else (optsS b (p + 2 + (b.getD (p + 1) 0).toNat) 0).map fun l => flushS run ++ ⟨b.getD p 0, p + 2, (b.getD (p + 1) 0).toNat⟩ :: l
termination_by b.length - p
theorem optsS_end {b : List Int} {p run : Nat} (h : b.length ≤ p) : optsS b p run = some (flushS run) := by
  rw [optsS, dif_pos h]
theorem optsS_zero {b : List Int} {p run : Nat} (h : p < b.length) (h0 : b.getD p 0 = 0) : optsS b p run = optsS b (p + 1) (run + 1) := by
  rw [optsS, dif_neg (by omega), if_pos h0]
theorem optsS_none {b : List Int} {p run : Nat} (h : p < b.length) (h0 : b.getD p 0 ≠ 0) (h1 : b.length < p + 2 + (b.getD (p + 1) 0).toNat) : optsS b p run = none := by
  rw [optsS, dif_neg (by omega), if_neg h0, if_pos h1]
theorem optsS_pad {b : List Int} {p run : Nat} (h0 : b.getD p 0 = 1) (h1 : p + 2 + (b.getD (p + 1) 0).toNat ≤ b.length) : optsS b p run = optsS b (p + 2 + (b.getD (p + 1) 0).toNat) (run + 2 + (b.getD (p + 1) 0).toNat) := by
  rw [optsS, dif_neg (by omega), if_neg (by omega), if_neg (by omega), if_pos h0]
theorem optsS_opt {b : List Int} {p run : Nat} (h0 : b.getD p 0 ≠ 0) (h1 : b.getD p 0 ≠ 1) (h2 : p + 2 + (b.getD (p + 1) 0).toNat ≤ b.length) :
    optsS b p run = (optsS b (p + 2 + (b.getD (p + 1) 0).toNat) 0).map fun l => flushS run ++ ⟨b.getD p 0, p + 2, (b.getD (p + 1) 0).toNat⟩ :: l := by
  rw [optsS, dif_neg (by omega), if_neg h0, if_neg (by omega), if_neg h1]
theorem flushS_d (b : List Int) (run : Nat) : (flushS run).map (OP.d b) = if run = 0 then [] else [⟨0, List.replicate run 0⟩] := by
  unfold flushS
  split
  · rfl
  · simp [OP.d]
/-- What is read lies within. -/
def OP.inside (b : List Int) (o : OP) : Prop := (o.kind = 0 ∧ 0 < o.n ∧ o.n ≤ b.length) ∨ (2 ≤ o.kind ∧ o.kind ≤ 255 ∧ o.p + o.n ≤ b.length ∧ o.n ≤ 255)
theorem getD_byte {b : List Int} (hB : Bts b) (p : Nat) : 0 ≤ b.getD p 0 ∧ b.getD p 0 ≤ 255 := by
  rw [List.getD_eq_getElem?_getD]
  rcases Nat.lt_or_ge p b.length with h | h
  · rw [List.getElem?_eq_getElem h]; have := hB _ (List.getElem_mem h); simp only [Option.getD_some]; omega
  · rw [List.getElem?_eq_none h]; simp
theorem flushS_inside {b : List Int} {run : Nat} (h : run ≤ b.length) : ∀ o ∈ flushS run, o.inside b := by
  unfold flushS
  split
  · intro o ho; cases ho
  · intro o ho; simp at ho; subst ho; exact .inl ⟨rfl, by show 0 < run; omega, h⟩
theorem optsS_inside {b : List Int} (hB : Bts b) : ∀ (k p run : Nat) (l : List OP), b.length - p ≤ k → run ≤ p → p ≤ b.length → optsS b p run = some l → ∀ o ∈ l, o.inside b := by
  intro k
  induction k with
  | zero =>
    intro p run l hk hr hp h
    rw [optsS_end (by omega)] at h
    injection h with h; subst h
    exact flushS_inside (by omega)
  | succ k ih =>
    intro p run l hk hr hp h
    rcases Nat.lt_or_ge p b.length with hlt | hge
    · have b0 := getD_byte hB p
      have b1 := getD_byte hB (p + 1)
      by_cases h0 : b.getD p 0 = 0
      · rw [optsS_zero hlt h0] at h
        exact ih _ _ _ (by omega) (by omega) (by omega) h
      · rcases Nat.lt_or_ge b.length (p + 2 + (b.getD (p + 1) 0).toNat) with h2 | h2
        · rw [optsS_none hlt h0 h2] at h; cases h
        · by_cases h1 : b.getD p 0 = 1
          · rw [optsS_pad h1 h2] at h
            exact ih _ _ _ (by omega) (by omega) (by omega) h
          · rw [optsS_opt h0 h1 h2] at h
            cases hr2 : optsS b (p + 2 + (b.getD (p + 1) 0).toNat) 0 with
            | none => rw [hr2] at h; cases h
            | some m =>
              rw [hr2] at h
              injection h with h; subst h
              intro o ho
              rcases List.mem_append.1 ho with ho | ho
              · exact flushS_inside (by omega) o ho
              · rcases List.mem_cons.1 ho with rfl | ho
                · exact .inr ⟨by show 2 ≤ b.getD p 0; omega, b0.2, h2, by show (b.getD (p + 1) 0).toNat ≤ 255; omega⟩
                · exact ih _ _ _ (by omega) (by omega) (by omega) hr2 o ho
    · rw [optsS_end hge] at h
      injection h with h; subst h
      exact flushS_inside (by omega)
/-! ### Headers -/
/-- A header that was read: its kind, its options, where its bytes lie, how many they are. -/
structure EP where
  kind : Int
  opts : List OP
  p : Nat
  n : Nat
def EP.d (b : List Int) (x : EP) : ExtD := ⟨x.kind, x.opts.map (OP.d (bpart b x.p x.n)), if x.kind = 43 then bpart b x.p x.n else []⟩
def isH (k : Int) : Prop := k = 0 ∨ k = 43 ∨ k = 60
instance (k : Int) : Decidable (isH k) := by unfold isH; infer_instance
def inS (k : Int) (b : List Int) (p n : Nat) : Option (List OP) := if k = 43 then some [] else optsS (bpart b p n) 0 0
/-- How many bytes a header has behind its first two. -/
def lenH (b : List Int) (p : Nat) : Nat := 8 * (b.getD (p + 1) 0).toNat + 6
def hdrsS (b : List Int) (top : Bool) (k : Int) (p i : Nat) : Except Int (List EP × Int × Nat) :=
  if isH k then
    if k = 0 ∧ (top = false ∨ 0 < i) then .error 73
    else if _h : 8 ≤ i then .error 74
    else if b.length < p + 8 ∨ b.length < p + 2 + lenH b p then .error 72
    else match inS k b (p + 2) (lenH b p) with
      | none => .error 75
      | some os => (hdrsS b top (b.getD p 0) (p + 2 + lenH b p) (i + 1)).map fun r => (⟨k, os, p + 2, lenH b p⟩ :: r.1, r.2)
  else .ok ([], k, p)
termination_by 8 - i
section
variable {b : List Int} {top : Bool} {k : Int} {p i : Nat}
theorem hdrsS_end (h : ¬ isH k) : hdrsS b top k p i = .ok ([], k, p) := by rw [hdrsS, if_neg h]
theorem hdrsS_first (h : isH k) (h1 : k = 0 ∧ (top = false ∨ 0 < i)) : hdrsS b top k p i = .error 73 := by rw [hdrsS, if_pos h, if_pos h1]
theorem hdrsS_many (h : isH k) (h1 : ¬ (k = 0 ∧ (top = false ∨ 0 < i))) (h2 : 8 ≤ i) : hdrsS b top k p i = .error 74 := by rw [hdrsS, if_pos h, if_neg h1, dif_pos h2]
theorem hdrsS_short (h : isH k) (h1 : ¬ (k = 0 ∧ (top = false ∨ 0 < i))) (h2 : i < 8) (h3 : b.length < p + 8 ∨ b.length < p + 2 + lenH b p) : hdrsS b top k p i = .error 72 := by
  rw [hdrsS, if_pos h, if_neg h1, dif_neg (by omega), if_pos h3]
theorem hdrsS_opts (h : isH k) (h1 : ¬ (k = 0 ∧ (top = false ∨ 0 < i))) (h2 : i < 8) (h3 : p + 2 + lenH b p ≤ b.length) (h4 : inS k b (p + 2) (lenH b p) = none) : hdrsS b top k p i = .error 75 := by
  have : p + 8 ≤ p + 2 + lenH b p := by unfold lenH; omega
  rw [hdrsS, if_pos h, if_neg h1, dif_neg (by omega), if_neg (by omega), h4]
theorem hdrsS_step (h : isH k) (h1 : ¬ (k = 0 ∧ (top = false ∨ 0 < i))) (h2 : i < 8) (h3 : p + 2 + lenH b p ≤ b.length) {os : List OP} (h4 : inS k b (p + 2) (lenH b p) = some os) :
    hdrsS b top k p i = (hdrsS b top (b.getD p 0) (p + 2 + lenH b p) (i + 1)).map fun r => (⟨k, os, p + 2, lenH b p⟩ :: r.1, r.2) := by
  have : p + 8 ≤ p + 2 + lenH b p := by unfold lenH; omega
  rw [hdrsS, if_pos h, if_neg h1, dif_neg (by omega), if_neg (by omega), h4]
end
/-- Laid behind others that were read. -/
def behind (l : List EP) (r : Except Int (List EP × Int × Nat)) : Except Int (List EP × Int × Nat) := r.map fun r => (l ++ r.1, r.2)
theorem behind_nil (r : Except Int (List EP × Int × Nat)) : behind [] r = r := by
  cases r <;> rfl
theorem behind_map (l : List EP) (x : EP) (r : Except Int (List EP × Int × Nat)) : behind l (r.map fun r => (x :: r.1, r.2)) = behind (l ++ [x]) r := by
  cases r <;> simp [behind, Except.map]
def EP.inside (b : List Int) (x : EP) : Prop := isH x.kind ∧ x.p + x.n ≤ b.length ∧ x.n ≤ 2046 ∧ x.n % 8 = 6 ∧ inS x.kind b x.p x.n = some x.opts
theorem hdrsS_inside {b : List Int} (hB : Bts b) {top : Bool} : ∀ (m i : Nat) (k : Int) (p : Nat) (l : List EP) (k' : Int) (p' : Nat), 8 - i ≤ m → p ≤ b.length → hdrsS b top k p i = .ok (l, k', p') → (∀ x ∈ l, x.inside b) ∧ p' ≤ b.length ∧ p ≤ p' ∧ ¬ isH k' ∧ (l.length + i ≤ 8 ∨ l = []) ∧ (0 ≤ k ∧ k ≤ 255 → 0 ≤ k' ∧ k' ≤ 255) := by
  intro m
  induction m with
  | zero =>
    intro i k p l k' p' hm hp h
    by_cases hk : isH k
    · by_cases h1 : k = 0 ∧ (top = false ∨ 0 < i)
      · rw [hdrsS_first hk h1] at h; cases h
      · rw [hdrsS_many hk h1 (by omega)] at h; cases h
    · rw [hdrsS_end hk] at h
      cases h
      exact ⟨(fun x hx => by cases hx), hp, Nat.le_refl _, hk, .inr rfl, id⟩
  | succ m ih =>
    intro i k p l k' p' hm hp h
    by_cases hk : isH k
    · by_cases h1 : k = 0 ∧ (top = false ∨ 0 < i)
      · rw [hdrsS_first hk h1] at h; cases h
      · rcases Nat.lt_or_ge i 8 with h2 | h2
        · by_cases h3 : b.length < p + 8 ∨ b.length < p + 2 + lenH b p
          · rw [hdrsS_short hk h1 h2 h3] at h; cases h
          · cases h4 : inS k b (p + 2) (lenH b p) with
            | none => rw [hdrsS_opts hk h1 h2 (by omega) h4] at h; cases h
            | some os =>
              rw [hdrsS_step hk h1 h2 (by omega) h4] at h
              cases hr : hdrsS b top (b.getD p 0) (p + 2 + lenH b p) (i + 1) with
              | error e => rw [hr] at h; cases h
              | ok r =>
                obtain ⟨l2, k2, p2⟩ := r
                rw [hr] at h
                cases h
                obtain ⟨i1, i2, i3, i4, i5, i6⟩ := ih (i + 1) _ _ l2 k' p' (by omega) (by omega) hr
                refine ⟨fun x hx => ?_, i2, by omega, i4, .inl ?_, fun _ => i6 (getD_byte hB p)⟩
                · rcases List.mem_cons.1 hx with rfl | hx
                  · have := getD_byte hB (p + 1)
                    exact ⟨hk, by show p + 2 + lenH b p ≤ b.length; omega, by show lenH b p ≤ 2046; unfold lenH; omega, by show lenH b p % 8 = 6; unfold lenH; omega, h4⟩
                  · exact i1 x hx
                · rcases i5 with e | rfl
                  · simp only [List.length_cons]; omega
                  · simp only [List.length_cons, List.length_nil]; omega
        · rw [hdrsS_many hk h1 h2] at h; cases h
    · rw [hdrsS_end hk] at h
      cases h
      exact ⟨(fun x hx => by cases hx), hp, Nat.le_refl _, hk, .inr rfl, id⟩
def ipOf (v : Int) (l : List Int) : IPV := ⟨v, l.getD 0 0, l.getD 1 0, l.getD 2 0, l.getD 3 0, l.getD 4 0, l.getD 5 0, l.getD 6 0, l.getD 7 0, l.getD 8 0, l.getD 9 0, l.getD 10 0, l.getD 11 0, l.getD 12 0, l.getD 13 0, l.getD 14 0, l.getD 15 0⟩
/-- What is behind the forty bytes: headers, Frag, what is next, where the data are. -/
structure Tail6 where
  exts : List EP
  frag : FragV
  next : Int
  p : Nat
def fragAt (b : List Int) (p : Nat) : FragV := ⟨true, decide (b.getD (p + 3) 0 % 2 = 1), ((b.getD (p + 4) 0 * 256 + b.getD (p + 5) 0) * 256 + b.getD (p + 6) 0) * 256 + b.getD (p + 7) 0, (b.getD (p + 2) 0 * 32 + b.getD (p + 3) 0 / 8) * 8⟩
def walkS (b : List Int) (k : Int) (inner : Bool) : Except Int Tail6 :=
  match hdrsS b (!inner) k 0 0 with
  | .error e => .error e
  | .ok (l, k, p) => if k = 44 then
      (if inner = true then .error 76 else if b.length < p + 8 then .error 72
       else if fitsS (fragAt b p) (b.length - (p + 8)) = false then .error 76 else .ok ⟨l, fragAt b p, b.getD p 0, p + 8⟩)
    else .ok ⟨l, FragV.z, k, p⟩
def lenP (b : List Int) : Nat := (b.getD 4 0 * 256 + b.getD 5 0).toNat
def Tail6.d (b : List Int) (t : Tail6) : Ip6D :=
  ⟨b.getD 0 0 % 16 * 16 + b.getD 1 0 / 16, (b.getD 1 0 % 16 * 256 + b.getD 2 0) * 256 + b.getD 3 0, b.getD 7 0, ipOf 6 (bpart b 8 16), ipOf 6 (bpart b 24 16), t.exts.map (EP.d (bpart b 40 (lenP b))), t.frag, t.next, (bpart b 40 (lenP b)).drop t.p⟩
def chainS (k : Int) (b : List Int) : Except Int Tail6 := if k < 0 ∨ 255 < k then .error 1 else if 65535 < b.length then .error 2 else walkS b k true
def chained (k : Int) (b : List Int) : List ExtD × Int × List Int × Int := match chainS k b with
  | .error e => ([], 0, [], e)
  | .ok t => (t.exts.map (EP.d b), t.next, b.drop t.p, 0)
end Go.Eng
