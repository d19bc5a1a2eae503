/- Chapter 6, writing: Serialise, both programs. -/
import Derived.Test.YteppichfkeknbaaDoorBk
namespace Go.Proofs.YteppichfkeknbaaDoor
namespace N6
open Go.Eng Go.RowKit
section
variable {w : World} {Γ : List Fct} {b n c m : Nat} {A : Option Addr} {xs : List Int} {h : Ip4V} {os : List OptR} {data : List Int}
theorem values4 {hl tos tot id df mf off ttl proto : Int} (h1 : 0 ≤ hl ∧ hl ≤ 15) (h2 : 0 ≤ tos ∧ tos ≤ 255) (h3 : 0 ≤ tot ∧ tot ≤ 65535) (h4 : 0 ≤ id ∧ id ≤ 65535) (h5 : 0 ≤ df ∧ df ≤ 1) (h6 : 0 ≤ mf ∧ mf ≤ 1) (h7 : 0 ≤ off ∧ off ≤ 8191) (h8 : 0 ≤ ttl ∧ ttl ≤ 255) (h9 : 0 ≤ proto ∧ proto ≤ 255) :
    valuesOk ws4 [4, hl, tos, tot, id, 0, df, mf, off, ttl, proto, 0] := by
  refine ⟨rfl, fun i hi' => ?_⟩
  match i, hi' with
  | 0, _ => simp [ws4]
  | 1, _ => simp [ws4]; omega
  | 2, _ => simp [ws4]; omega
  | 3, _ => simp [ws4]; omega
  | 4, _ => simp [ws4]; omega
  | 5, _ => simp [ws4]
  | 6, _ => simp [ws4]; omega
  | 7, _ => simp [ws4]; omega
  | 8, _ => simp [ws4]; omega
  | 9, _ => simp [ws4]; omega
  | 10, _ => simp [ws4]; omega
  | 11, _ => simp [ws4]
structure Ok4 (h : Ip4V) (os : List OptR) (data : List Int) : Prop where
  tos : 0 ≤ h.tos ∧ h.tos ≤ 255
  id : 0 ≤ h.id ∧ h.id ≤ 65535
  off : 0 ≤ h.off ∧ h.off ≤ 65528
  off8 : h.off % 8 = 0
  ttl : 0 ≤ h.ttl ∧ h.ttl ≤ 255
  proto : 0 ≤ h.proto ∧ h.proto ≤ 255
  src : four4 h.src
  dst : four4 h.dst
  opts : (putOpts4 (os.map OptR.d)).2 = 0
  tot : tot4 (h.d os data) ≤ 65535
theorem Ok4.of (hc : check4S (h.d os data) = 0) : Ok4 h os data := by
  obtain ⟨h1, h2, h3, -⟩ := check4S_ok hc
  rw [bad4_iff] at h1
  exact ⟨by omega, by omega, by omega, by omega, by omega, by omega, Classical.byContradiction fun e => h1 (by simp [e]), Classical.byContradiction fun e => h1 (by simp [e]), h2, h3⟩
theorem front4_bts (_hA : Ip4At w h os data) (ho : Ok4 h os data) : Bts (front4 (h.d os data)) := by
  have hw : 0 ≤ word4 (h.d os data) ∧ word4 (h.d os data) < 65536 := by
    have := ho.off
    show 0 ≤ h.off / 8 + (if h.df = true then 16384 else 0) + (if h.mf = true then 8192 else 0) ∧ h.off / 8 + (if h.df = true then 16384 else 0) + (if h.mf = true then 8192 else 0) < 65536
    split <;> split <;> omega
  have h1 := ho.tos
  have h2 := ho.id
  have h3 := ho.ttl
  have h4 := ho.proto
  have h5 := ho.tot
  have h6 := putOpts4_len (h.d os data).opts
  have e1 : (h.d os data).tos = h.tos := rfl
  have e2 : (h.d os data).id = h.id := rfl
  have e3 : (h.d os data).ttl = h.ttl := rfl
  have e4 : (h.d os data).proto = h.proto := rfl
  unfold front4
  rw [e1, e2, e3, e4]
  exact bts_cons (by omega) (by omega) (bts_cons (by omega) (by omega) (bts_cons (by omega) (by omega) (bts_cons (by omega) (by omega) (bts_cons (by omega) (by omega) (bts_cons (by omega) (by omega) (bts_cons (by omega) (by omega) (bts_cons (by omega) (by omega) (bts_cons (by omega) (by omega) (bts_cons (by omega) (by omega) bts_nil)))))))))
theorem ip4B_bts {p : IPV} (hp : Bts p.bytes) : Bts (ip4B p) := fun x hx => hp x (by
  simp only [ip4B, List.mem_cons, List.not_mem_nil, or_false] at hx
  simp only [IPV.bytes, List.mem_cons, List.not_mem_nil, or_false]
  rcases hx with rfl | rfl | rfl | rfl <;> simp)
theorem back4_bts (hA : Ip4At w h os data) : Bts (back4 (h.d os data)) :=
  (ip4B_bts hA.src).append ((ip4B_bts hA.dst).append (putOpts4_bts fun o ho => by
    obtain ⟨r, hr, rfl⟩ := List.mem_map.1 ho
    exact (hA.opts.each r hr).bts))
theorem back4_len (d : Ip4D) : (back4 d).length = 8 + (putOpts4 d.opts).1.length := by
  unfold back4 ip4B; simp; omega
set_option maxHeartbeats 4000000 in
theorem serialise4_spec (hA : Ip4At w h os data) (hW : Wd w) : Calls Tryd.prog 41 #[h.val] w (Made w (ser4S (h.d os data))) := by
  refine ip4_Serialise_of h w _ ?_
  unfold ip4_Serialise_VC
  have hD := hA.data
  have hdl := hD.len
  have hds := hD.small
  have okw := fun hc => Ok4.of (h := h) (os := os) (data := data) hc
  have hfB := fun hc => front4_bts hA (okw hc)
  have hbB := back4_bts hA
  obtain ⟨d, hd⟩ : ∃ d, h.d os data = d := ⟨_, rfl⟩
  have e_opts : d.opts = os.map OptR.d := by rw [← hd]; rfl
  have e_data : d.data = data := by rw [← hd]; rfl
  have e_tos : d.tos = h.tos := by rw [← hd]; rfl
  have e_id : d.id = h.id := by rw [← hd]; rfl
  have e_df : d.df = h.df := by rw [← hd]; rfl
  have e_mf : d.mf = h.mf := by rw [← hd]; rfl
  have e_off : d.off = h.off := by rw [← hd]; rfl
  have e_ttl : d.ttl = h.ttl := by rw [← hd]; rfl
  have e_proto : d.proto = h.proto := by rw [← hd]; rfl
  have e_src : d.src = h.src := by rw [← hd]; rfl
  have e_dst : d.dst = h.dst := by rw [← hd]; rfl
  rw [hd] at okw hfB hbB
  refine NewVC.sep (Sep.start0 w) fun g1 w1 H => Ip4V.of h ⟨H.at 1 rfl, ?_⟩
  refine (check4_spec (hA.ext (H.restOf 0 rfl))).mono ?_
  rintro _ w2 ⟨hE2, rfl⟩
  have H := H.ext hE2
  rw [hd]
  refine ⟨_, rfl, Br.dec (fun hne => Made.err (H.restOf 0 rfl) (by unfold ser4S; rw [if_pos hne])) fun heq => ⟨_, _, _, H.cell 1 rfl 41 rfl, ?_⟩⟩
  have hck : check4S d = 0 := by omega
  have ok := okw hck
  have hfB := hfB hck
  refine (putOpts4_spec (hA.opts.ext (H.restOf 0 rfl))).mono ?_
  rintro _ w3 ⟨PA, pc, rfl, H3⟩
  have H := (H.made H3).lower 2 rfl (b' := w.heap.size) (H.restOf 0 rfl).size
  rw [← e_opts] at H ⊢
  have hpl := putOpts4_len d.opts
  have htot := ok.tot
  have ok_tos := ok.tos
  have ok_id := ok.id
  have ok_off := ok.off
  have ok_off8 := ok.off8
  have ok_ttl := ok.ttl
  have ok_proto := ok.proto
  rw [hd] at htot
  have etot : tot4 d = 20 + (putOpts4 d.opts).1.length + h.data.n := by unfold tot4; rw [e_data, hdl]
  obtain ⟨O, hO⟩ : ∃ O, (putOpts4 d.opts).1 = O := ⟨_, rfl⟩
  rw [hO] at H hpl etot ⊢
  refine ⟨_, _, _, _, rfl, 4, 4, 8, 16, 16, 1, 1, 1, 13, 8, 8, 16, hW.ext (H.restOf 0 rfl), ?_⟩
  refine NewVC.sep H fun g2 w4 H => ?_
  refine Stores.sep H 3 rfl (fun v hv => ints_one .i64 ws4 v hv) (Nat.le_refl 12) (splice_all rfl) fun w5 H => ?_
  refine DrawVC.sep H (fun w' => Blk w' g1 28 h.cells) fun w6 H => ⟨H.blk 1 rfl, ?_⟩
  refine ⟨_, fun w' hb => hb.cell 0, _, _, _, fun w' hb => hb.cell 42, _, fun w' hb => hb.cell 1, _, fun w' hb => hb.cell 2, _, fun w' hb => hb.cell 3, _, fun w' hb => hb.cell 4, _, fun w' hb => hb.cell 5, _, fun w' hb => hb.cell 6, ?_⟩
  refine bit4_spec.mono ?_
  rintro _ _ ⟨rfl, rfl⟩
  refine ⟨_, rfl, H.blk 1 rfl, ?_⟩
  refine bit4_spec.mono ?_
  rintro _ _ ⟨rfl, rfl⟩
  refine ⟨_, rfl, H.blk 1 rfl, ?_⟩
  have edf : 0 ≤ b2i h.df ∧ b2i h.df ≤ 1 := by unfold b2i; split <;> decide
  have emf : 0 ≤ b2i h.mf ∧ b2i h.mf ≤ 1 := by unfold b2i; split <;> decide
  have et4 : Int.tdiv (20 + (O.length : Int)) 4 = (((20 + O.length) / 4 : Nat) : Int) := by
    have := tdiv_nat (20 + O.length) 4
    rw [show (20 + (O.length : Int)) = ((20 + O.length : Nat) : Int) by omega]; exact this
  rw [w64 (n := 20 + (O.length : Int)) (by omega) (by omega), et4, w64 (n := (((20 + O.length) / 4 : Nat) : Int)) (by omega) (by omega), Int.tdiv_eq_ediv_of_nonneg ok_off.1, w64 (n := h.off / 8) (by omega) (by omega), w64 (n := 20 + (O.length : Int) + (h.data.n : Int)) (by omega) (by omega)]
  refine NewVC.sep H fun g3 w9 H => ⟨H.blk 1 rfl, ?_⟩
  refine (pack_ok (ws := ws4) (vs := [4, (((20 + O.length) / 4 : Nat) : Int), h.tos, 20 + (O.length : Int) + (h.data.n : Int), h.id, 0, b2i h.df, b2i h.mf, h.off / 8, h.ttl, h.proto, 0]) (by simpa [ws4] using Cells.of_blk (H.blk 3 rfl) 0) rfl (by simpa using Cells.of_blk (H.blk 4 rfl) 0) rfl ws4_ok rfl).mono ?_
  rintro _ w10 ⟨hE10, ⟨-, BA, ds, hpk, rfl, hown⟩ | ⟨hno, rfl⟩⟩
  case inr => exact absurd (values4 (by omega) ok_tos (by omega) ok_id edf emf (by omega) ok_ttl ok_proto) hno
  have hds' := packed4 edf emf hpk
  have hfd : ds = front4 d ++ [0, 0] := by
    unfold front4 word4
    rw [hds', hO, e_tos, e_id, e_off, e_df, e_mf, e_ttl, e_proto, etot]
    have ew : h.off / 8 + b2i h.df * 16384 + b2i h.mf * 8192 = h.off / 8 + (if h.df = true then 16384 else 0) + (if h.mf = true then 8192 else 0) := by
      unfold b2i; split <;> split <;> omega
    rw [ew]
    simp
  have hdl12 : ds.length = 12 := by rw [hds']; rfl
  have H := (H.pushOwn hE10 hown (Nat.le_refl _)).lower 5 rfl (b' := w.heap.size) (H.restOf 0 rfl).size
  refine ⟨_, _, _, _, rfl, H.blk 1 rfl, Br.no (show ¬ ((0 : Int) ≠ 0) by decide) ?_⟩
  clear hds' hpk
  refine ⟨by decide, by decide, ?_⟩
  refine appB H 5 rfl (m := 4) (ys := ip4B h.src) ((Cells.of_blk (H.blk 1 rfl) 8).take 4) rfl (by omega) (H.restOf 0 rfl).size fun A2 c2 w11 H _ => ⟨by decide, by decide, ?_⟩
  refine appB H 5 rfl (m := 4) (ys := ip4B h.dst) ((Cells.of_blk (H.blk 1 rfl) 25).take 4) rfl (by omega) (H.restOf 0 rfl).size fun A3 c3 w12 H _ => ?_
  refine appB H 5 rfl (ys := O) (H.cells 2 rfl) rfl (by omega) (H.restOf 0 rfl).size fun A4 c4 w13 H _ => ?_
  have H : Sep [Fct.rest w None, Fct.blk g1 28 h.cells, ownB w.heap.size (.slice A4 (ds.length + 4 + 4 + O.length) c4) (ds.length + 4 + 4 + O.length) (ds ++ ip4B h.src ++ ip4B h.dst ++ O)] w13 := ((H.del 2).del 2).del 2
  have hbk : back4 d = ip4B h.src ++ (ip4B h.dst ++ O) := by unfold back4; rw [e_src, e_dst, hO]
  have hall : ds ++ ip4B h.src ++ ip4B h.dst ++ O = front4 d ++ ([0, 0] ++ back4 d) := by rw [hfd, hbk]; simp
  rw [hall] at H
  have hln : ds.length + 4 + 4 + O.length = (front4 d ++ ([0, 0] ++ back4 d)).length := by
    rw [← hall]; simp [ip4B]; omega
  rw [hln] at H ⊢
  have hlen : (front4 d ++ ([0, 0] ++ back4 d)).length = 20 + O.length := by rw [← hln]; omega
  refine NewVC.sep H fun g4 w14 H => ?_
  let ps : List PartV := [⟨A4, (front4 d ++ ([0, 0] ++ back4 d)).length, c4, front4 d ++ ([0, 0] ++ back4 d)⟩]
  have hzB : Bts ([0, 0] : List Int) := fun x hx => by simp at hx; omega
  have hps : PartsAt w14 (some ⟨g4, 0, none⟩) ps := by
    refine ⟨by simpa [ps, PartV.val] using Cells.of_blk (H.blk 3 rfl) 0, fun p hp => ?_⟩
    simp only [ps, List.mem_cons, List.not_mem_nil, or_false] at hp
    subst hp
    exact ⟨H.cells 2 rfl, rfl, hfB.append (hzB.append hbB), by show (front4 d ++ ([0, 0] ++ back4 d)).length ≤ 70000; omega⟩
  refine (sumCheck_spec (m := 1) hps rfl (by decide)).mono ?_
  rintro _ _ ⟨rfl, rfl⟩
  have hgr : groundS ps = front4 d ++ ([0, 0] ++ back4 d) := by simp [groundS, ps]
  rw [hgr]
  have hsb := foldS_bound (rawS_bound (hfB.append (hzB.append hbB)) true).1
  have hs4 : 65535 - sumS (front4 d ++ ([0, 0] ++ back4 d)) = sum4 d := rfl
  rw [hs4]
  have hs4b : 0 ≤ sum4 d ∧ sum4 d ≤ 65535 := by rw [← hs4]; unfold sumS; omega
  have e1 : IntKind.u8.wrap (Int.fdiv (sum4 d) 256) = sum4 d / 256 := by rw [Int.fdiv_eq_ediv_of_nonneg _ (by decide), wu8 (by omega) (by omega)]
  have e2 : IntKind.u8.wrap (sum4 d) = sum4 d % 256 := u8_eq _
  refine ⟨_, rfl, ?_⟩
  rw [e1, e2]
  refine setB H 2 (i := 10) rfl (by omega) (by omega) fun w16 H => ?_
  refine setB H 2 (i := 11) rfl (by omega) (by omega) fun w17 H => ⟨_, _, _, H.cell 1 rfl 42 rfl, ?_⟩
  have H := H.take 3
  have hset : ((front4 d ++ ([0, 0] ++ back4 d)).set 10 (sum4 d / 256)).set 11 (sum4 d % 256) = front4 d ++ ([sum4 d / 256, sum4 d % 256] ++ back4 d) := rfl
  rw [hset] at H
  refine appB H 2 rfl (ys := data) (hD.ext (H.restOf 0 rfl)).cells hdl (by omega) (H.restOf 0 rfl).size fun A5 c5 w18 H _ => ?_
  refine Made.ok (out := (front4 d ++ ([sum4 d / 256, sum4 d % 256] ++ back4 d)) ++ data) ?_ ((H.del 1).take 2)
  unfold ser4S
  rw [if_neg heq, e_data]
  simp
theorem add4_spec {k : Int} (ho : w.ownsRow b 5 1 (.slice A n c) n (xs.map (.int .u8))) (hb : b ≤ w.heap.size) (hn : n ≤ 1000000) (hk : 0 ≤ k ∧ k ≤ 65535) :
    Calls Tryd.prog 113 #[.slice A n c, .int .i64 k] w fun e w' => ∃ A2 c2, e = .returned (.slice A2 (n + 2) c2) ∧
      Sep [Fct.rest w (fun j => (Value.slice A n c).ownBlock = some j), ownB b (.slice A2 (n + 2) c2) (n + 2) (xs ++ [k / 256, k % 256])] w' := by
  refine weirref6_add_of A n c k w _ ?_
  unfold weirref6_add_VC
  rw [Int.tdiv_eq_ediv_of_nonneg hk.1, w64 (by omega) (by omega), wu8 (by omega) (by omega), Int.tmod_eq_emod_of_nonneg hk.1, wu8 (by omega) (by omega)]
  have H := Sep.begin (f := ownB b (.slice A n c) n xs) (M := fun j => (Value.slice A n c).ownBlock = some j) ho (fun _ e => e) fun j hj => (ho.lt j hj).2
  refine NewVC.sep H fun g1 w1 H => ?_
  refine appB H 1 rfl (m := 2) (ys := [k / 256, k % 256]) (by simpa using Cells.of_blk (H.blk 2 rfl) 0) rfl (by omega) (by have := (H.restOf 0 rfl).size; omega) fun A2 c2 w2 H _ => ?_
  exact ⟨A2, c2, rfl, H.take 2⟩
set_option maxHeartbeats 4000000 in
theorem refSerialise4_spec (hA : Ip4At w h os data) : Calls Tryd.prog 96 #[h.val] w (Made w (ser4S (h.d os data))) := by
  refine weirref6_Serialise_of h w _ ?_
  unfold weirref6_Serialise_VC
  have hD := hA.data
  have hdl := hD.len
  have hds := hD.small
  have okw := fun hc => Ok4.of (h := h) (os := os) (data := data) hc
  have hfB := fun hc => front4_bts hA (okw hc)
  have hbB := back4_bts hA
  obtain ⟨d, hd⟩ : ∃ d, h.d os data = d := ⟨_, rfl⟩
  have e_opts : d.opts = os.map OptR.d := by rw [← hd]; rfl
  have e_data : d.data = data := by rw [← hd]; rfl
  have e_tos : d.tos = h.tos := by rw [← hd]; rfl
  have e_id : d.id = h.id := by rw [← hd]; rfl
  have e_df : d.df = h.df := by rw [← hd]; rfl
  have e_mf : d.mf = h.mf := by rw [← hd]; rfl
  have e_off : d.off = h.off := by rw [← hd]; rfl
  have e_ttl : d.ttl = h.ttl := by rw [← hd]; rfl
  have e_proto : d.proto = h.proto := by rw [← hd]; rfl
  have e_src : d.src = h.src := by rw [← hd]; rfl
  have e_dst : d.dst = h.dst := by rw [← hd]; rfl
  rw [hd] at okw hfB hbB
  refine NewVC.sep (Sep.start0 w) fun g1 w1 H => Ip4V.of h ⟨H.at 1 rfl, ?_⟩
  refine (refCheck4_spec (hA.ext (H.restOf 0 rfl))).mono ?_
  rintro _ w2 ⟨hE2, rfl⟩
  have H := H.ext hE2
  rw [hd]
  refine ⟨_, rfl, Br.dec (fun hne => Made.err (H.restOf 0 rfl) (by unfold ser4S; rw [if_pos hne])) fun heq => ⟨_, _, _, H.cell 1 rfl 41 rfl, ?_⟩⟩
  have hck : check4S d = 0 := by omega
  have ok := okw hck
  have hfB := hfB hck
  refine (refPutOpts4_spec (hA.opts.ext (H.restOf 0 rfl))).mono ?_
  rintro _ w3 ⟨PA, pc, rfl, H3⟩
  have H := (H.made H3).lower 2 rfl (b' := w.heap.size) (H.restOf 0 rfl).size
  rw [← e_opts] at H ⊢
  have hpl := putOpts4_len d.opts
  have htot := ok.tot
  have ok_tos := ok.tos
  have ok_id := ok.id
  have ok_off := ok.off
  have ok_off8 := ok.off8
  have ok_ttl := ok.ttl
  have ok_proto := ok.proto
  rw [hd] at htot
  have etot : tot4 d = 20 + (putOpts4 d.opts).1.length + h.data.n := by unfold tot4; rw [e_data, hdl]
  obtain ⟨O, hO⟩ : ∃ O, (putOpts4 d.opts).1 = O := ⟨_, rfl⟩
  rw [hO] at H hpl etot ⊢
  refine ⟨_, _, _, _, rfl, _, H.cell 1 rfl 4 rfl, ?_⟩
  rw [Int.tdiv_eq_ediv_of_nonneg ok_off.1, w64 (n := h.off / 8) (by omega) (by omega), w64 (n := h.off / 8 + 16384) (by omega) (by omega)]
  refine JoinVC.of (fun st w' => w3 = w' ∧ st = h.off / 8 + (if h.df = true then 16384 else 0)) ?_ ?_
  · refine ⟨_, H.cell 1 rfl 2 rfl, ?_⟩
    cases h.df with
    | true => exact Br.t rfl ⟨rfl, rfl⟩
    | false => exact Br.f rfl ⟨rfl, by simp⟩
  rintro _ _ ⟨rfl, rfl⟩
  unfold weirref6_Serialise_J127
  have hw1 : 0 ≤ h.off / 8 + (if h.df = true then 16384 else 0) ∧ h.off / 8 + (if h.df = true then 16384 else 0) ≤ 30000 := by split <;> omega
  have ew : word4 d = h.off / 8 + (if h.df = true then 16384 else 0) + (if h.mf = true then 8192 else 0) := by unfold word4; rw [e_off, e_df, e_mf]
  have hw2 : 0 ≤ word4 d ∧ word4 d ≤ 65535 := by rw [ew]; split <;> omega
  refine JoinVC.of (fun st w' => w3 = w' ∧ st = word4 d) ?_ ?_
  · refine ⟨_, H.cell 1 rfl 3 rfl, ?_⟩
    rw [w64 (by omega) (by omega), ew]
    cases h.mf with
    | true => exact Br.t rfl ⟨rfl, rfl⟩
    | false => exact Br.f rfl ⟨rfl, by simp⟩
  rintro _ _ ⟨rfl, rfl⟩
  unfold weirref6_Serialise_J255
  have et4 : Int.tdiv (20 + (O.length : Int)) 4 = (((20 + O.length) / 4 : Nat) : Int) := by
    have := tdiv_nat (20 + O.length) 4
    rw [show (20 + (O.length : Int)) = ((20 + O.length : Nat) : Int) by omega]; exact this
  refine ⟨_, H.cell 1 rfl 0 rfl, ?_⟩
  rw [w64 (n := 20 + (O.length : Int)) (by omega) (by omega), et4, w64 (n := (((20 + O.length) / 4 : Nat) : Int)) (by omega) (by omega), w64 (n := 64 + (((20 + O.length) / 4 : Nat) : Int)) (by omega) (by omega), wu8 (by omega) (by omega), wu8 (n := h.tos) (by omega) (by omega)]
  refine NewVC.sep H fun g2 w6 H => ⟨_, _, _, H.cell 1 rfl 42 rfl, ?_⟩
  rw [w64 (n := 20 + (O.length : Int) + (h.data.n : Int)) (by omega) (by omega)]
  have hg2 := H.fresh 0 3 (by decide) rfl rfl
  have H : Sep [Fct.rest w None, Fct.blk g1 28 h.cells, ownB w.heap.size (.slice PA O.length pc) O.length O, ownB w.heap.size (.slice (some ⟨g2, 0, none⟩) 2 2) 2 [64 + (((20 + O.length) / 4 : Nat) : Int), h.tos]] w6 :=
    H.blkOwn 3 rfl hg2 (c := 2) rfl (Nat.le_refl 2) (by simp only [maxLen]; omega)
  refine (add4_spec (k := 20 + (O.length : Int) + (h.data.n : Int)) (H.own 3 rfl) (H.restOf 0 rfl).size (by omega) (by omega)).mono ?_
  rintro _ w7 ⟨A7, c7, rfl, H7⟩
  have H := H.call 3 rfl (fun k hk => hk) H7
  refine ⟨_, _, _, rfl, _, H.cell 1 rfl 1 rfl, ?_⟩
  refine (add4_spec (k := h.id) (H.own 3 rfl) (H.restOf 0 rfl).size (by omega) (by omega)).mono ?_
  rintro _ w8 ⟨A8, c8, rfl, H8⟩
  have H := H.call 3 rfl (fun k hk => hk) H8
  refine ⟨_, _, _, rfl, ?_⟩
  refine (add4_spec (k := word4 d) (H.own 3 rfl) (H.restOf 0 rfl).size (by omega) (by omega)).mono ?_
  rintro _ w9 ⟨A9, c9, rfl, H9⟩
  have H := H.call 3 rfl (fun k hk => hk) H9
  refine ⟨_, _, _, rfl, _, H.cell 1 rfl 5 rfl, _, H.cell 1 rfl 6 rfl, ?_⟩
  rw [wu8 (n := h.ttl) (by omega) (by omega), wu8 (n := h.proto) (by omega) (by omega)]
  refine NewVC.sep H fun g3 w10 H => ?_
  refine appB H 3 rfl (m := 2) (ys := [h.ttl, h.proto]) (by simpa using Cells.of_blk (H.blk 4 rfl) 0) rfl (by omega) (H.restOf 0 rfl).size fun A10 c10 w11 H _ => ?_
  have hfd : [64 + (((20 + O.length) / 4 : Nat) : Int), h.tos] ++ [(20 + (O.length : Int) + (h.data.n : Int)) / 256, (20 + (O.length : Int) + (h.data.n : Int)) % 256] ++ [h.id / 256, h.id % 256] ++ [word4 d / 256, word4 d % 256] ++ [h.ttl, h.proto] = front4 d := by
    unfold front4
    rw [hO, e_tos, e_id, e_ttl, e_proto, etot]
    simp
  rw [hfd] at H
  have H : Sep [Fct.rest w None, Fct.blk g1 28 h.cells, ownB w.heap.size (.slice PA O.length pc) O.length O, ownB w.heap.size (.slice A10 10 c10) 10 (front4 d), ownB w.heap.size (.slice none 0 0) 0 []] w11 := (H.take 4).nil _ _ _
  refine LoopVC.of (fun st w' => ∃ i : Nat, st.2 = (i : Int) ∧ i ≤ 4 ∧ st.1.2.1 = i ∧ Sep [Fct.rest w None, Fct.blk g1 28 h.cells, ownB w.heap.size (.slice PA O.length pc) O.length O, ownB w.heap.size (.slice A10 10 c10) 10 (front4 d), ownB w.heap.size (.slice st.1.1 st.1.2.1 st.1.2.2) st.1.2.1 ((ip4B h.src).take i)] w') (fun st _ => (4 - st.2).toNat) ⟨0, rfl, by decide, rfl, H⟩ ?_
  rintro ⟨⟨A1, n1, c1⟩, _⟩ w12 ⟨i, rfl, hi, hn1, H⟩
  simp only at hn1 H
  subst hn1
  show weirref6_Serialise_L262138 _ g1 PA O.length pc A10 10 c10 A1 n1 c1 (n1 : Int) w12 _
  unfold weirref6_Serialise_L262138
  refine Br.dec (fun hlt => ?_) fun hge => ?_
  · refine IdxVC.int (xs := h.src.bytes) (n := 16) ((Cells.of_blk (H.blk 1 rfl) 8).take 16) (by omega) (by omega) rfl fun a hc => ⟨_, hc, ?_⟩
    refine NewVC.sep H fun g4 w13 H => ?_
    refine appB H 4 rfl (m := 1) (ys := [h.src.bytes.getD n1 0]) (by simpa using Cells.of_blk (H.blk 5 rfl) 0) rfl (by omega) (H.restOf 0 rfl).size fun A2 c2 w14 H _ => ?_
    rw [w64 (by omega) (by omega)]
    refine ⟨⟨n1 + 1, rfl, by omega, rfl, ?_⟩, by show (4 - ((n1 : Int) + 1)).toNat < (4 - (n1 : Int)).toNat; omega⟩
    have et := take_snoc (ip4B h.src) n1 (by show n1 < 4; omega)
    have eg : (ip4B h.src).getD n1 0 = h.src.bytes.getD n1 0 := by
      match n1, hlt with
      | 0, _ => rfl
      | 1, _ => rfl
      | 2, _ => rfl
      | 3, _ => rfl
      | k + 4, hk => exact absurd hk (by omega)
    rw [eg] at et
    rw [et]
    exact H.take 5
  have h4 : n1 = 4 := by omega
  subst h4
  have es : (ip4B h.src).take 4 = ip4B h.src := rfl
  rw [es] at H
  refine LoopVC.of (fun st w' => ∃ i : Nat, st.2 = (i : Int) ∧ i ≤ 4 ∧ st.1.2.1 = 4 + i ∧ Sep [Fct.rest w None, Fct.blk g1 28 h.cells, ownB w.heap.size (.slice PA O.length pc) O.length O, ownB w.heap.size (.slice A10 10 c10) 10 (front4 d), ownB w.heap.size (.slice st.1.1 st.1.2.1 st.1.2.2) st.1.2.1 (ip4B h.src ++ (ip4B h.dst).take i)] w') (fun st _ => (4 - st.2).toNat) ⟨0, rfl, by decide, rfl, by simpa using H⟩ ?_
  rintro ⟨⟨A5, n5, c5⟩, _⟩ w15 ⟨j, rfl, hj, hn5, H⟩
  simp only at hn5 H
  subst hn5
  show weirref6_Serialise_L524282 _ g1 PA O.length pc A10 10 c10 A5 (4 + j) c5 (j : Int) w15 _
  unfold weirref6_Serialise_L524282
  refine Br.dec (fun hlt => ?_) fun hge => ?_
  · refine IdxVC.int (xs := h.dst.bytes) (n := 16) ((Cells.of_blk (H.blk 1 rfl) 25).take 16) (by omega) (by omega) rfl fun a hc => ⟨_, hc, ?_⟩
    refine NewVC.sep H fun g4 w13 H => ?_
    refine appB H 4 rfl (m := 1) (ys := [h.dst.bytes.getD j 0]) (by simpa using Cells.of_blk (H.blk 5 rfl) 0) rfl (by omega) (H.restOf 0 rfl).size fun A2 c2 w14 H _ => ?_
    rw [w64 (by omega) (by omega)]
    refine ⟨⟨j + 1, rfl, by omega, rfl, ?_⟩, by show (4 - ((j : Int) + 1)).toNat < (4 - (j : Int)).toNat; omega⟩
    have et := take_snoc (ip4B h.dst) j (by show j < 4; omega)
    have eg : (ip4B h.dst).getD j 0 = h.dst.bytes.getD j 0 := by
      match j, hlt with
      | 0, _ => rfl
      | 1, _ => rfl
      | 2, _ => rfl
      | 3, _ => rfl
      | k + 4, hk => exact absurd hk (by omega)
    rw [eg] at et
    rw [et, ← List.append_assoc]
    exact H.take 5
  have h4 : j = 4 := by omega
  subst h4
  have ed : (ip4B h.dst).take 4 = ip4B h.dst := rfl
  rw [ed] at H
  refine appB H 4 rfl (ys := O) (H.cells 2 rfl) rfl (by omega) (H.restOf 0 rfl).size fun A6 c6 w18 H _ => ?_
  have hbk : ip4B h.src ++ ip4B h.dst ++ O = back4 d := by unfold back4; rw [e_src, e_dst, hO, List.append_assoc]
  rw [hbk] at H
  have hbl : (back4 d).length = 4 + 4 + O.length := by rw [back4_len, hO]
  refine NewVC.sep H fun g6 w19 H => ?_
  let ps : List PartV := [⟨A10, 10, c10, front4 d⟩, ⟨A6, 4 + 4 + O.length, c6, back4 d⟩]
  have hps : PartsAt w19 (some ⟨g6, 0, none⟩) ps := by
    refine ⟨by simpa [ps, PartV.val] using Cells.of_blk (H.blk 5 rfl) 0, fun p hp => ?_⟩
    simp only [ps, List.mem_cons, List.not_mem_nil, or_false] at hp
    rcases hp with rfl | rfl
    · exact ⟨H.cells 3 rfl, rfl, hfB, by show 10 ≤ 70000; decide⟩
    · exact ⟨H.cells 4 rfl, hbl, hbB, by show 4 + 4 + O.length ≤ 70000; omega⟩
  refine (refCheck_spec (m := 2) hps rfl (by decide)).mono ?_
  rintro _ _ ⟨rfl, rfl⟩
  have hgr : groundS ps = front4 d ++ back4 d := by simp [groundS, ps]
  have hzB : Bts ([0, 0] : List Int) := fun x hx => by simp at hx; omega
  have hs4 : 65535 - sumS (front4 d ++ back4 d) = sum4 d := by unfold sum4; rw [sum_gap (by simp [front4])]
  have hsb := foldS_bound (rawS_bound (hfB.append hbB) true).1
  have hs4b : 0 ≤ sum4 d ∧ sum4 d ≤ 65535 := by rw [← hs4]; unfold sumS; omega
  rw [hgr, hs4]
  refine ⟨_, rfl, ?_⟩
  refine (add4_spec (k := sum4 d) (H.own 3 rfl) (H.restOf 0 rfl).size (by omega) hs4b).mono ?_
  rintro _ w21 ⟨A11, c11, rfl, H11⟩
  have H := H.call 3 rfl (fun k hk => hk) H11
  refine ⟨_, _, _, rfl, ?_⟩
  refine appB H 3 rfl (ys := back4 d) (H.cells 4 rfl) hbl (by omega) (H.restOf 0 rfl).size fun A12 c12 w22 H _ => ⟨_, _, _, H.cell 1 rfl 42 rfl, ?_⟩
  refine appB H 3 rfl (ys := data) (hD.ext (H.restOf 0 rfl)).cells hdl (by omega) (H.restOf 0 rfl).size fun A13 c13 w23 H _ => ?_
  refine Made.ok (out := ((front4 d ++ [sum4 d / 256, sum4 d % 256]) ++ back4 d) ++ data) ?_ (((H.del 1).del 1).take 2)
  unfold ser4S
  rw [if_neg heq, e_data]
  simp
end
end N6
end Go.Proofs.YteppichfkeknbaaDoor
