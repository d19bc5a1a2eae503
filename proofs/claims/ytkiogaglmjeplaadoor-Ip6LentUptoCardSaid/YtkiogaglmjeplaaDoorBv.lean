/- Chapter 7: what is written, as it lies there; Canonical and Hop. -/
import Derived.Test.YtkiogaglmjeplaaDoorBu
import Derived.Test.YtkiogaglmjeplaaDoorBj
import Derived.Test.YtkiogaglmjeplaaDoorBn
import Derived.Test.YtkiogaglmjeplaaDoorBh
namespace Go.Eng
open Go Go.RowKit
structure Ip6D.ok (d : Ip6D) : Prop where
  exts : ∀ x ∈ d.exts, x.ok
  data : Bts d.data
  src : Bts d.src.bytes
  dst : Bts d.dst.bytes
theorem Ip6At.ok {w : World} {h : Ip6V} {es : List ExtR} {data : List Int} (H : Ip6At w h es data) : (h.d es data).ok := by
  refine ⟨fun x hx => ?_, H.data.bts, H.src, H.dst⟩
  obtain ⟨r, hr, rfl⟩ := List.mem_map.1 hx
  refine ⟨(H.exts.data r hr).bts, fun o ho => ?_⟩
  obtain ⟨q, hq, rfl⟩ := List.mem_map.1 ho
  exact ((H.exts.opts r hr).each q hq).bts
theorem firstK_range {d : Ip6D} (h : (ser6S d).2 = 0) : 0 ≤ firstK d ∧ firstK d ≤ 255 := by
  rcases ser6S_cases d with ⟨h1, _⟩ | ⟨_, hf, hh, _, _, _⟩
  · exact absurd h h1
  · obtain ⟨h8, hok, _⟩ := headersS_ok hh
    unfold fieldBad at hf
    unfold firstK
    split
    · rename_i x l hx
      have := bodyS_isH (hok 0 x (by rw [hx]; simp) (by rw [hx]; rfl)).2
      unfold isH at this
      omega
    · unfold behindK; split <;> omega
theorem bts_list {l : List Int} (h : l.all (fun x => decide (0 ≤ x) && decide (x < 256)) = true) : Bts l := fun x hx => by
  have := List.all_eq_true.1 h x hx
  simp at this; exact this
theorem fragB_bts {d : Ip6D} (h : fragE d = 0) (hn : 0 ≤ d.next ∧ d.next ≤ 255) : Bts (fragB d) := by
  unfold fragB
  split
  · rename_i hh
    unfold fragE at h
    rw [if_pos hh] at h
    split at h
    · exact absurd h (by decide)
    · rename_i hc
      have hm : 0 ≤ b2i d.frag.more ∧ b2i d.frag.more ≤ 1 := by unfold b2i; split <;> decide
      unfold four
      intro x hx
      simp only [List.cons_append, List.nil_append, List.mem_cons, List.not_mem_nil, or_false] at hx
      rcases hx with rfl | rfl | rfl | rfl | rfl | rfl | rfl | rfl <;> omega
  · exact bts_nil
theorem ser6S_bts {d : Ip6D} (hd : d.ok) : Bts (ser6S d).1 := by
  rcases ser6S_cases d with ⟨_, e⟩ | ⟨h0, hf, hh, hfr, hl, e⟩
  · rw [e]; exact bts_nil
  · rw [e]
    have hk := firstK_range h0
    unfold fieldBad at hf
    refine Bts.append ?_ (hd.src.append (hd.dst.append ?_))
    · unfold head6
      intro x hx
      simp only [List.mem_cons, List.not_mem_nil, or_false] at hx
      rcases hx with rfl | rfl | rfl | rfl | rfl | rfl | rfl | rfl <;> omega
    · unfold bodyB
      exact (headersS_bts hd.exts).append ((fragB_bts hfr (by omega)).append hd.data)
theorem putChainS_bts {l : List ExtD} (hl : ∀ x ∈ l, x.ok) (next : Int) : Bts (putChainS l next).1 := by
  unfold putChainS
  split
  · exact bts_nil
  · split
    · exact bts_nil
    · split
      · exact headersS_bts hl
      · exact bts_nil
theorem putChainS_len (l : List ExtD) (next : Int) : (putChainS l next).1.length ≤ 16384 := by
  unfold putChainS
  split
  · simp
  · split
    · simp
    · split
      · exact headersS_len _ _ _
      · simp
end Go.Eng
namespace Go.Proofs.YtkiogaglmjeplaaDoor
namespace N6
open Go.Eng Go.RowKit
/-- Bytes and an error are handed back. -/
def Wrote (w : World) (r : List Int × Int) (e : Ending) (w' : World) : Prop := ∃ s' : Sl, e = .returned (.tuple #[s'.val, .int .i64 r.2]) ∧ BytesAt w' s' r.1 ∧ Ext w w'
section
variable {w : World} {s : Sl} {l : List Int}
theorem Made.wrote {r : List Int × Int} {e : Ending} {w' : World} (h : Made w r e w') (hl : r.1.length ≤ 4000000) (hB : Bts r.1) : Wrote w r e w' := by
  obtain ⟨A, c, rfl, H⟩ := h
  exact ⟨⟨A, r.1.length, c⟩, rfl, bytesAt_of (b := w.heap.size) (H.own 1 rfl) ⟨hl, hB⟩, H.restOf 0 rfl⟩
theorem MadeW.wrote {r : List Int × Int} {e : Ending} {w' : World} (h : MadeW w r e w') (hl : r.1.length ≤ 4000000) (hB : Bts r.1) : Wrote w r e w' := by
  obtain ⟨A, c, rfl, H⟩ := h
  have hw := H.win 1 rfl
  refine ⟨⟨A, r.1.length, c⟩, rfl, ⟨rfl, ?_, hl, hB, hw.cells⟩, H.restOf 0 rfl⟩
  rcases hw.2 with ⟨h1, h2⟩ | ⟨g, c', cs, h1, _, h2, _⟩
  · show r.1.length ≤ c; omega
  · injection h1 with _ _ h3
    show r.1.length ≤ c; omega
theorem ser_at {h : Ip6V} {es : List ExtR} {data : List Int} (hA : Ip6At w h es data) (hK : Kn w) : Calls Tryd.prog 19 #[h.val] w (Wrote w (ser6S (h.d es data))) :=
  (serialise_spec hA hK).mono fun _ _ h => MadeW.wrote h (by have := ser6S_len (‹Ip6V›.d es data); omega) (ser6S_bts hA.ok)
theorem refSer_at {h : Ip6V} {es : List ExtR} {data : List Int} (hA : Ip6At w h es data) : Calls Tryd.prog 33 #[h.val] w (Wrote w (ser6S (h.d es data))) :=
  (refSerialise_spec hA).mono fun _ _ h => Made.wrote h (by have := ser6S_len (‹Ip6V›.d es data); omega) (ser6S_bts hA.ok)
theorem ExtsAt.ok {rs : List ExtR} (h : ExtsAt w s rs) : ∀ x ∈ rs.map ExtR.d, x.ok := by
  intro x hx
  obtain ⟨r, hr, rfl⟩ := List.mem_map.1 hx
  refine ⟨(h.data r hr).bts, fun o ho => ?_⟩
  obtain ⟨q, hq, rfl⟩ := List.mem_map.1 ho
  exact ((h.opts r hr).each q hq).bts
end
end N6
end Go.Proofs.YtkiogaglmjeplaaDoor
/- Chapter 7's laws: what is asked ahead of every script. -/
namespace Go.Eng
open Go Go.RowKit
def plainIP (z : Int) : IPV := ⟨6, 32, 1, 0, 0, 0, 0, 0, 0, 0, 0, 0, 0, 0, 0, 0, z⟩
def plainD : Ip6D := ⟨0, 0, 64, plainIP 1, plainIP 2, [], FragV.z, 59, [9]⟩
def plainB : List Int := [96, 0, 0, 0, 0, 1, 59, 64, 32, 1, 0, 0, 0, 0, 0, 0, 0, 0, 0, 0, 0, 0, 0, 1, 32, 1, 0, 0, 0, 0, 0, 0, 0, 0, 0, 0, 0, 0, 0, 2, 9]
def plainV (g : Nat) : Ip6V := ⟨0, 0, 64, plainIP 1, plainIP 2, Sl.z, FragV.z, 59, ⟨some ⟨g, 0, none⟩, 1, 1⟩⟩
theorem plain_ser : ser6S plainD = (plainB, 0) := by decide
theorem plain_parsed : parsed plainB = (plainD, 0) := by
  have := parsed_back (d := plainD) (by rw [plain_ser])
  rw [plain_ser] at this
  exact this
/-! ### Two faults at once -/
def blk8 : List Int := [60, 0, 1, 4, 0, 0, 0, 0]
def both1 : List Int := (List.replicate 8 blk8).flatten ++ [59, 0, 1]
def both2 : List Int := (List.replicate 7 blk8).flatten ++ [59, 0, 1, 4, 0, 0, 0, 0, 9]
theorem opts_in : optsS [1, 4, 0, 0, 0, 0] 0 0 = some [⟨0, 0, 6⟩] := by
  rw [optsS_pad (by decide) (by decide), optsS_end (by decide)]
  rfl
theorem both_step {B : List Int} {p i : Nat} (h0 : B.getD (p + 1) 0 = 0) (h1 : bpart B (p + 2) 6 = [1, 4, 0, 0, 0, 0]) (hi : i < 8) (hl : p + 8 ≤ B.length) :
    hdrsS B false 60 p i = (hdrsS B false (B.getD p 0) (p + 8) (i + 1)).map fun r => (⟨60, [⟨0, 0, 6⟩], p + 2, 6⟩ :: r.1, r.2) := by
  have hL : lenH B p = 6 := by unfold lenH; rw [h0]; rfl
  have h60 : isH 60 := .inr (.inr rfl)
  have := hdrsS_step (b := B) (top := false) (k := 60) (p := p) (i := i) h60 (fun h => by omega) hi (by rw [hL]; omega) (os := [⟨0, 0, 6⟩]) (by rw [hL]; unfold inS; rw [if_neg (by decide), h1, opts_in])
  rw [this, hL]
theorem both1_at : ∀ i : Fin 8, both1.getD (8 * i.val) 0 = 60 ∧ both1.getD (8 * i.val + 1) 0 = 0 ∧ bpart both1 (8 * i.val + 2) 6 = [1, 4, 0, 0, 0, 0] := by decide
theorem both2_at : ∀ i : Fin 8, both2.getD (8 * i.val) 0 = (if i.val < 7 then 60 else 59) ∧ both2.getD (8 * i.val + 1) 0 = 0 ∧ bpart both2 (8 * i.val + 2) 6 = [1, 4, 0, 0, 0, 0] := by decide
theorem both1_err : ∀ k i : Nat, i + k = 8 → hdrsS both1 false 60 (8 * i) i = .error 74
  | 0, i, h => hdrsS_many (.inr (.inr rfl)) (fun h => by omega) (by omega)
  | k + 1, i, h => by
    obtain ⟨e1, e2, e3⟩ := both1_at ⟨i, by omega⟩
    rw [both_step e2 e3 (by omega) (by show 8 * i + 8 ≤ 67; omega), e1, show 8 * i + 8 = 8 * (i + 1) by omega, both1_err k (i + 1) (by omega)]
    rfl
theorem both2_ok : ∀ k i : Nat, i + k = 7 → ∃ es, hdrsS both2 false 60 (8 * i) i = .ok (es, 59, 64)
  | 0, i, h => by
    have hi : i = 7 := by omega
    subst hi
    obtain ⟨e1, e2, e3⟩ := both2_at ⟨7, by omega⟩
    rw [both_step e2 e3 (by omega) (by decide), e1, if_neg (by decide), hdrsS_end (by unfold isH; omega)]
    exact ⟨_, rfl⟩
  | k + 1, i, h => by
    obtain ⟨e1, e2, e3⟩ := both2_at ⟨i, by omega⟩
    obtain ⟨es, he⟩ := both2_ok k (i + 1) (by omega)
    rw [both_step e2 e3 (by omega) (by show 8 * i + 8 ≤ 65; omega), e1, if_pos (by show i < 7; omega), show 8 * i + 8 = 8 * (i + 1) by omega, he]
    exact ⟨_, rfl⟩
theorem both1_chained : chained 60 both1 = ([], 0, [], 74) := by
  have h := both1_err 8 0 rfl
  unfold chained chainS walkS
  rw [if_neg (by decide), if_neg (by decide), Bool.not_true, h]
theorem both2_chained : ∃ es, chained 60 both2 = (es, 59, [9], 0) := by
  obtain ⟨es, h⟩ := both2_ok 7 0 rfl
  refine ⟨es.map (EP.d both2), ?_⟩
  unfold chained chainS walkS
  rw [if_neg (by decide), if_neg (by decide), Bool.not_true, h]
  rfl
theorem chained_arg {k : Int} {l : List Int} (h : k < 0 ∨ 255 < k) : chained k l = ([], 0, [], 1) := by
  unfold chained chainS; rw [if_pos h]
end Go.Eng
namespace Go.Proofs.YtkiogaglmjeplaaDoor
namespace N6
open Go.Eng Go.RowKit
section
variable {w : World} {s : Sl} {l : List Int}
theorem num7_spec {k : Int} : Calls Tryd.prog 17 #[.int .i64 k] w fun e w' => w' = w ∧ e = .returned (.int .i64 k) := by
  refine weirlaw7_num_of k w _ ?_
  exact ⟨rfl, rfl⟩
set_option maxHeartbeats 1000000 in
theorem plain_spec : Calls Tryd.prog 27 #[] w fun e w' => ∃ (g : Nat) (s : Sl), e = .returned (.tuple #[(plainV g).val, s.val]) ∧ BytesAt w' ⟨some ⟨g, 0, none⟩, 1, 1⟩ [9] ∧ BytesAt w' s plainB ∧ Ext w w' := by
  refine weirlaw7_plain_of w _ ?_
  unfold weirlaw7_plain_VC
  refine NewVC.sep (Sep.start0 w) fun g1 w1 H => NewVC.sep H fun g2 w2 H => NewVC.sep H fun g3 w3 H => ?_
  refine Stores.sep H 3 rfl (cs' := (plainV g2).cells) (Ip6V.one (plainV g2)) (show 0 + 44 ≤ 44 by decide) (splice_all rfl) fun w4 H => NewVC.sep H fun g4 w5 H => ?_
  refine Ip6V.of (plainV g2) ⟨H.at 3 rfl, Stores.sep H 1 rfl (Ip6V.one (plainV g2)) (Nat.le_refl _) (splice_all rfl) fun w6 H => Ip6V.of (plainV g2) ⟨H.at 1 rfl, g2, ⟨some ⟨g4, 0, none⟩, 41, 41⟩, rfl, ?_, ?_, H.restOf 0 rfl⟩⟩
  · exact ⟨rfl, Nat.le_refl _, show 1 ≤ 4000000 by decide, bts_list rfl, Cells.blk0 (H.blk 2 rfl)⟩
  · exact ⟨rfl, Nat.le_refl _, show 41 ≤ 4000000 by decide, bts_list rfl, Cells.blk0 (H.blk 4 rfl)⟩
theorem plain_at {g : Nat} (h : BytesAt w ⟨some ⟨g, 0, none⟩, 1, 1⟩ [9]) : Ip6At w (plainV g) [] [9] := ⟨ExtsAt.nil _ _ _, h, bts_list rfl, bts_list rfl⟩
theorem plain_d (g : Nat) : (plainV g).d [] [9] = plainD := rfl
set_option maxHeartbeats 4000000 in
theorem both_spec (hK : Kn w) : Calls Tryd.prog 51 #[] w fun e w' => Ext w w' ∧ e = .returned (.bool true) := by
  refine weirlaw7_both_of w _ ?_
  unfold weirlaw7_both_VC
  refine MakeVC.sep (Sep.start0 w) (by decide) (Int.le_refl _) (by decide) fun g1 w1 H => ?_
  have z1 : BytesAt w1 ⟨some ⟨g1, 0, none⟩, 65536, 65536⟩ (List.replicate 65536 0) := by
    refine ⟨List.length_replicate, Nat.le_refl _, by show 65536 ≤ 4000000; decide, bts_zeros _, ?_⟩
    rw [List.map_replicate]; exact Cells.blk0 (H.blk 1 rfl)
  refine (chain_at (next := -1) z1 (hK.ext (H.restOf 0 rfl))).mono ?_
  rw [chained_arg (.inl (by decide))]
  rintro _ w2 ⟨se, sd, xs, dt, rfl, -, -, -, -, hE2⟩
  have H := H.ext hE2
  refine ⟨_, _, _, _, _, _, _, _, rfl, MakeVC.sep H (by decide) (Int.le_refl _) (by decide) fun g2 w3 H => ?_⟩
  have z2 : BytesAt w3 ⟨some ⟨g2, 0, none⟩, 65536, 65536⟩ (List.replicate 65536 0) := by
    refine ⟨List.length_replicate, Nat.le_refl _, by show 65536 ≤ 4000000; decide, bts_zeros _, ?_⟩
    rw [List.map_replicate]; exact Cells.blk0 (H.blk 2 rfl)
  refine (chain_at (next := 256) z2 (hK.ext (H.restOf 0 rfl))).mono ?_
  rw [chained_arg (.inr (by decide))]
  rintro _ w4 ⟨se', sd', xs', dt', rfl, -, -, -, -, hE4⟩
  have hE : Ext w w4 := (H.ext hE4).restOf 0 rfl
  refine ⟨_, _, _, _, _, _, _, _, rfl, ?_⟩
  refine LoopVC.of (fun st w' => ∃ i : Nat, st.2 = (i : Int) ∧ i ≤ 8 ∧ st.1.2.1 = 8 * i ∧ Sep [Fct.rest w None, ownB w.heap.size (.slice st.1.1 st.1.2.1 st.1.2.2) st.1.2.1 (List.replicate i blk8).flatten] w') (fun st _ => (8 - st.2).toNat)
    ⟨0, rfl, by decide, rfl, ((Sep.start0 w).ext hE).nil _ _ _⟩ ?_
  rintro ⟨⟨A1, n1, c1⟩, _⟩ w5 ⟨i, rfl, hi, hn, H⟩
  simp only at hn
  subst hn
  show weirlaw7_both_L250 _ 1 1 A1 (8 * i) c1 (i : Int) w5 _
  unfold weirlaw7_both_L250
  refine Br.dec (fun hlt => ?_) fun hge => ?_
  · refine NewVC.sep H fun g3 w6 H => ?_
    have H := H.front
    refine appB (m := 8) (ys := blk8) H 2 rfl (Cells.blk0 (H.blk 0 rfl)) rfl (show 8 * i + 8 ≤ 140737488355328 by omega) (H.restOf 1 rfl).size fun A2 c2 w7 H _ => ?_
    rw [w64 (by omega) (by omega)]
    refine ⟨⟨i + 1, by simp only; omega, by omega, by simp only; omega, ?_⟩, by simp only; omega⟩
    rw [List.replicate_succ', List.flatten_append]
    simp only [List.flatten_cons, List.flatten_nil, List.append_nil]
    exact H.tail
  · have hi8 : i = 8 := by omega
    subst hi8
    refine NewVC.sep H fun g4 w8 H => ?_
    have H := H.front
    refine appB (m := 3) (ys := [59, 0, 1]) H 2 rfl (Cells.blk0 (H.blk 0 rfl)) rfl (show 8 * 8 + 3 ≤ 140737488355328 by decide) (H.restOf 1 rfl).size fun A2 c2 w9 H hc2 => ?_
    have H := H.tail
    obtain ⟨sb, hsb⟩ : ∃ sb : Sl, sb = ⟨A2, 8 * 8 + 3, c2⟩ := ⟨_, rfl⟩
    have hb1 : BytesAt w9 sb both1 := by rw [hsb]; exact bytesAt_of (s := ⟨A2, 8 * 8 + 3, c2⟩) (b := w.heap.size) (l := both1) (H.own 1 rfl) ⟨show 8 * 8 + 3 ≤ 4000000 by decide, bts_list rfl⟩
    have hc1 := chain_at (next := 60) hb1 (hK.ext (H.restOf 0 rfl))
    rw [both1_chained, hsb] at hc1
    refine hc1.mono ?_
    rintro _ w10 ⟨se2, sd2, xs2, dt2, rfl, -, -, -, -, hE10⟩
    have H := H.ext hE10
    have hb1 := hb1.ext hE10
    refine ⟨_, _, _, _, _, _, _, _, rfl, by decide, by decide, by have hc2 : 8 * 8 + 3 ≤ c2 := hc2; show (56 : Int) ≤ c2; omega, NewVC.sep H fun g5 w11 H => ?_⟩
    have h56 : Cells w11 A2 (((List.replicate 7 blk8).flatten).map (.int .u8)) := by
      have := (H.cells 1 rfl).take 56
      rw [← List.map_take] at this
      exact this
    refine AppVC.full' Tryd.underlying22 tB rfl h56 rfl (Cells.blk0 (H.blk 2 rfl)) rfl (by decide) (ints_one (k := .u8) [59, 0, 1, 4, 0, 0, 0, 0, 9]) (by decide) (by decide) fun A3 c3 w12 ho hE12 => ?_
    have H := H.ext hE12
    have hb2 : BytesAt w12 ⟨A3, 56 + 9, c3⟩ both2 := bytesAt_of (s := ⟨A3, 56 + 9, c3⟩) (b := w11.heap.size) (l := both2) ho ⟨show 56 + 9 ≤ 4000000 by decide, bts_list rfl⟩
    obtain ⟨es2, he2⟩ := both2_chained
    have hc2' := chain_at (next := 60) hb2 (hK.ext (H.restOf 0 rfl))
    rw [he2] at hc2'
    refine hc2'.mono ?_
    rintro _ w13 ⟨se3, sd3, xs3, dt3, rfl, -, hd3, -, hb3, hE13⟩
    have H := H.ext hE13
    have hb1 : BytesAt w13 sb both1 := by rw [hsb]; exact bytesAt_of (s := ⟨A2, 8 * 8 + 3, c2⟩) (b := w.heap.size) (l := both1) (H.own 1 rfl) ⟨show 8 * 8 + 3 ≤ 4000000 by decide, bts_list rfl⟩
    have hr := refChained_spec (next := 60) hb1
    rw [both1_chained, hsb] at hr
    refine ⟨_, _, _, _, _, _, _, _, rfl, ?_⟩
    refine hr.mono ?_
    rintro _ w14 ⟨se4, sd4, xs4, dt4, rfl, -, -, -, -, hE14⟩
    have H := H.ext hE14
    have hE := H.restOf 0 rfl
    refine ⟨_, _, _, _, _, _, _, _, rfl, ?_⟩
    refine num7_spec.mono ?_
    rintro _ w15 ⟨hw15, rfl⟩
    subst w15
    refine ⟨_, rfl, Br.yes rfl ?_⟩
    refine num7_spec.mono ?_
    rintro _ w16 ⟨hw16, rfl⟩
    subst w16
    refine ⟨_, rfl, Br.yes rfl ?_⟩
    refine num7_spec.mono ?_
    rintro _ w17 ⟨hw17, rfl⟩
    subst w17
    refine ⟨_, rfl, Br.yes rfl (Br.yes rfl ?_)⟩
    refine num7_spec.mono ?_
    rintro _ w18 ⟨hw18, rfl⟩
    subst w18
    refine ⟨_, rfl, Br.yes rfl (Br.yes rfl ⟨hE, ?_⟩)⟩
    have h1 : sd3.n = 1 := by rw [← hb3.len, hd3]; rfl
    rw [h1]
    rfl
set_option maxHeartbeats 1000000 in
theorem started7_spec (hK : Kn w) : Calls Tryd.prog 16 #[] w fun e w' => Ext w w' ∧ e = .returned (.bool true) := by
  refine weirlaw7_started_of w _ ?_
  unfold weirlaw7_started_VC
  refine plain_spec.mono ?_
  rintro _ w1 ⟨g, s1, rfl, hg, hs1, hE1⟩
  refine onRet_is (Ip6V.of (plainV g) ⟨_, _, _, rfl, NewVC.sep (Sep.start0 w1) fun g1 w2 H => Stores.sep H 1 rfl (Ip6V.one (plainV g)) (Nat.le_refl _) (splice_all rfl) fun w3 H => ?_⟩)
  have hE3 := H.restOf 0 rfl
  refine (parse_at (hs1.ext hE3) (hK.ext (hE1.trans hE3))).mono ?_
  rw [plain_parsed]
  rintro _ w4 ⟨h, xs, data, rfl, hd, hA, hE4⟩
  have H := H.ext hE4
  refine onRet_is (Ip6V.of h ⟨_, rfl, NewVC.sep (Sep.start0 w4) fun g2 w5 K => Stores.sep K 1 rfl (Ip6V.one h) (Nat.le_refl _) (splice_all rfl) fun w6 K => ?_⟩)
  have hE6 := K.restOf 0 rfl
  have hg2 := K.blk 1 rfl
  have H := H.ext hE6
  have hA := hA.ext hE6
  clear K
  refine Ip6V.of (plainV g) ⟨H.at 1 rfl, ?_⟩
  refine (ser_at (plain_at (hg.ext (H.restOf 0 rfl))) (hK.ext (hE1.trans (H.restOf 0 rfl)))).mono ?_
  rw [plain_d, plain_ser]
  rintro _ w7 ⟨sb, rfl, hsb, hE7⟩
  have H := H.ext hE7
  have hA := hA.ext hE7
  have hg2 := hg2.ext hE7
  refine ⟨_, _, _, _, rfl, ?_⟩
  refine num7_spec.mono ?_
  rintro _ w8 ⟨hw8, rfl⟩
  subst w8
  refine ⟨_, rfl, Br.yes rfl (Ip6V.of h ⟨CellsAt.blk hg2, Ip6V.of (plainV g) ⟨H.at 1 rfl, ?_⟩⟩)⟩
  refine (same6_spec hA (plain_at (hg.ext (H.restOf 0 rfl)))).mono ?_
  rintro _ w9 ⟨x, rfl, hx, hE9⟩
  have hxt := hx.2 (hd.trans (plain_d g).symm)
  subst hxt
  have H := H.ext hE9
  have hsb := hsb.ext hE9
  refine ⟨_, rfl, Br.t rfl ?_⟩
  refine num7_spec.mono ?_
  rintro _ w10 ⟨hw10, rfl⟩
  subst w10
  refine ⟨_, rfl, Br.yes rfl ?_⟩
  refine (alike7_spec hsb (hs1.ext (H.restOf 0 rfl))).mono ?_
  rintro _ w11 ⟨hw11, rfl⟩
  subst w11
  rw [decide_eq_true rfl]
  refine ⟨_, rfl, Br.t rfl ?_⟩
  refine (both_spec (hK.ext (hE1.trans (H.restOf 0 rfl)))).mono ?_
  rintro _ w12 ⟨hE12, rfl⟩
  exact ⟨_, rfl, (hE1.trans (H.restOf 0 rfl)).trans hE12, rfl⟩
end
end N6
end Go.Proofs.YtkiogaglmjeplaaDoor
