/- bytes.Join of two or more parts, without a separator. -/
import Derived.Test.YthhgbpmihhljdaaGreatDoorBau
import Derived.Test.YthhgbpmihhljdaaGreatDoorBap
import Derived.Test.YthhgbpmihhljdaaGreatDoorBar
import Derived.Test.YthhgbpmihhljdaaGreatDoorBas
import Derived.Test.YthhgbpmihhljdaaGreatDoorBai
import Derived.Test.YthhgbpmihhljdaaGreatDoorBaq
import Derived.Test.YthhgbpmihhljdaaGreatDoorBat
namespace Go.Eng
open Go Go.RowKit
/-- A part: a slice, and its bytes. -/
structure JPart where
  s : Sl
  l : List Int
def JPart.at (w : World) (p : JPart) : Prop := p.l.length = p.s.n ∧ p.s.n ≤ 4000000 ∧ Cells w p.s.A (p.l.map (.int .u8))
def joinL (ps : List JPart) : List Int := (ps.map JPart.l).flatten
theorem joinL_snoc (ps : List JPart) (p : JPart) : joinL (ps ++ [p]) = joinL ps ++ p.l := by simp [joinL]
theorem joinL_take {ps : List JPart} {i : Nat} {p : JPart} (h : ps[i]? = some p) : joinL (ps.take (i + 1)) = joinL (ps.take i) ++ p.l := by
  have hlt := (List.getElem?_eq_some_iff.1 h).1
  rw [List.take_succ_eq_append_getElem hlt, joinL_snoc, (List.getElem?_eq_some_iff.1 h).2]
theorem joinL_len {ps : List JPart} {b : Nat} (h : ∀ p ∈ ps, p.l.length ≤ b) : (joinL ps).length ≤ ps.length * b := by
  induction ps with
  | nil => simp [joinL]
  | cons p r ih =>
    have h1 := h p (by simp)
    have h2 := ih fun q hq => h q (by simp [hq])
    simp only [joinL, List.map_cons, List.flatten_cons, List.length_append, List.length_cons] at h2 ⊢
    rw [Nat.add_mul]
    omega
theorem joinL_le {ps : List JPart} (i : Nat) : (joinL (ps.take i)).length ≤ (joinL ps).length := by
  have : joinL ps = joinL (ps.take i) ++ joinL (ps.drop i) := by
    unfold joinL; rw [← List.flatten_append, ← List.map_append, List.take_append_drop]
  rw [this, List.length_append]; omega
end Go.Eng
namespace Go.Proofs.YthhgbpmihhljdaaGreatDoor
namespace N6
open Go.Eng Go.RowKit
section
variable {w : World} {Γ : List Fct}
abbrev winB (b : Nat) (v : Value) (n : Nat) (xs : List Int) : Fct := Fct.win b 5 v n (xs.map (.int .u8))
set_option maxHeartbeats 1000000 in
theorem join_spec {PA : Option Addr} {n c : Nat} {ps : List JPart} (hP : Cells w PA (ps.map fun p => p.s.val)) (hl : ps.length = n) (h2 : 2 ≤ n) (h100 : n ≤ 100) (hnc : n ≤ c) (each : ∀ p ∈ ps, p.at w) :
    Calls Tryz.prog 73 #[.slice PA n c, .slice none 0 0] w fun e w' => ∃ g, e = .returned (.slice (some ⟨g, 0, none⟩) (joinL ps).length (joinL ps).length) ∧
      Sep [Fct.rest w None, winB w.heap.size (.slice (some ⟨g, 0, none⟩) (joinL ps).length (joinL ps).length) (joinL ps).length (joinL ps)] w' := by
  refine bytes_Join_of PA n c none 0 0 w _ ?_
  unfold bytes_Join_VC
  have hlen : (joinL ps).length ≤ 400000000 := by
    have := joinL_len (b := 4000000) fun p hp => by have := each p hp; rw [this.1]; exact this.2.1
    have : ps.length * 4000000 ≤ 100 * 4000000 := Nat.mul_le_mul_right _ (by omega)
    omega
  have part : ∀ {w'}, Ext w w' → ∀ {i : Nat}, i < n → ∃ p, ps[i]? = some p ∧ p.at w ∧ (∀ (F : Addr → Prop), (∀ a, w'.cell? a = some p.s.val → F a) → ∀ {m : Nat}, n = m → IdxVC PA m 1 (i : Int) F) := by
    intro w' hE i hi
    have hil : i < ps.length := by omega
    refine ⟨ps[i], List.getElem?_eq_getElem hil, each _ (List.getElem_mem hil), fun F hF m hm => ?_⟩
    subst hm
    obtain ⟨a, ha, hc⟩ := (hP.ext hE).at (i := i) (by simpa using hil)
    exact ⟨a, ha, by omega, by omega, hF _ (by rw [Int.toNat_natCast, Nat.mul_one, hc]; simp)⟩
  refine Br.no (by omega) (Br.no (by omega) ?_)
  refine JoinVC.of (fun st w' => w = w' ∧ st = 0) (Br.no (by decide) ⟨rfl, rfl⟩) ?_
  rintro _ _ ⟨rfl, rfl⟩
  unfold bytes_Join_J31
  refine LoopVC.of (fun st w' => w = w' ∧ ∃ i : Nat, st.2 = (i : Int) ∧ i ≤ n ∧ st.1 = ((joinL (ps.take i)).length : Int)) (fun st _ => ((n : Int) - st.2).toNat) ⟨rfl, 0, rfl, Nat.zero_le _, by simp [joinL]⟩ ?_
  rintro ⟨_, _⟩ _ ⟨rfl, i, rfl, hi, rfl⟩
  show bytes_Join_L506 _ PA n c none 0 0 ((joinL (ps.take i)).length : Int) (i : Int) w _
  unfold bytes_Join_L506
  have hle := joinL_le (ps := ps) i
  refine Br.dec (fun hlt => ?_) fun hge => ?_
  · obtain ⟨p, hp, hat, hidx⟩ := part (Mod.refl _ w) (i := i) (by omega)
    have e1 := joinL_take hp
    have hle1 := joinL_le (ps := ps) (i + 1)
    rw [e1, List.length_append, hat.1] at hle1
    refine hidx _ (fun a hc => ⟨_, _, _, hc, ?_⟩) rfl
    rw [w64 (n := 9223372036854775807 - ((joinL (ps.take i)).length : Int)) (by omega) (by omega)]
    refine Br.no (by omega) ?_
    rw [w64 (n := (i : Int) + 1) (by omega) (by omega), w64 (n := ((joinL (ps.take i)).length : Int) + (p.s.n : Int)) (by omega) (by omega)]
    refine ⟨⟨rfl, i + 1, rfl, by omega, ?_⟩, by show ((n : Int) - ((i : Int) + 1)).toNat < ((n : Int) - (i : Int)).toNat; omega⟩
    show ((joinL (ps.take i)).length : Int) + (p.s.n : Int) = ((joinL (ps.take (i + 1))).length : Int)
    rw [e1, List.length_append, hat.1]; omega
  have hin : i = n := by omega
  subst hin
  rw [List.take_of_length_le (by omega)]
  obtain ⟨N, hN⟩ : ∃ N, (joinL ps).length = N := ⟨_, rfl⟩
  rw [hN] at hlen ⊢
  refine NoZeroVC.sep (Sep.start0 w) (by omega) (by omega) fun g cs w5 H hk hm => ?_
  refine ⟨by omega, by omega, by omega, ?_⟩
  rw [Int.toNat_natCast]
  obtain ⟨p0, hp0, hat0, hidx0⟩ := part (H.restOf 0 rfl) (i := 0) (by omega)
  have e0 : joinL (ps.take 1) = p0.l := by rw [joinL_take hp0]; simp [joinL]
  have hle0 := joinL_le (ps := ps) 1
  rw [e0, hN] at hle0
  refine hidx0 _ (fun a hc => ⟨_, _, _, hc, ?_⟩) rfl
  refine CopyVC.sep H 1 Tryz.underlying28 (by kernel_rfl) rfl (hat0.2.2.ext (H.restOf 0 rfl)) (by simpa using hat0.1) (by have := hat0.1; omega) (by omega) (ints_one _ _) fun w6 H => ?_
  refine ⟨by decide, by omega, ?_⟩
  have hrest : ∀ {w' : World}, Ext w w' → ∀ (j : Nat), j < i - 1 → ∀ p, ps[j + 1]? = some p → ∀ (F : Addr → Prop), (∀ a, w'.cell? a = some p.s.val → F a) → IdxVC (if c = (1 : Int).toNat then PA else PA.map (·.add ((1 : Int).toNat * 1))) (i - (1 : Int).toNat) 1 (j : Int) F := by
    intro w' hE j hj p hp F hF
    have h1 : (1 : Int).toNat = 1 := rfl
    rw [h1]
    have := (hP.ext hE).drop 1 (c := c) (by simp; omega) 1 (.inl rfl)
    obtain ⟨a, ha, hc⟩ := this j p.s.val (by rw [List.getElem?_drop, List.getElem?_map, show 1 + j = j + 1 by omega, hp]; rfl)
    exact ⟨a, ha, by omega, by omega, hF _ (by rw [Int.toNat_natCast, Nat.mul_one]; exact hc)⟩
  refine LoopVC.of (fun st w' => ∃ (j : Nat) (cs' : List Value), st.2 = (j : Int) ∧ j + 1 ≤ i ∧ st.1 = ((joinL (ps.take (j + 1))).length : Int) ∧ N ≤ cs'.length ∧ cs'.length ≤ maxLen ∧ cs'.take (joinL (ps.take (j + 1))).length = (joinL (ps.take (j + 1))).map (.int .u8) ∧ Sep [Fct.rest w None, Fct.blk g 5 cs'] w') (fun st _ => ((i : Int) - st.2).toNat) ?_ ?_
  · refine ⟨0, _, rfl, by omega, ?_, ?_, ?_, ?_, H⟩
    · rw [e0]; show (p0.s.n : Int) = _; rw [hat0.1]
    · rw [splice_len (by simp; omega)]; omega
    · rw [splice_len (by simp; omega)]; omega
    · rw [e0]
      have := splice_take (cs := cs) (xs := p0.l.map (Value.int .u8)) (o := 0) (by simp; omega)
      simpa using this
  rintro ⟨_, _⟩ w7 ⟨j, cs', rfl, hj, rfl, hk', hm', htk, H⟩
  have hlej := joinL_le (ps := ps) (j + 1)
  rw [hN] at hlej
  show bytes_Join_L4090 _ none 0 0 (some ⟨g, 0, none⟩) N N _ (i - (1 : Int).toNat) ((joinL (ps.take (j + 1))).length : Int) (j : Int) w7 _
  unfold bytes_Join_L4090
  obtain ⟨B, hB⟩ : ∃ B, (joinL (ps.take (j + 1))).length = B := ⟨_, rfl⟩
  rw [hB] at hlej htk ⊢
  refine Br.dec (fun hlt => ?_) fun hge => ?_
  · have hji : j + 1 < i := by simp at hlt; omega
    obtain ⟨p, hp, hat, _⟩ := part (Mod.refl _ w) (i := j + 1) (by omega)
    have e1 := joinL_take hp
    have hle1 := joinL_le (ps := ps) (j + 2)
    rw [e1, List.length_append, hat.1, hN, hB] at hle1
    refine hrest (H.restOf 0 rfl) j (by omega) p hp _ fun a hc => ⟨_, _, _, hc, by omega, by omega, ?_⟩
    obtain ⟨o', ho', ho1, ho2⟩ := at_off (g := g) (o := 0) (k := (B : Int).toNat) (c := N)
    rw [ho']
    rw [Int.toNat_natCast] at ho1 ho2
    simp only [Int.toNat_natCast]
    have ho'' : o' + (N - B) ≤ N := by
      by_cases h : N = B
      · have := ho2 h; omega
      · have := ho1 h; omega
    refine CopyVC.sep H 1 Tryz.underlying28 (by kernel_rfl) rfl (xs := []) (Cells.nil _ _) rfl (Nat.zero_le _) (by omega) (fun v hv => by cases hv) fun w8 H => ?_
    have es : splice cs' o' [] = cs' := by unfold splice; simp
    rw [es] at H
    refine ⟨by rw [w64 (by omega) (by omega)]; omega, by rw [w64 (by omega) (by omega)]; omega, ?_⟩
    rw [w64 (n := (B : Int) + (0 : Nat)) (by omega) (by omega), show (B : Int) + ((0 : Nat) : Int) = (B : Int) by omega, ho']
    simp only [Int.toNat_natCast]
    refine CopyVC.sep H 1 Tryz.underlying28 (by kernel_rfl) rfl (hat.2.2.ext (H.restOf 0 rfl)) (by simpa using hat.1) (by omega) (by omega) (ints_one _ _) fun w9 H => ?_
    rw [w64 (by omega) (by omega), w64 (by omega) (by omega)]
    refine ⟨⟨j + 1, _, rfl, by omega, ?_, ?_, ?_, ?_, H⟩, by show ((i : Int) - ((j : Int) + 1)).toNat < ((i : Int) - (j : Int)).toNat; omega⟩
    · show (B : Int) + (p.s.n : Int) = _; rw [e1, List.length_append, hat.1, hB]; omega
    · rw [splice_len (by simp [hat.1]; omega)]; exact hk'
    · rw [splice_len (by simp [hat.1]; omega)]; exact hm'
    · rw [e1, List.length_append, hB, List.map_append]
      by_cases hNB : N = B
      · have hp0 : p.l = [] := List.eq_nil_of_length_eq_zero (by rw [hat.1]; omega)
        have := ho2 hNB
        subst this
        rw [hp0]
        unfold splice
        simpa using htk
      · have := ho1 hNB
        rw [Nat.zero_add] at this
        rw [this]
        have hs := splice_take (cs := cs') (xs := p.l.map (Value.int .u8)) (o := B) (by simp [hat.1]; omega)
        rw [List.length_map] at hs
        rw [hs, htk]
  · have hji : j + 1 = i := by simp at hge; omega
    have : joinL (ps.take (j + 1)) = joinL ps := by rw [List.take_of_length_le (by omega)]
    rw [this, hN] at hB
    subst hB
    rw [this] at htk
    have hb := H.blk 1 rfl
    refine ⟨g, rfl, H.weaken 1 rfl (f' := winB w.heap.size (.slice (some ⟨g, 0, none⟩) N N) N (joinL ps)) ⟨by simpa using hN, .inr ⟨g, N, cs', rfl, ?_, Nat.le_refl _, hk', by simp only [maxLen]; omega, hb, htk⟩⟩ fun k hk => ?_⟩
    · refine Nat.le_of_not_lt fun hlt => H.apart 0 1 _ _ (by decide) rfl rfl g ⟨hlt, id⟩ rfl
    · simp [Fct.win, Value.ownBlock] at hk
      exact hk.symm
end
end N6
end Go.Proofs.YthhgbpmihhljdaaGreatDoor
/- Chapter 7, writing: a datagram, the program's. -/
namespace Go.Proofs.YthhgbpmihhljdaaGreatDoor
namespace N6
open Go.Eng Go.RowKit
/-- What a call that makes bytes hands back, where the row may have more room than its capacity says. -/
def MadeW (w : World) (r : List Int × Int) (e : Ending) (w' : World) : Prop :=
  ∃ A c, e = .returned (.tuple #[.slice A r.1.length c, .int .i64 r.2]) ∧ Sep [Fct.rest w None, winB w.heap.size (.slice A r.1.length c) r.1.length r.1] w'
section
variable {w : World} {Γ : List Fct}
theorem Made.win {w' : World} {r : List Int × Int} {e : Ending} (h : Made w r e w') : MadeW w r e w' := by
  obtain ⟨A, c, he, H⟩ := h
  exact ⟨A, c, he, H.ownWin (i := 1) rfl⟩
theorem MadeW.err {w' : World} {k : Int} {r : List Int × Int} (h : Ext w w') (hr : r = ([], k)) : MadeW w r (.returned (.tuple #[.slice none 0 0, .int .i64 k])) w' := (Made.err h hr).win
theorem valuesF {next off more id : Int} (hn : 0 ≤ next ∧ next ≤ 255) (ho : 0 ≤ off ∧ off ≤ 65528) (hm : 0 ≤ more ∧ more ≤ 1) (hi : 0 ≤ id ∧ id ≤ 4294967295) : valuesOk wsf [next, 0, off / 8, 0, more, id] := by
  refine ⟨rfl, fun i hi' => ?_⟩
  match i, hi' with
  | 0, _ => simp [wsf]; omega
  | 1, _ => simp [wsf]
  | 2, _ => simp [wsf]; omega
  | 3, _ => simp [wsf]
  | 4, _ => simp [wsf]; omega
  | 5, _ => simp [wsf]; omega
theorem values6 {cls flow n first hop : Int} (h0 : 0 ≤ cls ∧ cls ≤ 255) (h1 : 0 ≤ flow ∧ flow ≤ 1048575) (h2 : 0 ≤ n ∧ n ≤ 65535) (h3 : 0 ≤ first ∧ first ≤ 255) (h4 : 0 ≤ hop ∧ hop ≤ 255) : valuesOk ws6 [6, cls, flow, n, first, hop] := by
  refine ⟨rfl, fun i hi' => ?_⟩
  match i, hi' with
  | 0, _ => simp [ws6]
  | 1, _ => simp [ws6]; omega
  | 2, _ => simp [ws6]; omega
  | 3, _ => simp [ws6]; omega
  | 4, _ => simp [ws6]; omega
  | 5, _ => simp [ws6]; omega
/-- Headers that may be have kinds of headers. -/
theorem hdr_kind {l : List ExtD} {next : Int} {top : Bool} {x : ExtD} (h : (headersS l next top).2 = 0) (hx : l[0]? = some x) : x.kind = 0 ∨ x.kind = 43 ∨ x.kind = 60 := by
  have hl := (List.getElem?_eq_some_iff.1 hx).1
  unfold headersS at h
  split at h
  · cases h
  · refine Classical.byContradiction fun hk => ?_
    have hb : bodyS x = ([], 72) := by unfold bodyS; rw [if_neg (by omega), if_neg (by omega)]
    have hs := hdrF_step (l := l) (next := next) (top := top) (i := 0) rfl hx
    rw [if_neg (by omega), hb, if_pos (by decide)] at hs
    have := hdrF_stop (i := 0 + 1) (by rw [hs]; decide) l.length (by omega)
    rw [this, hs] at h
    cases h
theorem fragE_ok {d : Ip6D} (h : fragE d = 0) (hh : d.frag.has = true) : (0 ≤ d.frag.id ∧ d.frag.id ≤ 4294967295) ∧ (0 ≤ d.frag.off ∧ d.frag.off ≤ 65528) ∧ d.frag.off % 8 = 0 ∧ fitsS d.frag d.data.length = true := by
  unfold fragE at h
  rw [if_pos hh] at h
  split at h
  · cases h
  · rename_i hn
    refine ⟨by omega, by omega, by omega, ?_⟩
    cases hf : fitsS d.frag d.data.length with
    | true => rfl
    | false => exact absurd (.inr (.inr (.inr (.inr (.inr hf))))) hn
theorem firstK_range {h : Ip6V} {es : List ExtR} {data : List Int} (h0 : ¬ fieldBad (h.d es data)) (hh : (headersS (h.d es data).exts (behindK (h.d es data)) true).2 = 0) : 0 ≤ firstK (h.d es data) ∧ firstK (h.d es data) ≤ 255 := by
  have hn : 0 ≤ h.next ∧ h.next ≤ 255 := by
    have e1 : (h.d es data).next = h.next := rfl
    unfold fieldBad at h0; rw [e1] at h0; omega
  cases es with
  | nil =>
    show 0 ≤ behindK _ ∧ behindK _ ≤ 255
    unfold behindK
    split
    · decide
    · exact hn
  | cons r l =>
    have := hdr_kind (x := r.d) hh rfl
    show 0 ≤ r.d.kind ∧ r.d.kind ≤ 255
    omega
set_option maxHeartbeats 4000000 in
theorem made_spec {h : Ip6V} {es : List ExtR} {data : List Int} (hA : Ip6At w h es data) (hK : Kn w) : Calls Tryz.prog 48 #[h.val] w (MadeW w (ser6S (h.d es data))) := by
  refine ip6_made_of h w _ ?_
  unfold ip6_made_VC
  have hX := hA.exts
  have hD := hA.data
  have hdl := hD.len
  have hds := hD.small
  have hxl := hX.len
  obtain ⟨d, hd⟩ : ∃ d, h.d es data = d := ⟨_, rfl⟩
  have e_next : d.next = h.next := by rw [← hd]; rfl
  have e_cls : d.cls = h.cls := by rw [← hd]; rfl
  have e_flow : d.flow = h.flow := by rw [← hd]; rfl
  have e_hop : d.hop = h.hop := by rw [← hd]; rfl
  have e_frag : d.frag = h.frag := by rw [← hd]; rfl
  have e_exts : d.exts = es.map ExtR.d := by rw [← hd]; rfl
  have e_data : d.data = data := by rw [← hd]; rfl
  have e_src : d.src = h.src := by rw [← hd]; rfl
  have e_dst : d.dst = h.dst := by rw [← hd]; rfl
  rw [hd]
  refine NewVC.sep (Sep.start0 w) fun g1 w1 H => Ip6V.of h ⟨H.at 1 rfl, ?_⟩
  refine (sized_spec (es := es) (data := data)).mono ?_
  rintro _ w2 ⟨hE2, rfl⟩
  have H := H.ext hE2
  rw [hd]
  by_cases hfb : fieldBad d
  · rw [if_pos hfb]
    exact ⟨_, rfl, Br.yes (by decide) (MadeW.err (H.restOf 0 rfl) (by unfold ser6S; rw [if_pos hfb]))⟩
  rw [if_neg hfb]
  have hfb' := hfb
  unfold fieldBad at hfb'
  rw [e_cls, e_flow, e_hop, e_next] at hfb'
  refine ⟨_, rfl, Br.no (by decide) (DrawVC.sep H (fun w' => Blk w' g1 30 h.cells) fun w3 H => ⟨H.blk 1 rfl, _, fun w' hb => hb.cell 42, _, fun w' hb => hb.cell 42, ?_⟩)⟩
  refine JoinVC.of (fun st w' => w3 = w' ∧ st = (behindK d, behindK d)) ?_ ?_
  · refine ⟨_, H.cell 1 rfl 38 rfl, ?_⟩
    unfold behindK
    rw [e_frag, e_next]
    cases hh : h.frag.has with
    | true => exact Br.t rfl ⟨rfl, rfl⟩
    | false => exact Br.f rfl ⟨rfl, rfl⟩
  rintro _ _ ⟨rfl, rfl⟩
  show ip6_made_J15 _ g1 (behindK d) (behindK d) w3
  unfold ip6_made_J15
  refine JoinVC.of (fun st w' => w3 = w' ∧ st = firstK d) ?_ ?_
  · refine ⟨_, _, _, H.cell 1 rfl 37 rfl, Br.dec (fun h0 => ⟨_, _, _, H.cell 1 rfl 37 rfl, ?_⟩) fun h0 => ⟨rfl, ?_⟩⟩
    · refine (hX.ext (H.restOf 0 rfl)).idx (i := 0) rfl (by omega) fun a r hr hc _ _ => ⟨r.v.kind, by simpa [add_zero] using hc.1, rfl, ?_⟩
      rw [← hd, firstK_cons hr]
    · rw [← hd, firstK_nil (List.eq_nil_of_length_eq_zero (by omega))]
  rintro _ _ ⟨rfl, rfl⟩
  unfold ip6_made_J31
  refine ⟨_, _, _, H.cell 1 rfl 37 rfl, ?_⟩
  refine (headers_spec (next := behindK d) (inner := false) (hX.ext (H.restOf 0 rfl)) (hK.ext (H.restOf 0 rfl))).mono ?_
  rintro _ w6 ⟨XA, xc, rfl, H6⟩
  have H := (H.made H6).lower 2 rfl (b' := w.heap.size) (H.restOf 0 rfl).size
  rw [← e_exts] at H ⊢
  rw [show (!false) = true from rfl] at H ⊢
  obtain ⟨X, hXe⟩ : ∃ X, headersS d.exts (behindK d) true = X := ⟨_, rfl⟩
  have hXl : X.1.length ≤ 16384 := by rw [← hXe]; exact headersS_len _ _ _
  rw [hXe] at H ⊢
  refine ⟨_, _, _, _, rfl, Br.dec (fun hne => MadeW.err (H.restOf 0 rfl) (by unfold ser6S; rw [if_neg hfb, hXe, if_pos hne])) fun heq => Ip6V.of h ⟨H.at 1 rfl, ?_⟩⟩
  have heq : X.2 = 0 := by omega
  refine (fragged_spec (es := es) (hD.ext (H.restOf 0 rfl)) (hK.ext (H.restOf 0 rfl))).mono ?_
  rintro _ w7 ⟨hE7, rfl⟩
  have H := H.ext hE7
  rw [hd]
  refine ⟨_, rfl, Br.dec (fun hne => MadeW.err (H.restOf 0 rfl) (by unfold ser6S; rw [if_neg hfb, hXe, if_neg (by omega), if_pos hne])) fun hfe => ?_⟩
  have hfe : fragE d = 0 := by omega
  have hfl : (fragB d).length ≤ 8 := by unfold fragB; split <;> simp [four]
  refine JoinVC.of (fun st w' => st.2.1 = (X.1 ++ fragB d).length ∧ Sep [Fct.rest w None, Fct.blk g1 30 h.cells, ownB w.heap.size (.slice st.1 st.2.1 st.2.2) st.2.1 (X.1 ++ fragB d)] w') ?_ ?_
  · refine ⟨_, H.cell 1 rfl 38 rfl, ?_⟩
    cases hh : h.frag.has with
    | false =>
      have e0 : fragB d = [] := by unfold fragB; rw [e_frag, if_neg (by rw [hh]; decide)]
      refine Br.f rfl ⟨by rw [e0, List.append_nil], ?_⟩
      rw [e0, List.append_nil]; exact H
    | true =>
      obtain ⟨hid, hoff, ho8, _⟩ := fragE_ok hfe (by rw [e_frag]; exact hh)
      rw [e_frag] at hid hoff ho8
      refine Br.t rfl (JoinVC.of (fun st w' => w7 = w' ∧ st = b2i h.frag.more) ?_ ?_)
      · refine ⟨_, H.cell 1 rfl 39 rfl, ?_⟩
        cases h.frag.more with
        | true => exact Br.t rfl ⟨rfl, rfl⟩
        | false => exact Br.f rfl ⟨rfl, rfl⟩
      rintro _ _ ⟨rfl, rfl⟩
      unfold ip6_made_J8181
      have hmore : 0 ≤ b2i h.frag.more ∧ b2i h.frag.more ≤ 1 := by unfold b2i; split <;> decide
      refine NewVC.sep H fun g2 w9 H => ⟨_, H.cell 1 rfl 42 rfl, _, H.cell 1 rfl 41 rfl, _, H.cell 1 rfl 40 rfl, ?_⟩
      rw [Int.tdiv_eq_ediv_of_nonneg hoff.1, w64 (by omega) (by omega)]
      refine NewVC.sep H fun g3 w10 H => ?_
      refine (pack_ok (ws := wsf) (vs := [h.next, 0, h.frag.off / 8, 0, b2i h.frag.more, h.frag.id]) (by simpa [wsf] using Cells.of_blk (H.blk 3 rfl) 0) rfl (by simpa using Cells.of_blk (H.blk 4 rfl) 0) rfl wsf_ok rfl).mono ?_
      rintro _ w11 ⟨hE11, ⟨-, BA, ds, hpk, rfl, hown⟩ | ⟨hno, rfl⟩⟩
      · have hds' := packedF hmore ho8 hpk
        have H := H.pushOwn hE11 hown (Nat.le_refl _)
        refine ⟨_, _, _, _, rfl, ?_⟩
        refine appB H 2 rfl (H.cells 5 rfl) rfl (by rw [hds']; simp [four]; omega) (H.restOf 0 rfl).size fun A2 c2 w12 H _ => ?_
        have e0 : fragB d = ds := by unfold fragB; rw [e_frag, e_next, if_pos hh, hds']
        rw [e0]
        exact ⟨by show X.1.length + ds.length = _; simp, H.take 3⟩
      · exact absurd (valuesF (by omega) hoff hmore hid) hno
  rintro ⟨EA, en, ec⟩ w13 ⟨hen, H⟩
  simp only at hen H
  show ip6_made_J511 _ g1 (firstK d) EA en ec w13
  subst hen
  unfold ip6_made_J511
  have hbl : (bodyB d).length = (X.1 ++ fragB d).length + h.data.n := by
    unfold bodyB; rw [hXe, e_data]; simp [hdl]; omega
  have hxf : (X.1 ++ fragB d).length ≤ 16392 := by rw [List.length_append]; omega
  refine ⟨_, _, _, H.cell 1 rfl 43 rfl, ?_⟩
  rw [w64 (n := ((X.1 ++ fragB d).length : Int) + (h.data.n : Int)) (by omega) (by omega), w64 (by omega) (by omega)]
  refine Br.dec (fun hbig => MadeW.err (H.restOf 0 rfl) (by unfold ser6S; rw [if_neg hfb, hXe, if_neg (by omega), if_neg (by omega), if_pos (by omega)])) fun hok => ?_
  have hser : ser6S d = (head6 d (bodyB d).length ++ (d.src.bytes ++ (d.dst.bytes ++ bodyB d)), 0) := by
    unfold ser6S; rw [if_neg hfb, hXe, if_neg (by omega), if_neg (by omega), if_neg (by omega)]
  have hfr := firstK_range (h := h) (es := es) (data := data) (by rw [hd]; exact hfb) (by rw [hd, hXe]; exact heq)
  rw [hd] at hfr
  refine NewVC.sep H fun g4 w14 H => ⟨_, H.cell 1 rfl 0 rfl, _, H.cell 1 rfl 1 rfl, _, H.cell 1 rfl 2 rfl, ?_⟩
  refine NewVC.sep H fun g5 w15 H => ?_
  refine (pack_ok (ws := ws6) (vs := [6, h.cls, h.flow, ((X.1 ++ fragB d).length : Int) + (h.data.n : Int), firstK d, h.hop]) (by simpa [ws6] using Cells.of_blk (H.blk 3 rfl) 0) rfl (by simpa using Cells.of_blk (H.blk 4 rfl) 0) rfl ws6_ok rfl).mono ?_
  rintro _ w16 ⟨hE16, ⟨-, BA, ds, hpk, rfl, hown⟩ | ⟨hno, rfl⟩⟩
  case inr => exact absurd (values6 (by omega) (by omega) (by omega) hfr (by omega)) hno
  have hds' := packed6 hpk
  have H := H.pushOwn hE16 hown (Nat.le_refl _)
  refine ⟨_, _, _, _, rfl, ?_⟩
  refine DrawVC.sep H (fun w' => Blk w' g1 30 h.cells) fun w17 H => ⟨H.blk 1 rfl, ?_⟩
  refine ⟨_, _, _, fun w' hb => hb.cell 43, ?_⟩
  refine NewVC.sep H fun g6 w18 H => ⟨H.blk 1 rfl, ?_⟩
  let ps : List JPart := [⟨⟨BA, ds.length, ds.length⟩, ds⟩, ⟨⟨some ⟨g1, 4, none⟩, 16, 16⟩, h.src.bytes⟩, ⟨⟨some ⟨g1, 21, none⟩, 16, 16⟩, h.dst.bytes⟩, ⟨⟨EA, (X.1 ++ fragB d).length, ec⟩, X.1 ++ fragB d⟩, ⟨h.data, data⟩]
  have hb1 := H.blk 1 rfl
  have hps : ∀ p ∈ ps, p.at w18 := by
    intro p hp
    simp only [ps, List.mem_cons, List.not_mem_nil, or_false] at hp
    rcases hp with rfl | rfl | rfl | rfl | rfl
    · exact ⟨rfl, by show ds.length ≤ 4000000; rw [hds']; simp, H.cells 5 rfl⟩
    · exact ⟨rfl, by show 16 ≤ 4000000; decide, (Cells.of_blk hb1 4).take 16⟩
    · exact ⟨rfl, by show 16 ≤ 4000000; decide, (Cells.of_blk hb1 21).take 16⟩
    · exact ⟨rfl, by show (X.1 ++ fragB d).length ≤ 4000000; omega, H.cells 2 rfl⟩
    · exact ⟨hdl, hds, (hD.ext (H.restOf 0 rfl)).cells⟩
  refine (join_spec (ps := ps) (by simpa [ps, Sl.val] using Cells.of_blk (H.blk 6 rfl) 0) (n := 5) rfl (by decide) (by decide) (Nat.le_refl _) hps).mono ?_
  rintro _ w19 ⟨gj, rfl, Hj⟩
  have hE19 := Hj.restOf 0 rfl
  refine ⟨_, _, _, rfl, hb1.ext hE19, ?_⟩
  have hjl : joinL ps = head6 d (bodyB d).length ++ (d.src.bytes ++ (d.dst.bytes ++ bodyB d)) := by
    have e1 : head6 d (bodyB d).length = ds := by
      unfold head6
      rw [hds', e_cls, e_flow, e_hop, hbl]
      simp
    rw [e1, e_src, e_dst]
    unfold bodyB
    rw [hXe, e_data]
    simp [joinL, ps]
  rw [hjl] at Hj ⊢
  rw [hser]
  exact ⟨_, _, rfl, (H.take 1).made Hj |>.weaken 1 rfl (f' := winB w.heap.size _ _ _) (by
    obtain ⟨hw1, hw2⟩ := Hj.yes 1 _ rfl
    refine ⟨hw1, ?_⟩
    rcases hw2 with hw2 | ⟨g, c, cs, h1, h2, h3⟩
    · exact .inl hw2
    · exact .inr ⟨g, c, cs, h1, Nat.le_trans (H.restOf 0 rfl).size h2, h3⟩) fun k hk => hk⟩
end
end N6
end Go.Proofs.YthhgbpmihhljdaaGreatDoor
/- Chapter 6, writing: options and small functions, both programs. -/
namespace Go.Proofs.YthhgbpmihhljdaaGreatDoor
namespace N6
open Go.Eng Go.RowKit
section
variable {w : World} {Γ : List Fct}
end
end N6
end Go.Proofs.YthhgbpmihhljdaaGreatDoor
/- Chapter 6, writing: Check and Serialise, both programs. -/
namespace Go.Eng
open Go Go.RowKit
section
variable {w0 w : World} {Γ : List Fct}
theorem Sep.fresh {g t : Nat} {cs : List Value} (H : Sep Γ w) (j i : Nat) (hne : j ≠ i) (hj : Γ[j]? = some (Fct.rest w0 None)) (hi : Γ[i]? = some (Fct.blk g t cs)) : w0.heap.size ≤ g :=
  Nat.le_of_not_lt fun hlt => H.apart j i _ _ hne hj hi g ⟨hlt, id⟩ rfl
/-- A block of the call's own as a row. -/
theorem Sep.blkOwn {g e b n c : Nat} {cs : List Value} (H : Sep Γ w) (i : Nat) (hi : Γ[i]? = some (Fct.blk g e cs)) (hb : b ≤ g) (hc : cs.length = c) (hn : n ≤ c) (hm : c ≤ maxLen) : Sep (Γ.set i (Fct.own b e 1 (.slice (some ⟨g, 0, none⟩) n c) n (cs.take n))) w :=
  H.weaken i hi (own_of_blk (H.blk i hi) hb hc hn hm) fun k hk => by
    have hk : (Value.slice (some ⟨g, 0, none⟩) n c).ownBlock = some k := hk
    simp [Value.ownBlock] at hk
    exact hk.symm
end
end Go.Eng
namespace Go.Proofs.YthhgbpmihhljdaaGreatDoor
namespace N6
open Go.Eng Go.RowKit
section
variable {w : World} {Γ : List Fct} {b n c m : Nat} {A : Option Addr} {xs : List Int}
section
variable {h : Ip4V} {os : List OptR} {data : List Int}
theorem bad4_iff : bad4 (h.d os data) ↔ (h.tos < 0 ∨ 255 < h.tos ∨ h.id < 0 ∨ 65535 < h.id ∨ h.off < 0 ∨ 65528 < h.off ∨ h.off % 8 ≠ 0 ∨ h.ttl < 0 ∨ 255 < h.ttl ∨ h.proto < 0 ∨ 255 < h.proto ∨ ¬ four4 h.src ∨ ¬ four4 h.dst) := Iff.rfl
end
end
end N6
end Go.Proofs.YthhgbpmihhljdaaGreatDoor
/- Chapter 13, the program's small functions: copies of bytes, of options, of headers; how many are kept; how long what is put is. -/
namespace Go.Proofs.YthhgbpmihhljdaaGreatDoor
namespace N6
open Go.Eng Go.RowKit
theorem tO : TypeIs Tryz.prog 127 (.agg #[.int .i64 0, .slice none 0 0]) 2 32 := .of (by kernel_rfl)
theorem tE : TypeIs Tryz.prog 56 (.agg #[.int .i64 0, .slice none 0 0, .slice none 0 0]) 3 56 := .of (by kernel_rfl)
section
variable {w : World} {Γ : List Fct}
/-- What is written so: bytes of the call's own. -/
theorem clone_spec {s : Sl} {l : List Int} (h : BytesAt w s l) : Calls Tryz.prog 22 #[s.val] w fun e w' => ∃ s' : Sl, e = .returned s'.val ∧ BFine s' l ∧ s'.n = s.n ∧ Sep [Fct.rest w None, rowB w.heap.size s' l] w' := by
  refine slices_Clone_of s.A s.n s.k w _ ?_
  unfold slices_Clone_VC
  have hl := h.len
  have hs := h.small
  cases hA : s.A with
  | none =>
    refine Br.t rfl ⟨⟨none, 0, 0⟩, rfl, ?_⟩
    have h0 : l = [] := by
      cases l with
      | nil => rfl
      | cons x r => obtain ⟨a, ha, _⟩ := h.cells 0 _ rfl; rw [hA] at ha; cases ha
    subst h0
    refine ⟨⟨Nat.zero_le _, h.bts⟩, by simpa using hl, (Sep.start0 w).nil _ _ _⟩
  | some a =>
    refine Br.f rfl (NewVC.sep (Sep.start0 w) fun g1 w1 H => ?_)
    have hg := H.fresh 0 1 (by decide) rfl rfl
    have H := H.blkOwn 1 rfl (b := w.heap.size) (n := 0) (c := 0) hg rfl (Nat.le_refl _) (by decide)
    have hz := (H.restOf 0 rfl).size
    have hc := h.cells.ext (H.restOf 0 rfl)
    rw [hA] at hc
    refine appB (m := s.n) (xs := []) (ys := l) H 1 rfl hc hl (by omega) (by omega) fun A2 c2 w2 H hc2 => ?_
    rw [Nat.zero_add] at H ⊢
    exact ⟨⟨A2, s.n, c2⟩, rfl, ⟨hs, h.bts⟩, rfl, H⟩
def keepO (copied : Bool) (o : OptD) : Bool := !copied || decide (bitv .and .i64 o.kind 128 ≠ 0)
theorem appO (H : Sep Γ w) (i : Nat) {b n c : Nat} {A A' : Option Addr} {xs : List Value} {o : OptV} {c' : Nat} (hi : Γ[i]? = some (Fct.own b 127 2 (.slice A n c) n xs)) (hs : Cells w A' o.cells) (hn : n ≤ 1000000000) (hb : b ≤ w.heap.size)
    {F : Option Addr → Nat → Nat → World → Prop} (h : ∀ A2 c2 w', Sep (Γ.set i (Fct.own b 127 2 (.slice A2 (n + 1) c2) (n + 1) (xs ++ o.cells))) w' → n + 1 ≤ c2 → F A2 (n + 1) c2 w') :
    AppVC Tryz.prog #[54, 54] 54 (.slice A n c) (.slice A' 1 c') w F :=
  AppVC.sep H i Tryz.underlying54 tO rfl (by decide) hi hs rfl o.one (by omega) (by decide) hb h
set_option maxHeartbeats 1000000 in
theorem options_spec {s : Sl} {rs : List OptR} {copied : Bool} (hO : OptsAt w s rs) : Calls Tryz.prog 49 #[s.val, .bool copied] w fun e w' => ∃ (s' : Sl) (rs' : List OptR), e = .returned s'.val ∧
    rs'.map OptR.d = (rs.map OptR.d).filter (keepO copied) ∧ OptsFine s' rs' ∧ Sep (Fct.rest w None :: optFs w.heap.size s' rs') w' := by
  refine split_options_of s.A s.n s.k copied w _ ?_
  unfold split_options_VC
  have hl := hO.len
  have hsm := hO.small
  refine LoopVC.of (fun st w' => ∃ (i : Nat) (rs' : List OptR), st.2 = i ∧ i ≤ s.n ∧ rs'.map OptR.d = ((rs.take i).map OptR.d).filter (keepO copied) ∧ OptsFine ⟨st.1.1, st.1.2.1, st.1.2.2⟩ rs' ∧ st.1.2.1 ≤ i ∧
      Sep (Fct.rest w None :: optFs w.heap.size ⟨st.1.1, st.1.2.1, st.1.2.2⟩ rs') w') (fun st _ => ((s.n : Int) - st.2).toNat)
    ⟨0, [], rfl, Nat.zero_le _, rfl, ⟨rfl, Nat.zero_le _, fun r hr => by cases hr⟩, Nat.zero_le _, (Sep.start0 w).nil _ _ _⟩ ?_
  rintro ⟨⟨A1, n1, c1⟩, _⟩ w1 ⟨i, rs', rfl, hi, hd, hf, hn1, H⟩
  simp only at hn1
  show split_options_L58 _ s.A s.n copied A1 n1 c1 (i : Int) w1 _
  unfold split_options_L58
  refine Br.dec (fun hlt => ?_) fun hge => ?_
  · have hlt : i < s.n := by omega
    refine (hO.ext H.start1).idx rfl hlt fun a r hr hc hb => OptV.of r.v ⟨hc, ?_⟩
    have htake : rs.take (i + 1) = rs.take i ++ [r] := by rw [List.take_add_one, hr]; rfl
    have hi1 : IntKind.i64.wrap ((i : Int) + 1) = ((i + 1 : Nat) : Int) := by rw [w64 (by omega) (by omega)]; omega
    refine NewVC.sep H fun g1 w2 H => ?_
    have H := H.front
    refine Stores.sep H 0 rfl (OptV.one _) (Nat.le_refl _) (splice_all rfl) fun w3 H => ?_
    refine JoinVC.of (fun b w' => b = keepO copied r.d ∧ Sep (Fct.blk g1 127 r.v.cells :: Fct.rest w None :: optFs w.heap.size ⟨A1, n1, c1⟩ rs') w') ?_ ?_
    · cases copied with
      | false => exact Br.t rfl ⟨rfl, H⟩
      | true => exact Br.f rfl ⟨_, H.cell 0 rfl 0 rfl, rfl, H⟩
    · rintro _ w4 ⟨rfl, H⟩
      show split_options_J3737 A1 n1 c1 (i : Int) _ g1 (keepO copied r.d) w4
      unfold split_options_J3737
      cases hk : keepO copied r.d with
      | false =>
        refine Br.f rfl ⟨⟨i + 1, rs', hi1, by omega, ?_, hf, by simp only; omega, H.tail⟩, ?_⟩
        · rw [htake, List.map_append, List.filter_append, hd]
          simp [hk]
        · simp only [hi1]; omega
      | true =>
        refine Br.t rfl (DrawVC.sep H (fun w' => Blk w' g1 127 r.v.cells) fun w5 H => ⟨H.blk 0 rfl, _, fun w' hb => hb.cell 0, _, _, _, fun w' hb => hb.cell 1, ?_⟩)
        refine (clone_spec (s := r.v.data) (l := r.data) (((hO.each r (List.mem_of_getElem? hr)).ext (H.restOf 1 rfl)))).mono ?_
        rintro _ w6 ⟨s', rfl, hB, hn, H6⟩
        have hz5 := (H.restOf 1 rfl).size
        have H := (H.made H6).front.lower 0 rfl hz5
        refine ⟨_, _, _, rfl, H.blk 1 rfl, NewVC.sep H fun g2 w7 H => ⟨H.front.blk 2 rfl, ?_⟩⟩
        have H := H.front
        have hz7 := (H.restOf 3 rfl).size
        refine appO (o := ⟨r.v.kind, s'⟩) H 4 rfl (Cells.blk0 (H.blk 0 rfl)) (show n1 ≤ 1000000000 by omega) (by omega) fun A2 c2 w8 H hc2 => ⟨H.blk 2 rfl, ⟨i + 1, rs' ++ [⟨⟨r.v.kind, s'⟩, r.data⟩], hi1, by omega, ?_, ⟨?_, by simp only; omega, ?_⟩, by simp only; omega, ?_⟩, by simp only [hi1]; omega⟩
        · rw [htake, List.map_append, List.map_append, List.filter_append, hd]
          have hk' : keepO copied ⟨r.v.kind, r.data⟩ = true := hk
          simp [hk', OptR.d]
        · have := hf.len; simp at this ⊢; omega
        · intro x hx
          rcases List.mem_append.1 hx with hx | hx
          · exact hf.each x hx
          · simp at hx; subst hx; exact hB
        · have H := H.tail.rot.tail
          simp only [optFs, rowO, List.map_append, List.flatten_append, List.map_cons, List.map_nil, List.flatten_cons, List.flatten_nil, List.append_nil]
          exact H
  · have hin : i = s.n := by omega
    exact ⟨⟨A1, n1, c1⟩, rs', rfl, by rw [hd, hin, ← hl, List.take_length], hf, H⟩
end
end N6
end Go.Proofs.YthhgbpmihhljdaaGreatDoor
