/- bytes.Join of two or more parts, without a separator. -/
import Derived.Test.YtkiogaglmjeplaaDoorBi
import Derived.Test.YtkiogaglmjeplaaDoorBe
import Derived.Test.YtkiogaglmjeplaaDoorBh
import Derived.Test.YtkiogaglmjeplaaDoorBf
import Derived.Test.YtkiogaglmjeplaaDoorBg
import Derived.Test.YtkiogaglmjeplaaDoorBd
namespace Go.Eng
open Go Go.RowKit
/-- A part: a slice, and its bytes. -/
structure JPart where
  s : Sl
  l : List Int
def JPart.at (w : World) (p : JPart) : Prop := p.l.length = p.s.n ∧ p.s.n ≤ 4000000 ∧ Cells w p.s.A (p.l.map (.int .u8))
def joinL (ps : List JPart) : List Int := (ps.map JPart.l).flatten
theorem joinL_snoc (ps : List JPart) (p : JPart) : joinL (ps ++ [p]) = joinL ps ++ p.l := by simp [joinL]
theorem joinL_take {ps : List JPart} {i : Nat} {p : JPart} (h : ps[i]? = some p) : joinL (ps.take (i + 1)) = joinL (ps.take i) ++ p.l := by
  have hlt := (List.getElem?_eq_some_iff.1 h).1
  rw [List.take_succ_eq_append_getElem hlt, joinL_snoc, (List.getElem?_eq_some_iff.1 h).2]
theorem joinL_len {ps : List JPart} {b : Nat} (h : ∀ p ∈ ps, p.l.length ≤ b) : (joinL ps).length ≤ ps.length * b := by
  induction ps with
  | nil => simp [joinL]
  | cons p r ih =>
    have h1 := h p (by simp)
    have h2 := ih fun q hq => h q (by simp [hq])
    simp only [joinL, List.map_cons, List.flatten_cons, List.length_append, List.length_cons] at h2 ⊢
    rw [Nat.add_mul]
    omega
theorem joinL_le {ps : List JPart} (i : Nat) : (joinL (ps.take i)).length ≤ (joinL ps).length := by
  have : joinL ps = joinL (ps.take i) ++ joinL (ps.drop i) := by
    unfold joinL; rw [← List.flatten_append, ← List.map_append, List.take_append_drop]
  rw [this, List.length_append]; omega
end Go.Eng
namespace Go.Proofs.YtkiogaglmjeplaaDoor
namespace N6
open Go.Eng Go.RowKit
section
variable {w : World} {Γ : List Fct}
abbrev winB (b : Nat) (v : Value) (n : Nat) (xs : List Int) : Fct := Fct.win b 5 v n (xs.map (.int .u8))
set_option maxHeartbeats 1000000 in
theorem join_spec {PA : Option Addr} {n c : Nat} {ps : List JPart} (hP : Cells w PA (ps.map fun p => p.s.val)) (hl : ps.length = n) (h2 : 2 ≤ n) (h100 : n ≤ 100) (hnc : n ≤ c) (each : ∀ p ∈ ps, p.at w) :
    Calls Tryd.prog 86 #[.slice PA n c, .slice none 0 0] w fun e w' => ∃ g, e = .returned (.slice (some ⟨g, 0, none⟩) (joinL ps).length (joinL ps).length) ∧
      Sep [Fct.rest w None, winB w.heap.size (.slice (some ⟨g, 0, none⟩) (joinL ps).length (joinL ps).length) (joinL ps).length (joinL ps)] w' := by
  refine bytes_Join_of PA n c none 0 0 w _ ?_
  unfold bytes_Join_VC
  have hlen : (joinL ps).length ≤ 400000000 := by
    have := joinL_len (b := 4000000) fun p hp => by have := each p hp; rw [this.1]; exact this.2.1
    have : ps.length * 4000000 ≤ 100 * 4000000 := Nat.mul_le_mul_right _ (by omega)
    omega
  have part : ∀ {w'}, Ext w w' → ∀ {i : Nat}, i < n → ∃ p, ps[i]? = some p ∧ p.at w ∧ (∀ (F : Addr → Prop), (∀ a, w'.cell? a = some p.s.val → F a) → ∀ {m : Nat}, n = m → IdxVC PA m 1 (i : Int) F) := by
    intro w' hE i hi
    have hil : i < ps.length := by omega
    refine ⟨ps[i], List.getElem?_eq_getElem hil, each _ (List.getElem_mem hil), fun F hF m hm => ?_⟩
    subst hm
    obtain ⟨a, ha, hc⟩ := (hP.ext hE).at (i := i) (by simpa using hil)
    exact ⟨a, ha, by omega, by omega, hF _ (by rw [Int.toNat_natCast, Nat.mul_one, hc]; simp)⟩
  refine Br.no (by omega) (Br.no (by omega) ?_)
  refine JoinVC.of (fun st w' => w = w' ∧ st = 0) (Br.no (by decide) ⟨rfl, rfl⟩) ?_
  rintro _ _ ⟨rfl, rfl⟩
  unfold bytes_Join_J31
  refine LoopVC.of (fun st w' => w = w' ∧ ∃ i : Nat, st.2 = (i : Int) ∧ i ≤ n ∧ st.1 = ((joinL (ps.take i)).length : Int)) (fun st _ => ((n : Int) - st.2).toNat) ⟨rfl, 0, rfl, Nat.zero_le _, by simp [joinL]⟩ ?_
  rintro ⟨_, _⟩ _ ⟨rfl, i, rfl, hi, rfl⟩
  show bytes_Join_L506 _ PA n c none 0 0 ((joinL (ps.take i)).length : Int) (i : Int) w _
  unfold bytes_Join_L506
  have hle := joinL_le (ps := ps) i
  refine Br.dec (fun hlt => ?_) fun hge => ?_
  · obtain ⟨p, hp, hat, hidx⟩ := part (Mod.refl _ w) (i := i) (by omega)
    have e1 := joinL_take hp
    have hle1 := joinL_le (ps := ps) (i + 1)
    rw [e1, List.length_append, hat.1] at hle1
    refine hidx _ (fun a hc => ⟨_, _, _, hc, ?_⟩) rfl
    rw [w64 (n := 9223372036854775807 - ((joinL (ps.take i)).length : Int)) (by omega) (by omega)]
    refine Br.no (by omega) ?_
    rw [w64 (n := (i : Int) + 1) (by omega) (by omega), w64 (n := ((joinL (ps.take i)).length : Int) + (p.s.n : Int)) (by omega) (by omega)]
    refine ⟨⟨rfl, i + 1, rfl, by omega, ?_⟩, by show ((n : Int) - ((i : Int) + 1)).toNat < ((n : Int) - (i : Int)).toNat; omega⟩
    show ((joinL (ps.take i)).length : Int) + (p.s.n : Int) = ((joinL (ps.take (i + 1))).length : Int)
    rw [e1, List.length_append, hat.1]; omega
  have hin : i = n := by omega
  subst hin
  rw [List.take_of_length_le (by omega)]
  obtain ⟨N, hN⟩ : ∃ N, (joinL ps).length = N := ⟨_, rfl⟩
  rw [hN] at hlen ⊢
  refine NoZeroVC.sep (Sep.start0 w) (by omega) (by omega) fun g cs w5 H hk hm => ?_
  refine ⟨by omega, by omega, by omega, ?_⟩
  rw [Int.toNat_natCast]
  obtain ⟨p0, hp0, hat0, hidx0⟩ := part (H.restOf 0 rfl) (i := 0) (by omega)
  have e0 : joinL (ps.take 1) = p0.l := by rw [joinL_take hp0]; simp [joinL]
  have hle0 := joinL_le (ps := ps) 1
  rw [e0, hN] at hle0
  refine hidx0 _ (fun a hc => ⟨_, _, _, hc, ?_⟩) rfl
  refine CopyVC.sep H 1 Tryd.underlying22 (by kernel_rfl) rfl (hat0.2.2.ext (H.restOf 0 rfl)) (by simpa using hat0.1) (by have := hat0.1; omega) (by omega) (ints_one _ _) fun w6 H => ?_
  refine ⟨by decide, by omega, ?_⟩
  have hrest : ∀ {w' : World}, Ext w w' → ∀ (j : Nat), j < i - 1 → ∀ p, ps[j + 1]? = some p → ∀ (F : Addr → Prop), (∀ a, w'.cell? a = some p.s.val → F a) → IdxVC (if c = (1 : Int).toNat then PA else PA.map (·.add ((1 : Int).toNat * 1))) (i - (1 : Int).toNat) 1 (j : Int) F := by
    intro w' hE j hj p hp F hF
    have h1 : (1 : Int).toNat = 1 := rfl
    rw [h1]
    have := (hP.ext hE).drop 1 (c := c) (by simp; omega) 1 (.inl rfl)
    obtain ⟨a, ha, hc⟩ := this j p.s.val (by rw [List.getElem?_drop, List.getElem?_map, show 1 + j = j + 1 by omega, hp]; rfl)
    exact ⟨a, ha, by omega, by omega, hF _ (by rw [Int.toNat_natCast, Nat.mul_one]; exact hc)⟩
  refine LoopVC.of (fun st w' => ∃ (j : Nat) (cs' : List Value), st.2 = (j : Int) ∧ j + 1 ≤ i ∧ st.1 = ((joinL (ps.take (j + 1))).length : Int) ∧ N ≤ cs'.length ∧ cs'.length ≤ maxLen ∧ cs'.take (joinL (ps.take (j + 1))).length = (joinL (ps.take (j + 1))).map (.int .u8) ∧ Sep [Fct.rest w None, Fct.blk g 5 cs'] w') (fun st _ => ((i : Int) - st.2).toNat) ?_ ?_
  · refine ⟨0, _, rfl, by omega, ?_, ?_, ?_, ?_, H⟩
    · rw [e0]; show (p0.s.n : Int) = _; rw [hat0.1]
    · rw [splice_len (by simp; omega)]; omega
    · rw [splice_len (by simp; omega)]; omega
    · rw [e0]
      have := splice_take (cs := cs) (xs := p0.l.map (Value.int .u8)) (o := 0) (by simp; omega)
      simpa using this
  rintro ⟨_, _⟩ w7 ⟨j, cs', rfl, hj, rfl, hk', hm', htk, H⟩
  have hlej := joinL_le (ps := ps) (j + 1)
  rw [hN] at hlej
  show bytes_Join_L4090 _ none 0 0 (some ⟨g, 0, none⟩) N N _ (i - (1 : Int).toNat) ((joinL (ps.take (j + 1))).length : Int) (j : Int) w7 _
  unfold bytes_Join_L4090
  obtain ⟨B, hB⟩ : ∃ B, (joinL (ps.take (j + 1))).length = B := ⟨_, rfl⟩
  rw [hB] at hlej htk ⊢
  refine Br.dec (fun hlt => ?_) fun hge => ?_
  · have hji : j + 1 < i := by simp at hlt; omega
    obtain ⟨p, hp, hat, _⟩ := part (Mod.refl _ w) (i := j + 1) (by omega)
    have e1 := joinL_take hp
    have hle1 := joinL_le (ps := ps) (j + 2)
    rw [e1, List.length_append, hat.1, hN, hB] at hle1
    refine hrest (H.restOf 0 rfl) j (by omega) p hp _ fun a hc => ⟨_, _, _, hc, by omega, by omega, ?_⟩
    obtain ⟨o', ho', ho1, ho2⟩ := at_off (g := g) (o := 0) (k := (B : Int).toNat) (c := N)
    rw [ho']
    rw [Int.toNat_natCast] at ho1 ho2
    simp only [Int.toNat_natCast]
    have ho'' : o' + (N - B) ≤ N := by
      by_cases h : N = B
      · have := ho2 h; omega
      · have := ho1 h; omega
    refine CopyVC.sep H 1 Tryd.underlying22 (by kernel_rfl) rfl (xs := []) (Cells.nil _ _) rfl (Nat.zero_le _) (by omega) (fun v hv => by cases hv) fun w8 H => ?_
    have es : splice cs' o' [] = cs' := by unfold splice; simp
    rw [es] at H
    refine ⟨by rw [w64 (by omega) (by omega)]; omega, by rw [w64 (by omega) (by omega)]; omega, ?_⟩
    rw [w64 (n := (B : Int) + (0 : Nat)) (by omega) (by omega), show (B : Int) + ((0 : Nat) : Int) = (B : Int) by omega, ho']
    simp only [Int.toNat_natCast]
    refine CopyVC.sep H 1 Tryd.underlying22 (by kernel_rfl) rfl (hat.2.2.ext (H.restOf 0 rfl)) (by simpa using hat.1) (by omega) (by omega) (ints_one _ _) fun w9 H => ?_
    rw [w64 (by omega) (by omega), w64 (by omega) (by omega)]
    refine ⟨⟨j + 1, _, rfl, by omega, ?_, ?_, ?_, ?_, H⟩, by show ((i : Int) - ((j : Int) + 1)).toNat < ((i : Int) - (j : Int)).toNat; omega⟩
    · show (B : Int) + (p.s.n : Int) = _; rw [e1, List.length_append, hat.1, hB]; omega
    · rw [splice_len (by simp [hat.1]; omega)]; exact hk'
    · rw [splice_len (by simp [hat.1]; omega)]; exact hm'
    · rw [e1, List.length_append, hB, List.map_append]
      by_cases hNB : N = B
      · have hp0 : p.l = [] := List.eq_nil_of_length_eq_zero (by rw [hat.1]; omega)
        have := ho2 hNB
        subst this
        rw [hp0]
        unfold splice
        simpa using htk
      · have := ho1 hNB
        rw [Nat.zero_add] at this
        rw [this]
        have hs := splice_take (cs := cs') (xs := p.l.map (Value.int .u8)) (o := B) (by simp [hat.1]; omega)
        rw [List.length_map] at hs
        rw [hs, htk]
  · have hji : j + 1 = i := by simp at hge; omega
    have : joinL (ps.take (j + 1)) = joinL ps := by rw [List.take_of_length_le (by omega)]
    rw [this, hN] at hB
    subst hB
    rw [this] at htk
    have hb := H.blk 1 rfl
    refine ⟨g, rfl, H.weaken 1 rfl (f' := winB w.heap.size (.slice (some ⟨g, 0, none⟩) N N) N (joinL ps)) ⟨by simpa using hN, .inr ⟨g, N, cs', rfl, ?_, Nat.le_refl _, hk', by simp only [maxLen]; omega, hb, htk⟩⟩ fun k hk => ?_⟩
    · refine Nat.le_of_not_lt fun hlt => H.apart 0 1 _ _ (by decide) rfl rfl g ⟨hlt, id⟩ rfl
    · simp [Fct.win, Value.ownBlock] at hk
      exact hk.symm
end
end N6
end Go.Proofs.YtkiogaglmjeplaaDoor
/- Chapter 7, writing: a datagram, the program's. -/
namespace Go.Proofs.YtkiogaglmjeplaaDoor
namespace N6
open Go.Eng Go.RowKit
/-- What a call that makes bytes hands back, where the row may have more room than its capacity says. -/
def MadeW (w : World) (r : List Int × Int) (e : Ending) (w' : World) : Prop :=
  ∃ A c, e = .returned (.tuple #[.slice A r.1.length c, .int .i64 r.2]) ∧ Sep [Fct.rest w None, winB w.heap.size (.slice A r.1.length c) r.1.length r.1] w'
section
variable {w : World} {Γ : List Fct}
theorem Made.win {w' : World} {r : List Int × Int} {e : Ending} (h : Made w r e w') : MadeW w r e w' := by
  obtain ⟨A, c, he, H⟩ := h
  exact ⟨A, c, he, H.ownWin (i := 1) rfl⟩
theorem MadeW.err {w' : World} {k : Int} {r : List Int × Int} (h : Ext w w') (hr : r = ([], k)) : MadeW w r (.returned (.tuple #[.slice none 0 0, .int .i64 k])) w' := (Made.err h hr).win
theorem valuesF {next off more id : Int} (hn : 0 ≤ next ∧ next ≤ 255) (ho : 0 ≤ off ∧ off ≤ 65528) (hm : 0 ≤ more ∧ more ≤ 1) (hi : 0 ≤ id ∧ id ≤ 4294967295) : valuesOk wsf [next, 0, off / 8, 0, more, id] := by
  refine ⟨rfl, fun i hi' => ?_⟩
  match i, hi' with
  | 0, _ => simp [wsf]; omega
  | 1, _ => simp [wsf]
  | 2, _ => simp [wsf]; omega
  | 3, _ => simp [wsf]
  | 4, _ => simp [wsf]; omega
  | 5, _ => simp [wsf]; omega
theorem values6 {cls flow n first hop : Int} (h0 : 0 ≤ cls ∧ cls ≤ 255) (h1 : 0 ≤ flow ∧ flow ≤ 1048575) (h2 : 0 ≤ n ∧ n ≤ 65535) (h3 : 0 ≤ first ∧ first ≤ 255) (h4 : 0 ≤ hop ∧ hop ≤ 255) : valuesOk ws6 [6, cls, flow, n, first, hop] := by
  refine ⟨rfl, fun i hi' => ?_⟩
  match i, hi' with
  | 0, _ => simp [ws6]
  | 1, _ => simp [ws6]; omega
  | 2, _ => simp [ws6]; omega
  | 3, _ => simp [ws6]; omega
  | 4, _ => simp [ws6]; omega
  | 5, _ => simp [ws6]; omega
/-- Headers that may be have kinds of headers. -/
theorem hdr_kind {l : List ExtD} {next : Int} {top : Bool} {x : ExtD} (h : (headersS l next top).2 = 0) (hx : l[0]? = some x) : x.kind = 0 ∨ x.kind = 43 ∨ x.kind = 60 := by
  have hl := (List.getElem?_eq_some_iff.1 hx).1
  unfold headersS at h
  split at h
  · cases h
  · refine Classical.byContradiction fun hk => ?_
    have hb : bodyS x = ([], 72) := by unfold bodyS; rw [if_neg (by omega), if_neg (by omega)]
    have hs := hdrF_step (l := l) (next := next) (top := top) (i := 0) rfl hx
    rw [if_neg (by omega), hb, if_pos (by decide)] at hs
    have := hdrF_stop (i := 0 + 1) (by rw [hs]; decide) l.length (by omega)
    rw [this, hs] at h
    cases h
theorem fragE_ok {d : Ip6D} (h : fragE d = 0) (hh : d.frag.has = true) : (0 ≤ d.frag.id ∧ d.frag.id ≤ 4294967295) ∧ (0 ≤ d.frag.off ∧ d.frag.off ≤ 65528) ∧ d.frag.off % 8 = 0 ∧ fitsS d.frag d.data.length = true := by
  unfold fragE at h
  rw [if_pos hh] at h
  split at h
  · cases h
  · rename_i hn
    refine ⟨by omega, by omega, by omega, ?_⟩
    cases hf : fitsS d.frag d.data.length with
    | true => rfl
    | false => exact absurd (.inr (.inr (.inr (.inr (.inr hf))))) hn
theorem firstK_range {h : Ip6V} {es : List ExtR} {data : List Int} (h0 : ¬ fieldBad (h.d es data)) (hh : (headersS (h.d es data).exts (behindK (h.d es data)) true).2 = 0) : 0 ≤ firstK (h.d es data) ∧ firstK (h.d es data) ≤ 255 := by
  have hn : 0 ≤ h.next ∧ h.next ≤ 255 := by
    have e1 : (h.d es data).next = h.next := rfl
    unfold fieldBad at h0; rw [e1] at h0; omega
  cases es with
  | nil =>
    show 0 ≤ behindK _ ∧ behindK _ ≤ 255
    unfold behindK
    split
    · decide
    · exact hn
  | cons r l =>
    have := hdr_kind (x := r.d) hh rfl
    show 0 ≤ r.d.kind ∧ r.d.kind ≤ 255
    omega
set_option maxHeartbeats 4000000 in
theorem made_spec {h : Ip6V} {es : List ExtR} {data : List Int} (hA : Ip6At w h es data) (hK : Kn w) : Calls Tryd.prog 52 #[h.val] w (MadeW w (ser6S (h.d es data))) := by
  refine ip6_made_of h w _ ?_
  unfold ip6_made_VC
  have hX := hA.exts
  have hD := hA.data
  have hdl := hD.len
  have hds := hD.small
  have hxl := hX.len
  obtain ⟨d, hd⟩ : ∃ d, h.d es data = d := ⟨_, rfl⟩
  have e_next : d.next = h.next := by rw [← hd]; rfl
  have e_cls : d.cls = h.cls := by rw [← hd]; rfl
  have e_flow : d.flow = h.flow := by rw [← hd]; rfl
  have e_hop : d.hop = h.hop := by rw [← hd]; rfl
  have e_frag : d.frag = h.frag := by rw [← hd]; rfl
  have e_exts : d.exts = es.map ExtR.d := by rw [← hd]; rfl
  have e_data : d.data = data := by rw [← hd]; rfl
  have e_src : d.src = h.src := by rw [← hd]; rfl
  have e_dst : d.dst = h.dst := by rw [← hd]; rfl
  rw [hd]
  refine NewVC.sep (Sep.start0 w) fun g1 w1 H => Ip6V.of h ⟨H.at 1 rfl, ?_⟩
  refine (sized_spec (es := es) (data := data)).mono ?_
  rintro _ w2 ⟨hE2, rfl⟩
  have H := H.ext hE2
  rw [hd]
  by_cases hfb : fieldBad d
  · rw [if_pos hfb]
    exact ⟨_, rfl, Br.yes (by decide) (MadeW.err (H.restOf 0 rfl) (by unfold ser6S; rw [if_pos hfb]))⟩
  rw [if_neg hfb]
  have hfb' := hfb
  unfold fieldBad at hfb'
  rw [e_cls, e_flow, e_hop, e_next] at hfb'
  refine ⟨_, rfl, Br.no (by decide) (DrawVC.sep H (fun w' => Blk w' g1 30 h.cells) fun w3 H => ⟨H.blk 1 rfl, _, fun w' hb => hb.cell 42, _, fun w' hb => hb.cell 42, ?_⟩)⟩
  refine JoinVC.of (fun st w' => w3 = w' ∧ st = (behindK d, behindK d)) ?_ ?_
  · refine ⟨_, H.cell 1 rfl 38 rfl, ?_⟩
    unfold behindK
    rw [e_frag, e_next]
    cases hh : h.frag.has with
    | true => exact Br.t rfl ⟨rfl, rfl⟩
    | false => exact Br.f rfl ⟨rfl, rfl⟩
  rintro _ _ ⟨rfl, rfl⟩
  show ip6_made_J15 _ g1 (behindK d) (behindK d) w3
  unfold ip6_made_J15
  refine JoinVC.of (fun st w' => w3 = w' ∧ st = firstK d) ?_ ?_
  · refine ⟨_, _, _, H.cell 1 rfl 37 rfl, Br.dec (fun h0 => ⟨_, _, _, H.cell 1 rfl 37 rfl, ?_⟩) fun h0 => ⟨rfl, ?_⟩⟩
    · refine (hX.ext (H.restOf 0 rfl)).idx (i := 0) rfl (by omega) fun a r hr hc _ _ => ⟨r.v.kind, by simpa [add_zero] using hc.1, rfl, ?_⟩
      rw [← hd, firstK_cons hr]
    · rw [← hd, firstK_nil (List.eq_nil_of_length_eq_zero (by omega))]
  rintro _ _ ⟨rfl, rfl⟩
  unfold ip6_made_J31
  refine ⟨_, _, _, H.cell 1 rfl 37 rfl, ?_⟩
  refine (headers_spec (next := behindK d) (inner := false) (hX.ext (H.restOf 0 rfl)) (hK.ext (H.restOf 0 rfl))).mono ?_
  rintro _ w6 ⟨XA, xc, rfl, H6⟩
  have H := (H.made H6).lower 2 rfl (b' := w.heap.size) (H.restOf 0 rfl).size
  rw [← e_exts] at H ⊢
  rw [show (!false) = true from rfl] at H ⊢
  obtain ⟨X, hXe⟩ : ∃ X, headersS d.exts (behindK d) true = X := ⟨_, rfl⟩
  have hXl : X.1.length ≤ 16384 := by rw [← hXe]; exact headersS_len _ _ _
  rw [hXe] at H ⊢
  refine ⟨_, _, _, _, rfl, Br.dec (fun hne => MadeW.err (H.restOf 0 rfl) (by unfold ser6S; rw [if_neg hfb, hXe, if_pos hne])) fun heq => Ip6V.of h ⟨H.at 1 rfl, ?_⟩⟩
  have heq : X.2 = 0 := by omega
  refine (fragged_spec (es := es) (hD.ext (H.restOf 0 rfl)) (hK.ext (H.restOf 0 rfl))).mono ?_
  rintro _ w7 ⟨hE7, rfl⟩
  have H := H.ext hE7
  rw [hd]
  refine ⟨_, rfl, Br.dec (fun hne => MadeW.err (H.restOf 0 rfl) (by unfold ser6S; rw [if_neg hfb, hXe, if_neg (by omega), if_pos hne])) fun hfe => ?_⟩
  have hfe : fragE d = 0 := by omega
  have hfl : (fragB d).length ≤ 8 := by unfold fragB; split <;> simp [four]
  refine JoinVC.of (fun st w' => st.2.1 = (X.1 ++ fragB d).length ∧ Sep [Fct.rest w None, Fct.blk g1 30 h.cells, ownB w.heap.size (.slice st.1 st.2.1 st.2.2) st.2.1 (X.1 ++ fragB d)] w') ?_ ?_
  · refine ⟨_, H.cell 1 rfl 38 rfl, ?_⟩
    cases hh : h.frag.has with
    | false =>
      have e0 : fragB d = [] := by unfold fragB; rw [e_frag, if_neg (by rw [hh]; decide)]
      refine Br.f rfl ⟨by rw [e0, List.append_nil], ?_⟩
      rw [e0, List.append_nil]; exact H
    | true =>
      obtain ⟨hid, hoff, ho8, _⟩ := fragE_ok hfe (by rw [e_frag]; exact hh)
      rw [e_frag] at hid hoff ho8
      refine Br.t rfl (JoinVC.of (fun st w' => w7 = w' ∧ st = b2i h.frag.more) ?_ ?_)
      · refine ⟨_, H.cell 1 rfl 39 rfl, ?_⟩
        cases h.frag.more with
        | true => exact Br.t rfl ⟨rfl, rfl⟩
        | false => exact Br.f rfl ⟨rfl, rfl⟩
      rintro _ _ ⟨rfl, rfl⟩
      unfold ip6_made_J8181
      have hmore : 0 ≤ b2i h.frag.more ∧ b2i h.frag.more ≤ 1 := by unfold b2i; split <;> decide
      refine NewVC.sep H fun g2 w9 H => ⟨_, H.cell 1 rfl 42 rfl, _, H.cell 1 rfl 41 rfl, _, H.cell 1 rfl 40 rfl, ?_⟩
      rw [Int.tdiv_eq_ediv_of_nonneg hoff.1, w64 (by omega) (by omega)]
      refine NewVC.sep H fun g3 w10 H => ?_
      refine (pack_ok (ws := wsf) (vs := [h.next, 0, h.frag.off / 8, 0, b2i h.frag.more, h.frag.id]) (by simpa [wsf] using Cells.of_blk (H.blk 3 rfl) 0) rfl (by simpa using Cells.of_blk (H.blk 4 rfl) 0) rfl wsf_ok rfl).mono ?_
      rintro _ w11 ⟨hE11, ⟨-, BA, ds, hpk, rfl, hown⟩ | ⟨hno, rfl⟩⟩
      · have hds' := packedF hmore ho8 hpk
        have H := H.pushOwn hE11 hown (Nat.le_refl _)
        refine ⟨_, _, _, _, rfl, ?_⟩
        refine appB H 2 rfl (H.cells 5 rfl) rfl (by rw [hds']; simp [four]; omega) (H.restOf 0 rfl).size fun A2 c2 w12 H _ => ?_
        have e0 : fragB d = ds := by unfold fragB; rw [e_frag, e_next, if_pos hh, hds']
        rw [e0]
        exact ⟨by show X.1.length + ds.length = _; simp, H.take 3⟩
      · exact absurd (valuesF (by omega) hoff hmore hid) hno
  rintro ⟨EA, en, ec⟩ w13 ⟨hen, H⟩
  simp only at hen H
  show ip6_made_J511 _ g1 (firstK d) EA en ec w13
  subst hen
  unfold ip6_made_J511
  have hbl : (bodyB d).length = (X.1 ++ fragB d).length + h.data.n := by
    unfold bodyB; rw [hXe, e_data]; simp [hdl]; omega
  have hxf : (X.1 ++ fragB d).length ≤ 16392 := by rw [List.length_append]; omega
  refine ⟨_, _, _, H.cell 1 rfl 43 rfl, ?_⟩
  rw [w64 (n := ((X.1 ++ fragB d).length : Int) + (h.data.n : Int)) (by omega) (by omega), w64 (by omega) (by omega)]
  refine Br.dec (fun hbig => MadeW.err (H.restOf 0 rfl) (by unfold ser6S; rw [if_neg hfb, hXe, if_neg (by omega), if_neg (by omega), if_pos (by omega)])) fun hok => ?_
  have hser : ser6S d = (head6 d (bodyB d).length ++ (d.src.bytes ++ (d.dst.bytes ++ bodyB d)), 0) := by
    unfold ser6S; rw [if_neg hfb, hXe, if_neg (by omega), if_neg (by omega), if_neg (by omega)]
  have hfr := firstK_range (h := h) (es := es) (data := data) (by rw [hd]; exact hfb) (by rw [hd, hXe]; exact heq)
  rw [hd] at hfr
  refine NewVC.sep H fun g4 w14 H => ⟨_, H.cell 1 rfl 0 rfl, _, H.cell 1 rfl 1 rfl, _, H.cell 1 rfl 2 rfl, ?_⟩
  refine NewVC.sep H fun g5 w15 H => ?_
  refine (pack_ok (ws := ws6) (vs := [6, h.cls, h.flow, ((X.1 ++ fragB d).length : Int) + (h.data.n : Int), firstK d, h.hop]) (by simpa [ws6] using Cells.of_blk (H.blk 3 rfl) 0) rfl (by simpa using Cells.of_blk (H.blk 4 rfl) 0) rfl ws6_ok rfl).mono ?_
  rintro _ w16 ⟨hE16, ⟨-, BA, ds, hpk, rfl, hown⟩ | ⟨hno, rfl⟩⟩
  case inr => exact absurd (values6 (by omega) (by omega) (by omega) hfr (by omega)) hno
  have hds' := packed6 hpk
  have H := H.pushOwn hE16 hown (Nat.le_refl _)
  refine ⟨_, _, _, _, rfl, ?_⟩
  refine DrawVC.sep H (fun w' => Blk w' g1 30 h.cells) fun w17 H => ⟨H.blk 1 rfl, ?_⟩
  refine ⟨_, _, _, fun w' hb => hb.cell 43, ?_⟩
  refine NewVC.sep H fun g6 w18 H => ⟨H.blk 1 rfl, ?_⟩
  let ps : List JPart := [⟨⟨BA, ds.length, ds.length⟩, ds⟩, ⟨⟨some ⟨g1, 4, none⟩, 16, 16⟩, h.src.bytes⟩, ⟨⟨some ⟨g1, 21, none⟩, 16, 16⟩, h.dst.bytes⟩, ⟨⟨EA, (X.1 ++ fragB d).length, ec⟩, X.1 ++ fragB d⟩, ⟨h.data, data⟩]
  have hb1 := H.blk 1 rfl
  have hps : ∀ p ∈ ps, p.at w18 := by
    intro p hp
    simp only [ps, List.mem_cons, List.not_mem_nil, or_false] at hp
    rcases hp with rfl | rfl | rfl | rfl | rfl
    · exact ⟨rfl, by show ds.length ≤ 4000000; rw [hds']; simp, H.cells 5 rfl⟩
    · exact ⟨rfl, by show 16 ≤ 4000000; decide, (Cells.of_blk hb1 4).take 16⟩
    · exact ⟨rfl, by show 16 ≤ 4000000; decide, (Cells.of_blk hb1 21).take 16⟩
    · exact ⟨rfl, by show (X.1 ++ fragB d).length ≤ 4000000; omega, H.cells 2 rfl⟩
    · exact ⟨hdl, hds, (hD.ext (H.restOf 0 rfl)).cells⟩
  refine (join_spec (ps := ps) (by simpa [ps, Sl.val] using Cells.of_blk (H.blk 6 rfl) 0) (n := 5) rfl (by decide) (by decide) (Nat.le_refl _) hps).mono ?_
  rintro _ w19 ⟨gj, rfl, Hj⟩
  have hE19 := Hj.restOf 0 rfl
  refine ⟨_, _, _, rfl, hb1.ext hE19, ?_⟩
  have hjl : joinL ps = head6 d (bodyB d).length ++ (d.src.bytes ++ (d.dst.bytes ++ bodyB d)) := by
    have e1 : head6 d (bodyB d).length = ds := by
      unfold head6
      rw [hds', e_cls, e_flow, e_hop, hbl]
      simp
    rw [e1, e_src, e_dst]
    unfold bodyB
    rw [hXe, e_data]
    simp [joinL, ps]
  rw [hjl] at Hj ⊢
  rw [hser]
  exact ⟨_, _, rfl, (H.take 1).made Hj |>.weaken 1 rfl (f' := winB w.heap.size _ _ _) (by
    obtain ⟨hw1, hw2⟩ := Hj.yes 1 _ rfl
    refine ⟨hw1, ?_⟩
    rcases hw2 with hw2 | ⟨g, c, cs, h1, h2, h3⟩
    · exact .inl hw2
    · exact .inr ⟨g, c, cs, h1, Nat.le_trans (H.restOf 0 rfl).size h2, h3⟩) fun k hk => hk⟩
end
end N6
end Go.Proofs.YtkiogaglmjeplaaDoor
/- Contracts of the document's own answer for Pack and Bytes (package weirref1). -/
namespace Go.Eng
/-- The bits of a number out of bits. -/
theorem bit_of_fieldV {f : Nat → Int} (hf : ∀ i, 0 ≤ f i ∧ f i < 2) (p j : Nat) (hj : j < 8) : (fieldV f p 8 / 2 ^ (7 - j)) % 2 = f (p + j) := by
  have h0 := hf (p + 0)
  have h1 := hf (p + 1)
  have h2 := hf (p + 2)
  have h3 := hf (p + 3)
  have h4 := hf (p + 4)
  have h5 := hf (p + 5)
  have h6 := hf (p + 6)
  have h7 := hf (p + 7)
  simp only [fieldV]
  match j, hj with
  | 0, _ => simp only [Int.reducePow, Nat.sub_zero]; omega
  | 1, _ => simp only [Int.reducePow, Nat.reduceSub]; omega
  | 2, _ => simp only [Int.reducePow, Nat.reduceSub]; omega
  | 3, _ => simp only [Int.reducePow, Nat.reduceSub]; omega
  | 4, _ => simp only [Int.reducePow, Nat.reduceSub]; omega
  | 5, _ => simp only [Int.reducePow, Nat.reduceSub]; omega
  | 6, _ => simp only [Int.reducePow, Nat.reduceSub]; omega
  | 7, _ => simp only [Int.reducePow, Nat.reduceSub]; omega
/-- A row of bits. -/
def Row01 (row : List Int) : Prop := ∀ x ∈ row, 0 ≤ x ∧ x < 2
theorem Row01.at {row : List Int} (h : Row01 row) (i : Nat) : 0 ≤ row.getD i 0 ∧ row.getD i 0 < 2 := by
  by_cases hi : i < row.length
  · have e : row.getD i 0 = row[i] := by simp [hi]
    rw [e]; exact h _ (List.getElem_mem hi)
  · have e : row.getD i 0 = 0 := by simp [Nat.le_of_not_lt hi]
    omega
theorem Row01.snoc {row : List Int} (h : Row01 row) {b : Int} (h0 : 0 ≤ b) (h1 : b < 2) : Row01 (row ++ [b]) := by
  intro x hx
  rcases List.mem_append.1 hx with hx | hx
  · exact h x hx
  · simp at hx; omega
theorem getD_append_left {row : List Int} {q : Nat} (h : q < row.length) (l : List Int) : (row ++ l).getD q 0 = row.getD q 0 := by
  simp [List.getElem?_append_left h]
theorem getD_snoc (row : List Int) (b : Int) : (row ++ [b]).getD row.length 0 = b := by simp
theorem bitAt_rows {row l : List Int} {t : Nat} (hr : Row01 row) (hl : l = (List.range t).map fun q => fieldV (fun i => row.getD i 0) (8 * q) 8) {i : Nat} (hi : i < 8 * t) : bitAt l i = row.getD i 0 := by
  subst hl
  unfold bitAt
  have e : ((List.range t).map fun q => fieldV (fun i => row.getD i 0) (8 * q) 8).getD (i / 8) 0 = fieldV (fun i => row.getD i 0) (8 * (i / 8)) 8 := by
    simp [List.getD_eq_getElem?_getD, show i / 8 < t by omega]
  rw [e, bit_of_fieldV hr.at _ _ (by omega)]
  rw [show 8 * (i / 8) + i % 8 = i by omega]
def beBytes (v : Int) (k : Nat) : List Int := (List.range k).map fun i => v / 256 ^ (k - 1 - i) % 256
theorem beBytes_length (v : Int) (k : Nat) : (beBytes v k).length = k := by simp [beBytes]
theorem beBytes_getD (v : Int) (k : Nat) {i : Nat} (h : i < k) : (beBytes v k).getD i 0 = v / 256 ^ (k - 1 - i) % 256 := by
  simp [beBytes, List.getD_eq_getElem?_getD, h]
/-- The document's way to one byte of eight. -/
theorem byte8 {x : Int} (h0 : 0 ≤ x) (h1 : x < 18446744073709551616) :
    IntKind.u8.wrap (IntKind.u64.wrap (Int.tdiv (IntKind.u64.wrap (Int.tdiv (IntKind.u64.wrap (Int.tdiv (IntKind.u64.wrap (Int.tdiv (IntKind.u64.wrap (Int.tdiv (IntKind.u64.wrap (Int.tdiv (IntKind.u64.wrap (Int.tdiv x 256)) 256)) 256)) 256)) 256)) 256)) 256)) = x / 72057594037927936 := by
  rw [Int.tdiv_eq_ediv_of_nonneg h0, wu64 (n := x / 256) (by omega) (by omega)]
  rw [Int.tdiv_eq_ediv_of_nonneg (show 0 ≤ x / 256 by omega), wu64 (n := x / 256 / 256) (by omega) (by omega)]
  rw [Int.tdiv_eq_ediv_of_nonneg (show 0 ≤ x / 256 / 256 by omega), wu64 (n := x / 256 / 256 / 256) (by omega) (by omega)]
  rw [Int.tdiv_eq_ediv_of_nonneg (show 0 ≤ x / 256 / 256 / 256 by omega), wu64 (n := x / 256 / 256 / 256 / 256) (by omega) (by omega)]
  rw [Int.tdiv_eq_ediv_of_nonneg (show 0 ≤ x / 256 / 256 / 256 / 256 by omega), wu64 (n := x / 256 / 256 / 256 / 256 / 256) (by omega) (by omega)]
  rw [Int.tdiv_eq_ediv_of_nonneg (show 0 ≤ x / 256 / 256 / 256 / 256 / 256 by omega), wu64 (n := x / 256 / 256 / 256 / 256 / 256 / 256) (by omega) (by omega)]
  rw [Int.tdiv_eq_ediv_of_nonneg (show 0 ≤ x / 256 / 256 / 256 / 256 / 256 / 256 by omega), wu64 (n := x / 256 / 256 / 256 / 256 / 256 / 256 / 256) (by omega) (by omega)]
  rw [wu8 (by omega) (by omega)]
  omega
theorem shift8 {v : Int} (h0 : 0 ≤ v) (h1 : v < 18446744073709551616) {i : Nat} (hi : i < 8) :
    (v * 256 ^ i % 18446744073709551616) / 72057594037927936 = v / 256 ^ (7 - i) % 256 ∧ (v * 256 ^ i % 18446744073709551616 * 256) % 18446744073709551616 = v * 256 ^ (i + 1) % 18446744073709551616 := by
  match i, hi with
  | 0, _ => simp only [Int.reducePow, Nat.reduceSub, Nat.reduceAdd]; omega
  | 1, _ => simp only [Int.reducePow, Nat.reduceSub, Nat.reduceAdd]; omega
  | 2, _ => simp only [Int.reducePow, Nat.reduceSub, Nat.reduceAdd]; omega
  | 3, _ => simp only [Int.reducePow, Nat.reduceSub, Nat.reduceAdd]; omega
  | 4, _ => simp only [Int.reducePow, Nat.reduceSub, Nat.reduceAdd]; omega
  | 5, _ => simp only [Int.reducePow, Nat.reduceSub, Nat.reduceAdd]; omega
  | 6, _ => simp only [Int.reducePow, Nat.reduceSub, Nat.reduceAdd]; omega
  | 7, _ => simp only [Int.reducePow, Nat.reduceSub, Nat.reduceAdd]; omega
theorem top_zero {v : Int} {q : Nat} (h0 : 0 ≤ v) (h1 : v < 256 ^ (q + 1)) (hz : v / 256 ^ q % 256 = 0) : v < 256 ^ q := by
  have hp : (0 : Int) < 256 ^ q := Int.pow_pos (by decide)
  rw [Int.pow_succ] at h1
  have h2 : v / 256 ^ q < 256 := Int.ediv_lt_of_lt_mul hp (by rwa [Int.mul_comm])
  have h3 : 0 ≤ v / 256 ^ q := Int.ediv_nonneg h0 (by omega)
  have h4 : v / 256 ^ q = 0 := by omega
  have h5 := Int.mul_ediv_add_emod v (256 ^ q)
  have h6 := Int.emod_lt_of_pos v hp
  rw [h4, Int.mul_zero, Int.zero_add] at h5
  omega
set_option maxRecDepth 8000 in
theorem top_not {v : Int} {q k : Nat} (h0 : 0 ≤ v) (hk : k ≤ q) (hz : v / 256 ^ q % 256 ≠ 0) : ¬ v < 256 ^ k := by
  intro h
  have h1 : (256 : Int) ^ k ≤ 256 ^ q := by
    have : (256 : Nat) ^ k ≤ 256 ^ q := Nat.pow_le_pow_right (by decide) hk
    exact_mod_cast this
  rw [Int.ediv_eq_zero_of_lt h0 (by omega)] at hz
  exact hz (by decide)
end Go.Eng
namespace Go.Proofs.YtkiogaglmjeplaaDoor
namespace N6
open Go.Eng Go.RowKit
theorem refBits_spec {A : Option Addr} {n c : Nat} {ws : List Int} {w : World} (hb : Cells w A (ws.map (.int .i64))) (hl : ws.length = n) :
    Calls Tryd.prog 79 #[.slice A n c] w fun e w' => w = w' ∧ ((widthsOk ws ∧ e = .returned (.int .i64 (psum ws))) ∨ (¬ widthsOk ws ∧ e = .returned (.int .i64 (-1)))) := by
  refine weirref1_bits_of A n c w _ ?_
  unfold weirref1_bits_VC
  refine Br.dec (fun h => ⟨rfl, .inr ⟨fun hok => ?_, rfl⟩⟩) (fun h64 => ?_)
  · have := hok.1; omega
  refine LoopVC.of (fun s w1 => w = w1 ∧ ∃ i : Nat, i ≤ n ∧ s = (psum (ws.take i), (i : Int)) ∧ W32 (ws.take i)) (fun s _ => (n - s.2).toNat) ⟨rfl, 0, by omega, rfl, fun x hx => by simp at hx⟩ ?_
  rintro _ w1 ⟨rfl, i, hi, rfl, hWi⟩
  have hb1 := psum_bound hWi
  have hle : (ws.take i).length ≤ 64 := by rw [List.length_take]; omega
  show weirref1_bits_L122 _ A n (psum (ws.take i)) (i : Int) w _
  unfold weirref1_bits_L122
  refine Br.dec (fun h1 => ?_) (fun h1 => ?_)
  · refine IdxVC.int hb (by omega) (by omega) hl fun a hc => ⟨_, hc, ?_⟩
    have hil : i < ws.length := by omega
    rw [getD_cast _ _ hil]
    refine Br.dec (fun h2 => ⟨rfl, .inr ⟨fun hok => ?_, rfl⟩⟩) (fun h2 => ?_)
    · have := hok.2.1 _ (List.getElem_mem hil); omega
    refine IdxVC.int hb (by omega) (by omega) hl fun a hc => ⟨_, hc, ?_⟩
    rw [getD_cast _ _ hil]
    refine Br.dec (fun h3 => ⟨rfl, .inr ⟨fun hok => ?_, rfl⟩⟩) (fun h3 => ?_)
    · have := hok.2.1 _ (List.getElem_mem hil); omega
    refine IdxVC.int hb (by omega) (by omega) hl fun a hc => ⟨_, hc, ?_⟩
    rw [getD_cast _ _ hil]
    have e2 : psum (ws.take (i + 1)) = psum (ws.take i) + ws[i] := by
      rw [List.take_succ_eq_append_getElem hil, psum_snoc]
    refine ⟨⟨rfl, i + 1, by omega, ?_, ?_⟩, ?_⟩
    · rw [w64 (n := psum (ws.take i) + ws[i]) (by omega) (by omega), w64 (n := (i : Int) + 1) (by omega) (by omega), e2]; simp
    · intro x hx
      rw [List.take_succ_eq_append_getElem hil] at hx
      rcases List.mem_append.1 hx with hx | hx
      · exact hWi x hx
      · simp at hx; omega
    · simp only
      rw [w64 (n := (i : Int) + 1) (by omega) (by omega)]; omega
  · have hin : i = ws.length := by omega
    subst hin
    rw [List.take_length] at hb1 hWi ⊢
    rw [Int.tmod_eq_emod_of_nonneg hb1.1]
    refine Br.dec (fun h8 => ⟨rfl, .inr ⟨fun hok => h8 hok.2.2, rfl⟩⟩) (fun h8 => ⟨rfl, .inl ⟨⟨by omega, hWi, by omega⟩, rfl⟩⟩)
theorem power_spec {k : Nat} {w : World} (hk : k ≤ 62) : Calls Tryd.prog 94 #[.int .i64 (k : Int)] w fun e w' => w = w' ∧ e = .returned (.int .i64 (2 ^ k)) := by
  refine weirref1_power_of (k : Int) w _ ?_
  unfold weirref1_power_VC
  refine LoopVC.of (fun s w1 => w = w1 ∧ ∃ i : Nat, i ≤ k ∧ s = ((2 : Int) ^ i, (i : Int))) (fun s _ => (k - s.2).toNat) ⟨rfl, 0, by omega, rfl⟩ ?_
  rintro _ w1 ⟨rfl, i, hi, rfl⟩
  show weirref1_power_L58 _ (k : Int) ((2 : Int) ^ i) (i : Int) w _
  unfold weirref1_power_L58
  refine Br.dec (fun h => ⟨⟨rfl, i + 1, by omega, ?_⟩, ?_⟩) (fun h => ⟨rfl, ?_⟩)
  · have hp : (2 : Int) ^ i ≤ 2 ^ 61 := by
      have : (2 : Nat) ^ i ≤ 2 ^ 61 := Nat.pow_le_pow_right (by decide) (by omega)
      exact_mod_cast this
    have hp' : (2 : Int) ^ 61 = 2305843009213693952 := by decide
    have hp0 : (0 : Int) < 2 ^ i := Int.pow_pos (by decide)
    rw [w64 (n := 2 * (2 : Int) ^ i) (by omega) (by omega), w64 (by omega) (by omega), Int.pow_succ, Int.mul_comm]
    rfl
  · simp only
    rw [w64 (by omega) (by omega)]; omega
  · have : i = k := by omega
    subst this
    rfl
/-- How a row of bits stands for the first values. -/
structure BitRow (ws vs row : List Int) (i : Nat) : Prop where
  bits : Row01 row
  len : (row.length : Int) = psum (ws.take i)
  vals : fieldsV (fun q => row.getD q 0) 0 (ws.take i) = vs.take i

theorem pack_tail {w0 w : World} {R : Ending → World → Prop} {RA : Option Addr} {row ws vs : List Int} (hE : Ext w0 w) (hrow : Cells w RA (row.map (.int .i64))) (hok : widthsOk ws) (hv : vs.length = ws.length) (hb : BitRow ws vs row ws.length)
    (h : ∀ w' A' c' ds, Ext w0 w' → Packed ws vs ds → w'.ownsRow w.heap.size 5 1 (.slice A' ds.length c') ds.length (ds.map (.int .u8)) → R (.returned (.tuple #[.slice A' ds.length c', .int .i64 0])) w') :
    LoopVC (S := (Option Addr × Nat × Nat) × Int) (fun s w10 K2042 => weirref1_Pack_L2042 R (psum ws) RA row.length s.1.1 s.1.2.1 s.1.2.2 s.2 w10 K2042) ((none, 0, 0), 0) w := by
  have hW := hok.2.1
  have hpb := psum_bound hW
  have h64 : ws.length ≤ 64 := hok.1
  have h8 := hok.2.2
  have hlen := hb.len
  have hvals := hb.vals
  rw [List.take_length] at hlen hvals
  rw [List.take_of_length_le (by omega)] at hvals
  refine LoopVC.of (fun s w' => ∃ (t : Nat) (A2 : Option Addr) (c2 : Nat), 8 * t ≤ row.length ∧ s = ((A2, t, c2), 8 * (t : Int)) ∧ Ext w w' ∧
    w'.ownsRow w.heap.size 5 1 (.slice A2 t c2) t (((List.range t).map fun q => fieldV (fun i => row.getD i 0) (8 * q) 8).map (.int .u8))) (fun s _ => (row.length - s.2).toNat) ⟨0, none, 0, by omega, by simp, Mod.refl _ _, World.ownsRow_nil _ _ _ _⟩ ?_
  rintro _ w1 ⟨t, A2, c2, ht, rfl, hE1, hown⟩
  show weirref1_Pack_L2042 R (psum ws) RA row.length A2 t c2 (8 * (t : Int)) w1 _
  unfold weirref1_Pack_L2042
  refine Br.dec (fun hlt => ?_) (fun hge => ?_)
  · refine LoopVC.of (fun s w' => w1 = w' ∧ ∃ j : Nat, j ≤ 8 ∧ s = (fieldV (fun i => row.getD i 0) (8 * t) j, 8 * (t : Int) + j)) (fun s _ => (8 * t + 8 - s.2).toNat) ⟨rfl, 0, by omega, by simp [fieldV]⟩ ?_
    rintro _ w2 ⟨rfl, j, hj, rfl⟩
    show weirref1_Pack_L522826 RA row.length A2 t c2 (8 * (t : Int)) _ (fieldV (fun i => row.getD i 0) (8 * t) j) (8 * (t : Int) + j) w1 _
    unfold weirref1_Pack_L522826
    have hfb := fieldV_bound hb.bits.at (8 * t) j
    have hp2 := pow2_32 (n := j) (by omega)
    rw [w64 (n := 8 * (t : Int) + 8) (by omega) (by omega)]
    refine Br.dec (fun hjl => ?_) (fun hjg => ?_)
    · refine IdxVC.int (hrow.ext hE1) (by omega) (by omega) rfl fun a hc => ⟨_, hc, ?_⟩
      have e1 : (8 * (t : Int) + j).toNat = 8 * t + j := by omega
      have h01 := hb.bits.at (8 * t + j)
      rw [e1, w64 (n := 2 * fieldV (fun i => row.getD i 0) (8 * t) j) (by omega) (by omega), w64 (n := 2 * fieldV (fun i => row.getD i 0) (8 * t) j + row.getD (8 * t + j) 0) (by omega) (by omega), w64 (n := 8 * (t : Int) + j + 1) (by omega) (by omega)]
      refine ⟨⟨rfl, j + 1, by omega, ?_⟩, by simp only; omega⟩
      simp only [fieldV]
      rw [Prod.mk.injEq]; constructor
      · rfl
      · omega
    · have hj8 : j = 8 := by omega
      subst hj8
      rw [wu8 hfb.1 (by have : (2 : Int) ^ 8 = 256 := by decide
                        omega)]
      refine AppVC.one Tryd.underlying22 tyByte rfl hown rfl (by omega) (by decide) hE1.size fun A3 c3 w7 hown7 hm7 hc7 => ?_
      refine ⟨⟨t + 1, A3, c3, by omega, ?_, Ext.own hE1 hown hm7, ?_⟩, ?_⟩
      · simp; omega
      · rw [List.range_succ, List.map_append, List.map_append]; exact hown7
      · simp only; omega
  · have hl : row.length = 8 * t := by omega
    have hpk : Packed ws vs ((List.range t).map fun q => fieldV (fun i => row.getD i 0) (8 * q) 8) := by
      refine ⟨by simp; omega, ?_, ?_⟩
      · intro x hx
        obtain ⟨q, _, rfl⟩ := List.mem_map.1 hx
        exact fieldV_bound hb.bits.at (8 * q) 8
      · rw [← hvals]
        refine fieldsV_congr ws 0 hW fun i hi => ?_
        rw [Nat.zero_add]
        exact bitAt_rows hb.bits rfl (by omega)
    have := h w1 A2 c2 _ (hE.ext hE1) hpk (by simpa using hown)
    simpa using this

theorem pack_bits {w0 w : World} {A RA : Option Addr} {n rc i : Nat} {wide v : Int} {row ws vs : List Int} {K : (Option Addr × Nat × Nat) × Int → World → Prop} (hE : Ext w0 w) (hvs : Cells w0 A (vs.map (.int .i64))) (hn : vs.length = n) (hi : i < n) (hv : vs.getD i 0 = v)
    (hw0 : 1 ≤ wide) (hw1 : wide ≤ 32) (hv0 : 0 ≤ v) (hv1 : v < 2 ^ wide.toNat) (hown : w.ownsRow w0.heap.size 3 1 (.slice RA row.length rc) row.length (row.map (.int .i64))) (hb : BitRow ws vs row i) (hW : W32 (ws.take i)) (hsz : row.length ≤ 4096)
    (hK : ∀ w' A' c' row', Ext w0 w' → w'.ownsRow w0.heap.size 3 1 (.slice A' row'.length c') row'.length (row'.map (.int .i64)) → Row01 row' → (row'.length : Int) = row.length + wide → fieldsV (fun q => row'.getD q 0) 0 (ws.take i) = vs.take i →
      fieldV (fun q => row'.getD q 0) row.length wide.toNat = v → K ((A', row'.length, c'), IntKind.i64.wrap ((i : Int) + 1)) w') :
    LoopVC (S := (Option Addr × Nat × Nat) × Int) (fun s w5 K64806 => weirref1_Pack_L64806 A n (i : Int) K s.1.1 s.1.2.1 s.1.2.2 s.2 w5 K64806) ((RA, row.length, rc), IntKind.i64.wrap (wide - 1)) w := by
  rw [w64 (n := wide - 1) (by omega) (by omega)]
  have hpsn := psum_bound hW
  have hbl := hb.len
  refine LoopVC.of (fun s w' => ∃ (j : Nat) (A2 : Option Addr) (c2 : Nat) (row2 : List Int), (j : Int) ≤ wide ∧ s = ((A2, row2.length, c2), wide - 1 - j) ∧ Ext w0 w' ∧ w'.ownsRow w0.heap.size 3 1 (.slice A2 row2.length c2) row2.length (row2.map (.int .i64)) ∧
    Row01 row2 ∧ row2.length = row.length + j ∧ fieldsV (fun q => row2.getD q 0) 0 (ws.take i) = vs.take i ∧ fieldV (fun q => row2.getD q 0) row.length j = v / 2 ^ (wide.toNat - j)) (fun s _ => (s.2 + 1).toNat) ?_ ?_
  · refine ⟨0, RA, rc, row, by omega, by simp, hE, hown, hb.bits, rfl, hb.vals, ?_⟩
    simp only [fieldV, Nat.sub_zero]
    rw [Int.ediv_eq_zero_of_lt hv0 hv1]
  rintro _ w1 ⟨j, A2, c2, row2, hj, rfl, hE1, hown1, h01, hlen, hvals, hfv⟩
  show weirref1_Pack_L64806 A n (i : Int) K A2 row2.length c2 (wide - 1 - j) w1 _
  unfold weirref1_Pack_L64806
  refine Br.dec (fun hk => ?_) (fun hk => ?_)
  · intro w2 hw2
    have hE2 : Ext w1 w2 := by subst hw2; exact Ext.drew w1
    have hE02 := hE1.ext hE2
    refine ⟨fun w' => Ext w0 w', hE02, ?_⟩
    refine IdxVC.draw (S := fun w' => Ext w0 w') hE02 (fun w' h => hvs.ext h) (by omega) (by omega) hn fun a hc => ⟨_, hc, ?_⟩
    rw [Int.toNat_natCast, hv]
    have ek : wide - 1 - (j : Int) = ((wide.toNat - (j + 1) : Nat) : Int) := by omega
    rw [ek]
    refine (power_spec (by omega)).mono ?_
    rintro _ w3 ⟨rfl, rfl⟩
    have hpw : (0 : Int) < 2 ^ (wide.toNat - (j + 1)) := Int.pow_pos (by decide)
    refine ⟨_, rfl, hE02, by omega, ?_⟩
    have hp := pow2_32 (n := wide.toNat) (by omega)
    have hdb : 0 ≤ v / 2 ^ (wide.toNat - (j + 1)) := Int.ediv_nonneg hv0 (Int.pow_nonneg (by decide))
    have hdb2 : v / 2 ^ (wide.toNat - (j + 1)) ≤ v := Int.ediv_le_self _ hv0
    rw [Int.tdiv_eq_ediv_of_nonneg hv0, w64 (n := v / 2 ^ (wide.toNat - (j + 1))) (by omega) (by omega), Int.tmod_eq_emod_of_nonneg hdb]
    obtain ⟨ti, hti, htz, hts, hty⟩ := tyInt
    refine NewVC.blk fun g w8 hg hz8 hE8 hb8 => ⟨hE02.ext hE8, ?_⟩
    have hown8 := own_ext hown1 (hE2.ext hE8)
    refine AppVC.own Tryd.underlying97 hti htz hts hty rfl (by decide) hown8 (by simpa using Cells.of_blk hb8 0) rfl (by simp [Value.oneCell']) (by omega) (by decide) (hE02.ext hE8).size fun A3 c3 w9 hown9 hm9 hc9 => ?_
    have hE9 := Ext.own (hE02.ext hE8) hown8 hm9
    refine ⟨hE9, ⟨j + 1, A3, c3, row2 ++ [(v / 2 ^ (wide.toNat - (j + 1))) % 2], by omega, ?_, hE9, ?_, h01.snoc (by omega) (by omega), by simp; omega, ?_, ?_⟩, ?_⟩
    · rw [w64 (by omega) (by omega)]
      simp; omega
    · simpa using hown9
    · rw [← hvals]
      refine fieldsV_congr _ _ hW fun q hq => ?_
      exact getD_append_left (by omega) _
    · simp only [fieldV]
      have e1 : (row2 ++ [(v / 2 ^ (wide.toNat - (j + 1))) % 2]).getD (row.length + j) 0 = (v / 2 ^ (wide.toNat - (j + 1))) % 2 := by
        rw [← hlen]; exact getD_snoc _ _
      have e2 : fieldV (fun q => (row2 ++ [(v / 2 ^ (wide.toNat - (j + 1))) % 2]).getD q 0) row.length j = fieldV (fun q => row2.getD q 0) row.length j :=
        fieldV_congr _ _ _ fun q hq => getD_append_left (by omega) _
      rw [e1, e2, hfv]
      have := half_join v (wide.toNat - (j + 1)) hv0
      rwa [show wide.toNat - (j + 1) + 1 = wide.toNat - j by omega] at this
    · simp only
      rw [w64 (by omega) (by omega)]; omega
  · have hjw : (j : Int) = wide := by omega
    have hj2 : j = wide.toNat := by omega
    refine hK w1 A2 c2 row2 hE1 hown1 h01 (by omega) hvals ?_
    rw [← hj2, hfv, ← hj2]; simp

theorem refPack_spec {A W : Option Addr} {n c m d : Nat} {ws vs : List Int} {w : World} (hws : Cells w W (ws.map (.int .i64))) (hm : ws.length = m) (hvs : Cells w A (vs.map (.int .i64))) (hn : vs.length = n) :
    Calls Tryd.prog 63 #[.slice W m d, .slice A n c] w fun e w' => Ext w w' ∧
      ((widthsOk ws ∧ n = m ∧ valuesOk ws vs ∧ ∃ A' c' ds, Packed ws vs ds ∧ e = .returned (.tuple #[.slice A' ds.length c', .int .i64 0]) ∧ w'.ownsRow w.heap.size 5 1 (.slice A' ds.length c') ds.length (ds.map (.int .u8))) ∨
       (widthsOk ws ∧ n = m ∧ ¬ valuesOk ws vs ∧ e = .returned (.tuple #[.slice none 0 0, .int .i64 12])) ∨
       (widthsOk ws ∧ n ≠ m ∧ e = .returned (.tuple #[.slice none 0 0, .int .i64 1])) ∨
       (¬ widthsOk ws ∧ e = .returned (.tuple #[.slice none 0 0, .int .i64 11]))) := by
  refine weirref1_Pack_of W m d A n c w _ ?_
  unfold weirref1_Pack_VC
  refine (refBits_spec hws hm).mono ?_
  rintro _ w1 ⟨rfl, ⟨hok, rfl⟩ | ⟨hok, rfl⟩⟩
  · refine ⟨_, rfl, ?_⟩
    have hW := hok.2.1
    have hpb := psum_bound hW
    have h64 : ws.length ≤ 64 := hok.1
    have h8 := hok.2.2
    refine Br.no (by omega) (Br.dec (fun hnm => ⟨Mod.refl _ _, .inr (.inr (.inl ⟨hok, by omega, rfl⟩))⟩) (fun hnm => ?_))
    have hnm : n = m := by omega
    refine LoopVC.of (fun s w' => ∃ (i : Nat) (A2 : Option Addr) (c2 : Nat) (row : List Int), i ≤ m ∧ s = ((A2, row.length, c2), (i : Int)) ∧ Ext w w' ∧ w'.ownsRow w.heap.size 3 1 (.slice A2 row.length c2) row.length (row.map (.int .i64)) ∧
      BitRow ws vs row i ∧ (∀ j, j < i → 0 ≤ vs.getD j 0 ∧ vs.getD j 0 < 2 ^ (ws.getD j 0).toNat)) (fun s _ => (m - s.2).toNat)
      ⟨0, none, 0, [], by omega, rfl, Mod.refl _ _, World.ownsRow_nil _ _ _ _, ⟨fun x hx => by simp at hx, by simp [psum], by simp [fieldsV]⟩, fun j hj => by omega⟩ ?_
    rintro _ w2 ⟨i, A2, c2, row, him, rfl, hE2, hown, hbr, hvok⟩
    show weirref1_Pack_L506 _ W m A n (psum ws) A2 row.length c2 (i : Int) w2 _
    unfold weirref1_Pack_L506
    refine Br.dec (fun hlt => ?_) (fun hge => ?_)
    · have hil : i < ws.length := by omega
      have hiv : i < vs.length := by omega
      have hwi := hW ws[i] (List.getElem_mem hil)
      have gw : ws.getD i 0 = ws[i] := by simp [hil]
      have gv : vs.getD i 0 = vs[i] := by simp [hiv]
      intro w3 hw3
      have hE3 : Ext w2 w3 := by subst hw3; exact Ext.drew w2
      have hE03 := hE2.ext hE3
      refine ⟨fun w' => Ext w w', hE03, ?_⟩
      refine IdxVC.draw (S := fun w' => Ext w w') hE03 (fun w' h => hvs.ext h) (by omega) (by omega) hn fun a hc => ⟨_, hc, ?_⟩
      rw [Int.toNat_natCast, gv]
      refine Br.dec (fun hneg => ⟨hE03, .inr (.inl ⟨hok, hnm, fun hv => ?_, rfl⟩)⟩) (fun hneg => ?_)
      · have := hv.2 i hil; omega
      refine IdxVC.draw (S := fun w' => Ext w w') hE03 (fun w' h => hvs.ext h) (by omega) (by omega) hn fun a1 hc1 => ⟨_, hc1, ?_⟩
      refine IdxVC.draw (S := fun w' => Ext w w') hE03 (fun w' h => hws.ext h) (by omega) (by omega) hm fun a2 hc2 => ⟨_, hc2, ?_⟩
      rw [Int.toNat_natCast, gw, gv]
      have ewi : ws[i] = (((ws[i]).toNat : Nat) : Int) := by omega
      have hpow : Calls Tryd.prog 94 #[.int .i64 ws[i]] w3 (fun e w' => w3 = w' ∧ e = .returned (.int .i64 (2 ^ (ws[i]).toNat))) := by
        have := power_spec (k := (ws[i]).toNat) (w := w3) (by omega)
        rwa [← ewi] at this
      refine hpow.mono ?_
      rintro _ w4 ⟨rfl, rfl⟩
      refine ⟨_, rfl, hE03, ?_⟩
      refine Br.dec (fun hbig => ⟨hE03, .inr (.inl ⟨hok, hnm, fun hv => ?_, rfl⟩)⟩) (fun hsm => ?_)
      · have := hv.2 i hil
        rw [gv, gw] at this; omega
      refine IdxVC.int (hws.ext hE03) (by omega) hlt hm fun a3 hc3 => ⟨_, hc3, ?_⟩
      rw [getD_cast _ _ hil]
      have hp0 := psum_bound (hW.take i)
      have hsn : psum (ws.take (i + 1)) = psum (ws.take i) + ws[i] := by rw [List.take_succ_eq_append_getElem hil, psum_snoc]
      have hle := psum_take_le hW (i + 1)
      have hbl := hbr.len
      refine pack_bits (ws := ws) (vs := vs) hE03 hvs hn (by omega) gv hwi.1 hwi.2 (by omega) (by omega) (own_ext hown hE3) hbr (hW.take i) (by omega) ?_
      intro w' A' c' row' hE' hown' h01' hlen' hvals' hfv'
      refine ⟨⟨i + 1, A', c', row', by omega, ?_, hE', hown', ⟨h01', by omega, ?_⟩, ?_⟩, ?_⟩
      · rw [w64 (by omega) (by omega)]; rfl
      · rw [List.take_succ_eq_append_getElem hil, fieldsV_snoc _ _ _ _ (hW.take i), hvals', List.take_succ_eq_append_getElem hiv]
        have e2 : (0 + (psum (ws.take i)).toNat) = row.length := by omega
        rw [e2, hfv']
      · intro j hj
        rcases Nat.lt_succ_iff_lt_or_eq.1 hj with hj | rfl
        · exact hvok j hj
        · rw [gv, gw]; exact ⟨by omega, by omega⟩
      · simp only
        rw [w64 (by omega) (by omega)]; omega
    · have him' : i = ws.length := by omega
      subst him'
      refine pack_tail hE2 (own_cells hown) hok (by omega) hbr fun w' A' c' ds hE' hpk hown' => ⟨hE', .inl ⟨hok, hnm, ⟨by omega, fun j hj => hvok j hj⟩, A', c', ds, hpk, rfl, own_base hown' hE2.size⟩⟩
  · exact ⟨_, rfl, Br.yes (by omega) ⟨Mod.refl _ _, .inr (.inr (.inr ⟨hok, rfl⟩))⟩⟩
/-- Why a number is not laid in. -/
def numErr (k v : Int) : Int := if ¬ (1 ≤ k ∧ k ≤ 8) then 1 else if ¬ (v < 256 ^ k.toNat) then 12 else 0

set_option maxHeartbeats 1000000 in
theorem refBytes_spec {k v : Int} {w : World} (hv : 0 ≤ v ∧ v < 18446744073709551616) :
    Calls Tryd.prog 93 #[.int .i64 k, .int .u64 v] w fun e w' => Ext w w' ∧ ∃ sA sn sc, e = .returned (.tuple #[.slice sA sn sc, .int .i64 (numErr k v)]) ∧
      (numErr k v = 0 → sn = k.toNat ∧ ∀ (M : Nat → Prop) (w2 : World), Mod M w' w2 → (∀ j, w.heap.size ≤ j → ¬ M j) → Cells w2 sA ((beBytes v k.toNat).map (.int .u8))) := by
  refine weirref1_Bytes_of k v w _ ?_
  unfold weirref1_Bytes_VC
  have hbad : ¬ (1 ≤ k ∧ k ≤ 8) → numErr k v = 1 := fun h => by unfold numErr; rw [if_pos h]
  refine Br.dec (fun h => ⟨Mod.refl _ _, none, 0, 0, by rw [hbad (by omega)], fun e => by rw [hbad (by omega)] at e; omega⟩) (fun h1 => Br.dec (fun h => ⟨Mod.refl _ _, none, 0, 0, by rw [hbad (by omega)], fun e => by rw [hbad (by omega)] at e; omega⟩) (fun h2 => ?_))
  obtain ⟨m, rfl⟩ := Int.eq_ofNat_of_zero_le (show 0 ≤ k by omega)
  refine LoopVC.of (fun s w' => ∃ (i : Nat) (A' : Option Addr) (c' : Nat), i ≤ 8 ∧ s = (v * 256 ^ i % 18446744073709551616, (A', i, c'), (i : Int)) ∧ Ext w w' ∧ i ≤ c' ∧
    w'.ownsRow w.heap.size 5 1 (.slice A' i c') i (((List.range i).map fun (q : Nat) => v / 256 ^ (7 - q) % 256).map (.int .u8))) (fun s _ => (8 - s.2.2).toNat)
    ⟨0, none, 0, by omega, ?_, Mod.refl _ _, by omega, World.ownsRow_nil _ _ _ _⟩ ?_
  · rw [Int.pow_zero, Int.mul_one, Int.emod_eq_of_lt hv.1 hv.2]; rfl
  rintro _ w1 ⟨i, A', c', hi, rfl, hE, hic, hown⟩
  show weirref1_Bytes_L122 _ (m : Int) (v * 256 ^ i % 18446744073709551616) A' i c' (i : Int) w1 _
  unfold weirref1_Bytes_L122
  refine Br.dec (fun hlt => ?_) (fun hge => ?_)
  · have hs := shift8 hv.1 hv.2 (i := i) (by omega)
    rw [byte8 (by omega) (by omega), hs.1]
    refine AppVC.one Tryd.underlying22 tyByte rfl hown rfl (by omega) (by decide) hE.size fun A2 c2 w2 hown2 hm2 hc2 => ?_
    refine ⟨⟨i + 1, A2, c2, by omega, ?_, Ext.own hE hown hm2, hc2, ?_⟩, ?_⟩
    · rw [u64_eq, hs.2, w64 (by omega) (by omega)]; rfl
    · rw [List.range_succ, List.map_append, List.map_append]; exact hown2
    · simp only
      rw [w64 (by omega) (by omega)]; omega
  · have h8 : i = 8 := by omega
    subst h8
    have hl8 : ((List.range 8).map fun (q : Nat) => v / 256 ^ (7 - q) % 256).length = 8 := by simp
    have hm8 : m ≤ 8 := by omega
    refine LoopVC.of (fun s w' => w1 = w' ∧ ∃ j : Nat, j ≤ 8 - m ∧ s = (j : Int) ∧ v < 256 ^ (8 - j)) (fun s _ => (8 - s).toNat) ⟨rfl, 0, by omega, rfl, by rw [Nat.sub_zero, show (256 : Int) ^ 8 = 18446744073709551616 by decide]; exact hv.2⟩ ?_
    rintro _ w2 ⟨rfl, j, hj, rfl, hvj⟩
    show weirref1_Bytes_L250 _ (m : Int) A' 8 c' (j : Int) w1 _
    unfold weirref1_Bytes_L250
    rw [w64 (n := 8 - (m : Int)) (by omega) (by omega)]
    refine Br.dec (fun hlt => ?_) (fun hge => ?_)
    · refine IdxVC.int (own_cells hown) (by omega) (by omega) hl8 fun a hc => ⟨_, hc, ?_⟩
      have hg : ((List.range 8).map fun (q : Nat) => v / 256 ^ (7 - q) % 256).getD (j : Int).toNat 0 = v / 256 ^ (7 - j) % 256 := by
        rw [Int.toNat_natCast]
        simp [List.getD_eq_getElem?_getD, show j < 8 by omega]
      rw [hg]
      refine Br.dec (fun hne => ?_) (fun heq => ?_)
      · have he : numErr (m : Int) v = 12 := by
          unfold numErr
          rw [if_neg (by omega), if_pos (by rw [Int.toNat_natCast]; exact top_not hv.1 (by omega) hne)]
        exact ⟨hE, none, 0, 0, by rw [he], fun e => by omega⟩
      · have hz : v / 256 ^ (7 - j) % 256 = 0 := by simpa using heq
        refine ⟨⟨rfl, j + 1, by omega, by rw [w64 (by omega) (by omega)]; omega, ?_⟩, by rw [w64 (by omega) (by omega)]; omega⟩
        rw [show 8 - (j + 1) = 7 - j by omega]
        exact top_zero hv.1 (by rwa [show 7 - j + 1 = 8 - j by omega]) hz
    · have hjm : j = 8 - m := by omega
      subst hjm
      have he : numErr (m : Int) v = 0 := by
        unfold numErr
        rw [if_neg (by omega), if_neg (by rw [Int.toNat_natCast]; rw [show 8 - (8 - m) = m by omega] at hvj; omega)]
      refine ⟨by omega, by omega, ?_⟩
      have et : (8 - (m : Int)).toNat = 8 - m := by omega
      rw [et, if_neg (by omega), he, Int.toNat_natCast]
      refine ⟨hE, _, _, _, rfl, fun _ => ⟨by omega, fun M w2 hM hn => ?_⟩⟩
      have hown2 := own_mod hown hM fun g hg => hn g (own_new hown g hg)
      have := (own_cells hown2).drop (8 - m) (c := 9 + 8) (by simp) 1 (.inl rfl)
      rw [if_neg (by omega), ← List.map_drop] at this
      have hd : ((List.range 8).map fun (q : Nat) => v / 256 ^ (7 - q) % 256).drop (8 - m) = beBytes v m := by
        apply List.ext_getElem
        · simp [beBytes_length]; omega
        · intro q h1 h2
          rw [beBytes_length] at h2
          have hb := beBytes_getD v m h2
          have hb2 : (beBytes v m).getD q 0 = (beBytes v m)[q] := by simp [beBytes_length, h2]
          rw [← hb2, hb]
          simp only [List.getElem_drop, List.getElem_map, List.getElem_range]
          rw [show 7 - (8 - m + q) = m - 1 - q by omega]
      rwa [hd] at this
end N6
end Go.Proofs.YtkiogaglmjeplaaDoor
/- Chapter 7, writing: a datagram, the document's. -/
namespace Go.Eng
theorem beBytes_four {n : Int} (h0 : 0 ≤ n) (h1 : n ≤ 4294967295) : beBytes n 4 = four n := by
  have e : beBytes n 4 = [n / 256 ^ 3 % 256, n / 256 ^ 2 % 256, n / 256 ^ 1 % 256, n / 256 ^ 0 % 256] := rfl
  rw [e]
  simp only [Int.reducePow, four, List.cons.injEq, and_true, Int.ediv_one]
  omega
end Go.Eng
namespace Go.Proofs.YtkiogaglmjeplaaDoor
namespace N6
open Go.Eng Go.RowKit
section
variable {w : World} {Γ : List Fct}
set_option maxHeartbeats 2000000 in
theorem refBody_spec {h : Ip6V} {es : List ExtR} {data : List Int} (hA : Ip6At w h es data) (h0 : ¬ fieldBad (h.d es data)) : Calls Tryd.prog 62 #[h.val] w
    (Made w (if (headersS (es.map ExtR.d) (behindK (h.d es data)) true).2 ≠ 0 then ([], (headersS (es.map ExtR.d) (behindK (h.d es data)) true).2) else if fragE (h.d es data) ≠ 0 then ([], fragE (h.d es data))
      else if 65535 < 40 + (bodyB (h.d es data)).length then ([], 2) else (bodyB (h.d es data), 0))) := by
  refine weirref7_body_of h w _ ?_
  unfold weirref7_body_VC
  have hX := hA.exts
  have hD := hA.data
  have hdl := hD.len
  have hds := hD.small
  obtain ⟨d, hd⟩ : ∃ d, h.d es data = d := ⟨_, rfl⟩
  have e_next : d.next = h.next := by rw [← hd]; rfl
  have e_frag : d.frag = h.frag := by rw [← hd]; rfl
  have e_exts : d.exts = es.map ExtR.d := by rw [← hd]; rfl
  have e_data : d.data = data := by rw [← hd]; rfl
  rw [hd] at h0 ⊢
  have hnx : 0 ≤ h.next ∧ h.next ≤ 255 := by unfold fieldBad at h0; rw [e_next] at h0; omega
  refine NewVC.sep (Sep.start0 w) fun g1 w1 H => DrawVC.sep H (fun w' => Blk w' g1 30 h.cells) fun w2 H => ⟨H.blk 1 rfl, ?_⟩
  refine ⟨_, _, _, fun w' hb => hb.cell 37, Ip6V.of h ⟨fun w' hb => CellsAt.blk hb, ?_⟩⟩
  refine (behind_spec (es := es) (data := data)).mono ?_
  rintro _ w3 ⟨hE3, rfl⟩
  have H := H.ext hE3
  rw [hd]
  refine ⟨_, rfl, H.blk 1 rfl, ?_⟩
  refine (refHeaders_spec (next := behindK d) (top := true) (hX.ext (H.restOf 0 rfl))).mono ?_
  rintro _ w4 ⟨XA, xc, rfl, H4⟩
  have H := (H.made H4).lower 2 rfl (b' := w.heap.size) (H.restOf 0 rfl).size
  rw [← e_exts] at H ⊢
  obtain ⟨X, hXe⟩ : ∃ X, headersS d.exts (behindK d) true = X := ⟨_, rfl⟩
  have hXl : X.1.length ≤ 16384 := by rw [← hXe]; exact headersS_len _ _ _
  rw [hXe] at H ⊢
  refine ⟨_, _, _, _, rfl, H.blk 1 rfl, Br.dec (fun hne => Made.err (H.restOf 0 rfl) (by rw [if_pos hne])) fun heq => Ip6V.of h ⟨H.at 1 rfl, ?_⟩⟩
  rw [if_neg heq]
  refine (refFrag_spec (es := es) (hD.ext (H.restOf 0 rfl))).mono ?_
  rintro _ w5 ⟨hE5, rfl⟩
  have H := H.ext hE5
  rw [hd]
  refine ⟨_, rfl, Br.dec (fun hne => Made.err (H.restOf 0 rfl) (by rw [if_pos hne])) fun hfe => ?_⟩
  rw [if_neg hfe]
  have hfe : fragE d = 0 := by omega
  have hfl : (fragB d).length ≤ 8 := by unfold fragB; split <;> simp [four]
  refine JoinVC.of (fun st w' => st.2.1 = (X.1 ++ fragB d).length ∧ Sep [Fct.rest w None, Fct.blk g1 30 h.cells, ownB w.heap.size (.slice st.1 st.2.1 st.2.2) st.2.1 (X.1 ++ fragB d)] w') ?_ ?_
  · refine ⟨_, H.cell 1 rfl 38 rfl, ?_⟩
    cases hh : h.frag.has with
    | false =>
      have e0 : fragB d = [] := by unfold fragB; rw [e_frag, if_neg (by rw [hh]; decide)]
      refine Br.f rfl ⟨by rw [e0, List.append_nil], ?_⟩
      rw [e0, List.append_nil]; exact H
    | true =>
      obtain ⟨hid, hoff, ho8, _⟩ := fragE_ok hfe (by rw [e_frag]; exact hh)
      rw [e_frag] at hid hoff ho8
      have hmore : 0 ≤ b2i h.frag.more ∧ b2i h.frag.more ≤ 1 := by unfold b2i; split <;> decide
      refine Br.t rfl ⟨_, H.cell 1 rfl 41 rfl, JoinVC.of (fun st w' => w5 = w' ∧ st = h.frag.off + b2i h.frag.more) ?_ ?_⟩
      · refine ⟨_, H.cell 1 rfl 39 rfl, ?_⟩
        cases h.frag.more with
        | true => exact Br.t rfl ⟨rfl, by rw [w64 (by omega) (by omega)]; rfl⟩
        | false => exact Br.f rfl ⟨rfl, by simp [b2i]⟩
      rintro _ _ ⟨rfl, rfl⟩
      unfold weirref7_body_J1013
      refine ⟨_, H.cell 1 rfl 40 rfl, ?_⟩
      rw [wu64 (by omega) (by omega)]
      refine (refBytes_spec (k := 4) (v := h.frag.id) ⟨by omega, by omega⟩).mono ?_
      rintro _ w7 ⟨hE7, sA, sn, sc, rfl, hby⟩
      have hne0 : numErr 4 h.frag.id = 0 := by
        unfold numErr
        rw [if_neg (by decide), if_neg (by rw [show (4 : Int).toNat = 4 from rfl]; simp only [Int.reducePow]; omega)]
      obtain ⟨hsn, hby⟩ := hby hne0
      have H := H.pushSpan hE7
      refine ⟨_, _, _, _, rfl, _, H.cell 1 rfl 42 rfl, ?_⟩
      have e1 : IntKind.u8.wrap (IntKind.i64.wrap (Int.tdiv (h.frag.off + b2i h.frag.more) 256)) = (h.frag.off + b2i h.frag.more) / 256 := by
        rw [Int.tdiv_eq_ediv_of_nonneg (by omega), w64 (by omega) (by omega), wu8 (by omega) (by omega)]
      have e2 : IntKind.u8.wrap (Int.tmod (h.frag.off + b2i h.frag.more) 256) = (h.frag.off + b2i h.frag.more) % 256 := by
        rw [Int.tmod_eq_emod_of_nonneg (by omega), wu8 (by omega) (by omega)]
      rw [e1, e2, wu8 (n := h.next) (by omega) (by omega)]
      refine NewVC.sep H fun g2 w8 H => ?_
      refine appB H 2 rfl (m := 4) (ys := [h.next, 0, (h.frag.off + b2i h.frag.more) / 256, (h.frag.off + b2i h.frag.more) % 256]) (by simpa using Cells.of_blk (H.blk 4 rfl) 0) rfl (by omega) (H.restOf 0 rfl).size fun A2 c2 w9 H _ => ?_
      obtain ⟨M, hM1, hM2⟩ := H.spanOf 3 rfl
      have hc4 := hby M w9 hM1 hM2
      rw [show (4 : Int).toNat = 4 from rfl, beBytes_four hid.1 hid.2] at hc4
      rw [show (4 : Int).toNat = 4 from rfl] at hsn
      subst hsn
      refine appB H 2 rfl (m := 4) (ys := four h.frag.id) hc4 rfl (by omega) (H.restOf 0 rfl).size fun A3 c3 w10 H _ => ?_
      have e0 : fragB d = [h.next, 0, (h.frag.off + b2i h.frag.more) / 256, (h.frag.off + b2i h.frag.more) % 256] ++ four h.frag.id := by
        unfold fragB; rw [e_frag, e_next, if_pos hh]
      rw [e0, ← List.append_assoc]
      exact ⟨by show X.1.length + 4 + 4 = _; simp [four], H.take 3⟩
  rintro ⟨EA, en, ec⟩ w11 ⟨hen, H⟩
  simp only at hen H
  show weirref7_body_J63 _ g1 EA en ec w11
  subst hen
  unfold weirref7_body_J63
  have hxf : (X.1 ++ fragB d).length ≤ 16392 := by rw [List.length_append]; omega
  have hbe : X.1 ++ fragB d ++ data = bodyB d := by unfold bodyB; rw [hXe, e_data, List.append_assoc]
  have hbl : (bodyB d).length = (X.1 ++ fragB d).length + h.data.n := by rw [← hbe, List.length_append, hdl]
  refine ⟨_, _, _, H.cell 1 rfl 43 rfl, ?_⟩
  refine appB H 2 rfl (ys := data) (hD.ext (H.restOf 0 rfl)).cells hdl (by omega) (H.restOf 0 rfl).size fun A2 c2 w12 H _ => ?_
  rw [w64 (by omega) (by omega)]
  refine Br.dec (fun hbig => Made.err (H.restOf 0 rfl) (by rw [if_pos (by omega)])) fun hok => ?_
  rw [if_neg (by omega)]
  rw [hbe] at H
  exact Made.ok rfl (H.del 1)
set_option maxHeartbeats 2000000 in
theorem refSer_tail {h : Ip6V} {g1 : Nat} {EA BA : Option Addr} {ec bn bc : Nat} {B ds : List Int} {R : Ending → World → Prop} {w13 : World} (hds : ds.length = bn) (hbl : bn ≤ 100) (hB : B.length ≤ 10000000)
    (H : Sep [Fct.rest w None, Fct.blk g1 30 h.cells, ownB w.heap.size (.slice EA B.length ec) B.length B, ownB w.heap.size (.slice BA bn bc) bn ds] w13)
    (hR : ∀ A c w', Sep [Fct.rest w None, ownB w.heap.size (.slice A (ds ++ (h.src.bytes ++ (h.dst.bytes ++ B))).length c) (ds ++ (h.src.bytes ++ (h.dst.bytes ++ B))).length (ds ++ (h.src.bytes ++ (h.dst.bytes ++ B)))] w' →
      R (.returned (.tuple #[.slice A (ds ++ (h.src.bytes ++ (h.dst.bytes ++ B))).length c, .int .i64 0])) w') :
    weirref7_Serialise_D62 R g1 EA B.length ec BA bn bc w13 := by
  unfold weirref7_Serialise_D62
  refine LoopVC.of (fun st w' => ∃ i : Nat, st.2 = (i : Int) ∧ i ≤ 16 ∧ st.1.2.1 = bn + i ∧ Sep [Fct.rest w None, Fct.blk g1 30 h.cells, ownB w.heap.size (.slice EA B.length ec) B.length B, ownB w.heap.size (.slice st.1.1 st.1.2.1 st.1.2.2) st.1.2.1 (ds ++ h.src.bytes.take i)] w') (fun st _ => (16 - st.2).toNat) ⟨0, rfl, by decide, rfl, by simpa using H⟩ ?_
  rintro ⟨⟨A1, n1, c1⟩, _⟩ w14 ⟨i, rfl, hi, hn1, H⟩
  simp only at hn1 H
  subst hn1
  show weirref7_Serialise_L506 R g1 EA B.length ec A1 (bn + i) c1 (i : Int) w14 _
  unfold weirref7_Serialise_L506
  refine Br.dec (fun hlt => ?_) fun hge => ?_
  · refine IdxVC.int (xs := h.src.bytes) (n := 16) ((Cells.of_blk (H.blk 1 rfl) 4).take 16) (by omega) hlt rfl fun a hc => ⟨_, hc, ?_⟩
    refine NewVC.sep H fun g4 w15 H => ?_
    refine appB H 3 rfl (m := 1) (ys := [h.src.bytes.getD i 0]) (by simpa using Cells.of_blk (H.blk 4 rfl) 0) rfl (by omega) (H.restOf 0 rfl).size fun A2 c2 w16 H _ => ?_
    rw [w64 (by omega) (by omega)]
    refine ⟨⟨i + 1, rfl, by omega, rfl, ?_⟩, by show (16 - ((i : Int) + 1)).toNat < (16 - (i : Int)).toNat; omega⟩
    have et := take_snoc h.src.bytes i (by show i < 16; omega)
    have H := H.take 4
    rw [et, ← List.append_assoc]
    exact H
  have hi16 : i = 16 := by omega
  subst hi16
  have es : h.src.bytes.take 16 = h.src.bytes := rfl
  rw [es] at H
  refine LoopVC.of (fun st w' => ∃ i : Nat, st.2 = (i : Int) ∧ i ≤ 16 ∧ st.1.2.1 = bn + 16 + i ∧ Sep [Fct.rest w None, Fct.blk g1 30 h.cells, ownB w.heap.size (.slice EA B.length ec) B.length B, ownB w.heap.size (.slice st.1.1 st.1.2.1 st.1.2.2) st.1.2.1 ((ds ++ h.src.bytes) ++ h.dst.bytes.take i)] w') (fun st _ => (16 - st.2).toNat) ⟨0, rfl, by decide, rfl, by simpa using H⟩ ?_
  rintro ⟨⟨A5, n5, c5⟩, _⟩ w17 ⟨j, rfl, hj, hn5, H⟩
  simp only at hn5 H
  subst hn5
  show weirref7_Serialise_L1018 R g1 EA B.length ec A5 (bn + 16 + j) c5 (j : Int) w17 _
  unfold weirref7_Serialise_L1018
  refine Br.dec (fun hlt => ?_) fun hge => ?_
  · refine IdxVC.int (xs := h.dst.bytes) (n := 16) ((Cells.of_blk (H.blk 1 rfl) 21).take 16) (by omega) hlt rfl fun a hc => ⟨_, hc, ?_⟩
    refine NewVC.sep H fun g4 w15 H => ?_
    refine appB H 3 rfl (m := 1) (ys := [h.dst.bytes.getD j 0]) (by simpa using Cells.of_blk (H.blk 4 rfl) 0) rfl (by omega) (H.restOf 0 rfl).size fun A2 c2 w16 H _ => ?_
    rw [w64 (by omega) (by omega)]
    refine ⟨⟨j + 1, rfl, by omega, rfl, ?_⟩, by show (16 - ((j : Int) + 1)).toNat < (16 - (j : Int)).toNat; omega⟩
    have et := take_snoc h.dst.bytes j (by show j < 16; omega)
    have H := H.take 4
    rw [et, ← List.append_assoc]
    exact H
  have hj16 : j = 16 := by omega
  subst hj16
  have ed : h.dst.bytes.take 16 = h.dst.bytes := rfl
  rw [ed] at H
  refine appB H 3 rfl (ys := B) (H.cells 2 rfl) rfl (by omega) (H.restOf 0 rfl).size fun A2 c2 w20 H _ => ?_
  have el : bn + 16 + 16 + B.length = (ds ++ (h.src.bytes ++ (h.dst.bytes ++ B))).length := by
    simp only [List.length_append]
    have : h.src.bytes.length = 16 := rfl
    have : h.dst.bytes.length = 16 := rfl
    omega
  have ea : ds ++ h.src.bytes ++ h.dst.bytes ++ B = ds ++ (h.src.bytes ++ (h.dst.bytes ++ B)) := by simp
  rw [ea] at H
  have H : Sep [Fct.rest w None, ownB w.heap.size (.slice A2 (bn + 16 + 16 + B.length) c2) (bn + 16 + 16 + B.length) (ds ++ (h.src.bytes ++ (h.dst.bytes ++ B)))] w20 := (H.del 1).del 1
  rw [el] at H ⊢
  exact hR A2 c2 w20 H
set_option maxHeartbeats 4000000 in
theorem refSerialise_spec {h : Ip6V} {es : List ExtR} {data : List Int} (hA : Ip6At w h es data) : Calls Tryd.prog 33 #[h.val] w (Made w (ser6S (h.d es data))) := by
  refine weirref7_Serialise_of h w _ ?_
  unfold weirref7_Serialise_VC
  have hX := hA.exts
  have hD := hA.data
  obtain ⟨d, hd⟩ : ∃ d, h.d es data = d := ⟨_, rfl⟩
  have e_next : d.next = h.next := by rw [← hd]; rfl
  have e_cls : d.cls = h.cls := by rw [← hd]; rfl
  have e_flow : d.flow = h.flow := by rw [← hd]; rfl
  have e_hop : d.hop = h.hop := by rw [← hd]; rfl
  have e_src : d.src = h.src := by rw [← hd]; rfl
  have e_dst : d.dst = h.dst := by rw [← hd]; rfl
  have e_exts : d.exts = es.map ExtR.d := by rw [← hd]; rfl
  have fb : fieldBad d ↔ (h.cls < 0 ∨ 255 < h.cls ∨ h.flow < 0 ∨ 1048575 < h.flow ∨ h.hop < 0 ∨ 255 < h.hop ∨ h.src.v ≠ 6 ∨ h.dst.v ≠ 6 ∨ h.next < 0 ∨ 255 < h.next) := by rw [← hd]; exact Iff.rfl
  refine NewVC.sep (Sep.start0 w) fun g1 w1 H => ⟨_, H.cell 1 rfl 0 rfl, ?_⟩
  have ips : ∀ {w'}, Blk w' g1 30 h.cells → CellsAt w' ⟨g1, 3, none⟩ 0 h.src.cells := fun hb => ⟨hb.cell 3, hb.cell 4, hb.cell 5, hb.cell 6, hb.cell 7, hb.cell 8, hb.cell 9, hb.cell 10, hb.cell 11, hb.cell 12, hb.cell 13, hb.cell 14, hb.cell 15, hb.cell 16, hb.cell 17, hb.cell 18, hb.cell 19, trivial⟩
  have ipd : ∀ {w'}, Blk w' g1 30 h.cells → CellsAt w' ⟨g1, 20, none⟩ 0 h.dst.cells := fun hb => ⟨hb.cell 20, hb.cell 21, hb.cell 22, hb.cell 23, hb.cell 24, hb.cell 25, hb.cell 26, hb.cell 27, hb.cell 28, hb.cell 29, hb.cell 30, hb.cell 31, hb.cell 32, hb.cell 33, hb.cell 34, hb.cell 35, hb.cell 36, trivial⟩
  have bad : fieldBad d → ∀ {w'}, Ext w w' → Made w (ser6S (h.d es data)) (.returned (.tuple #[.slice none 0 0, .int .i64 78])) w' := fun hb w' hE => Made.err hE (by rw [hd]; unfold ser6S; rw [if_pos hb])
  refine refOut_spec.mono ?_
  rintro _ _ ⟨rfl, rfl⟩
  refine ⟨_, rfl, Br.dec (fun h1 => bad (fb.2 (by omega)) (H.restOf 0 rfl)) fun h1 => ⟨_, H.cell 1 rfl 1 rfl, ?_⟩⟩
  refine refOut_spec.mono ?_
  rintro _ _ ⟨rfl, rfl⟩
  refine ⟨_, rfl, Br.dec (fun h2 => bad (fb.2 (by omega)) (H.restOf 0 rfl)) fun h2 => ⟨_, H.cell 1 rfl 2 rfl, ?_⟩⟩
  refine refOut_spec.mono ?_
  rintro _ _ ⟨rfl, rfl⟩
  refine ⟨_, rfl, Br.dec (fun h3 => bad (fb.2 (by omega)) (H.restOf 0 rfl)) fun h3 => IPV.of h.src ⟨ips (H.blk 1 rfl), ?_⟩⟩
  refine refSix_spec.mono ?_
  rintro _ w5 ⟨hE5, rfl⟩
  have H := H.ext hE5
  refine ⟨_, rfl, ?_⟩
  by_cases h4 : h.src.v = 6
  case neg => rw [decide_eq_false h4]; exact Br.t rfl (bad (fb.2 (by omega)) (H.restOf 0 rfl))
  rw [decide_eq_true h4]
  refine Br.f rfl (IPV.of h.dst ⟨ipd (H.blk 1 rfl), ?_⟩)
  refine refSix_spec.mono ?_
  rintro _ w6 ⟨hE6, rfl⟩
  have H := H.ext hE6
  refine ⟨_, rfl, ?_⟩
  by_cases h5 : h.dst.v = 6
  case neg => rw [decide_eq_false h5]; exact Br.t rfl (bad (fb.2 (by omega)) (H.restOf 0 rfl))
  rw [decide_eq_true h5]
  refine Br.f rfl ⟨_, H.cell 1 rfl 42 rfl, ?_⟩
  refine refOut_spec.mono ?_
  rintro _ _ ⟨rfl, rfl⟩
  refine ⟨_, rfl, Br.dec (fun h6 => bad (fb.2 (by omega)) (H.restOf 0 rfl)) fun h6 => Ip6V.of h ⟨H.at 1 rfl, ?_⟩⟩
  have hfb : ¬ fieldBad d := fun x => by have := fb.1 x; omega
  refine (refBody_spec (hA.ext (H.restOf 0 rfl)) (by rw [hd]; exact hfb)).mono ?_
  rintro _ w8 ⟨EA, ec, rfl, H8⟩
  have H := (H.made H8).lower 2 rfl (b' := w.heap.size) (H.restOf 0 rfl).size
  rw [hd, ← e_exts] at H ⊢
  obtain ⟨X, hXe⟩ : ∃ X, headersS d.exts (behindK d) true = X := ⟨_, rfl⟩
  rw [hXe] at H ⊢
  have hser : ∀ k, k ≠ 0 → (if X.2 ≠ 0 then (([] : List Int), X.2) else if fragE d ≠ 0 then ([], fragE d) else if 65535 < 40 + (bodyB d).length then ([], 2) else (bodyB d, 0)).2 = k → ser6S d = ([], k) := by
    intro k hk he
    unfold ser6S
    rw [if_neg hfb, hXe]
    by_cases c1 : X.2 ≠ 0
    · rw [if_pos c1] at he ⊢; rw [← he]
    · rw [if_neg c1] at he ⊢
      by_cases c2 : fragE d ≠ 0
      · rw [if_pos c2] at he ⊢; rw [← he]
      · rw [if_neg c2] at he ⊢
        by_cases c3 : 65535 < 40 + (bodyB d).length
        · rw [if_pos c3] at he ⊢; rw [← he]
        · rw [if_neg c3] at he; exact absurd he.symm hk
  by_cases c1 : X.2 ≠ 0
  · rw [if_pos c1] at H ⊢ hser
    exact ⟨_, _, _, _, rfl, Br.yes c1 (Made.err (H.restOf 0 rfl) (hser X.2 c1 rfl))⟩
  rw [if_neg c1] at H ⊢ hser
  by_cases c2 : fragE d ≠ 0
  · rw [if_pos c2] at H ⊢ hser
    exact ⟨_, _, _, _, rfl, Br.yes c2 (Made.err (H.restOf 0 rfl) (hser _ c2 rfl))⟩
  rw [if_neg c2] at H ⊢ hser
  by_cases c3 : 65535 < 40 + (bodyB d).length
  · rw [if_pos c3] at H ⊢ hser
    exact ⟨_, _, _, _, rfl, Br.yes (by decide) (Made.err (H.restOf 0 rfl) (hser 2 (by decide) rfl))⟩
  rw [if_neg c3] at H ⊢
  refine ⟨_, _, _, _, rfl, Br.no (show ¬ ((0 : Int) ≠ 0) by decide) ?_⟩
  have hes : ser6S d = (head6 d (bodyB d).length ++ (d.src.bytes ++ (d.dst.bytes ++ bodyB d)), 0) := by
    unfold ser6S; rw [if_neg hfb, hXe, if_neg c1, if_neg c2, if_neg c3]
  have hfr := firstK_range (h := h) (es := es) (data := data) (by rw [hd]; exact hfb) (by rw [hd, hXe]; omega)
  rw [hd] at hfr
  refine DrawVC.sep H (fun w' => Blk w' g1 30 h.cells) fun w9 H => ⟨H.blk 1 rfl, ?_⟩
  refine ⟨_, fun w' hb => hb.cell 0, _, fun w' hb => hb.cell 1, Ip6V.of h ⟨fun w' hb => CellsAt.blk hb, _, fun w' hb => hb.cell 2, ?_⟩⟩
  have key : ∀ {w' : World} {gw gv : Nat}, Sep [Fct.rest w None, Fct.blk g1 30 h.cells, ownB w.heap.size (.slice EA (bodyB d).length ec) (bodyB d).length (bodyB d)] w' →
      Cells w' (some ⟨gw, 0, none⟩) (ws6.map (.int .i64)) → Cells w' (some ⟨gv, 0, none⟩) (([6, h.cls, h.flow, ((bodyB d).length : Int), firstK d, h.hop] : List Int).map (.int .i64)) →
      Calls Tryd.prog 63 #[.slice (some ⟨gw, 0, none⟩) 6 6, .slice (some ⟨gv, 0, none⟩) 6 6] w' (onRet (fun r_8 w13 => ∃ (x0A1 : Option Addr) (x0n1 x0c1 : Nat), ∃ x15 : Int, r_8 = .tuple #[.slice x0A1 x0n1 x0c1, .int .i64 x15] ∧
        Blk w13 g1 30 h.cells ∧ weirref7_Serialise_D62 (Made w (ser6S d)) g1 EA (bodyB d).length ec x0A1 x0n1 x0c1 w13) (fun _ _ => False)) := by
    intro w' gw gv H hcw hcv
    refine (refPack_spec (ws := ws6) (vs := [6, h.cls, h.flow, ((bodyB d).length : Int), firstK d, h.hop]) hcw rfl hcv rfl).mono ?_
    rintro _ w13 ⟨hE13, ⟨-, -, -, BA, bc, ds, hpk, rfl, hown⟩ | ⟨-, -, hno, rfl⟩ | ⟨-, hne, rfl⟩ | ⟨hno, rfl⟩⟩
    · have hds' := packed6 hpk
      have H := (H.pushOwn hE13 hown (Nat.le_refl _)).lower 3 rfl (b' := w.heap.size) (H.restOf 0 rfl).size
      refine ⟨_, _, _, _, rfl, H.blk 1 rfl, refSer_tail rfl (by rw [hds']; simp) (by omega) H fun A c w' H => ?_⟩
      have e1 : head6 d (bodyB d).length = ds := by
        unfold head6
        rw [hds', e_cls, e_flow, e_hop]
      rw [hes, e1, e_src, e_dst]
      exact ⟨A, c, rfl, H⟩
    · exact absurd (values6 (by omega) (by omega) (by omega) hfr (by omega)) hno
    · exact absurd rfl hne
    · exact absurd ws6_ok hno
  refine ⟨NewVC.sep H fun g2 w10 H => ⟨H.blk 1 rfl, ?_⟩, ?_⟩
  · refine (first_spec (data := data) (hX.ext (H.restOf 0 rfl))).mono ?_
    rintro _ w11 ⟨hE11, rfl⟩
    have H := H.ext hE11
    rw [hd]
    refine ⟨_, rfl, H.blk 1 rfl, NewVC.sep H fun g3 w12 H => ⟨H.blk 1 rfl, ?_⟩⟩
    exact key (H.take 3) (by simpa [ws6] using Cells.of_blk (H.blk 3 rfl) 0) (by simpa using Cells.of_blk (H.blk 4 rfl) 0)
  · refine (first_spec (data := data) (hX.ext (H.restOf 0 rfl))).mono ?_
    rintro _ w11 ⟨hE11, rfl⟩
    have H := H.ext hE11
    rw [hd]
    refine ⟨_, rfl, H.blk 1 rfl, NewVC.sep H fun g2 w12 H => ⟨H.blk 1 rfl, NewVC.sep H fun g3 w13 H => ⟨H.blk 1 rfl, ?_⟩⟩, NewVC.sep H fun g2 w12 H => ⟨H.blk 1 rfl, NewVC.sep H fun g3 w13 H => ⟨H.blk 1 rfl, ?_⟩⟩⟩
    · exact key (H.take 3) (by simpa [ws6] using Cells.of_blk (H.blk 3 rfl) 0) (by simpa using Cells.of_blk (H.blk 4 rfl) 0)
    · exact key (H.take 3) (by simpa [ws6] using Cells.of_blk (H.blk 4 rfl) 0) (by simpa using Cells.of_blk (H.blk 3 rfl) 0)
end
end N6
end Go.Proofs.YtkiogaglmjeplaaDoor
/- ip6.Serialise. -/
namespace Go.Proofs.YtkiogaglmjeplaaDoor
namespace N6
open Go.Eng Go.RowKit
section
variable {w : World}
theorem serialise_spec {h : Ip6V} {es : List ExtR} {data : List Int} (hA : Ip6At w h es data) (hK : Kn w) : Calls Tryd.prog 19 #[h.val] w (MadeW w (ser6S (h.d es data))) := by
  refine ip6_Serialise_of h w _ ?_
  unfold ip6_Serialise_VC
  refine NewVC.sep (Sep.start0 w) fun g1 w1 H => Ip6V.of h ⟨H.at 1 rfl, ?_⟩
  refine (made_spec (hA.ext (H.restOf 0 rfl)) (hK.ext (H.restOf 0 rfl))).mono ?_
  rintro _ w2 ⟨A, c, rfl, H2⟩
  refine ⟨_, _, _, _, rfl, A, c, rfl, ?_⟩
  refine ((H.take 1).made H2).weaken 1 rfl (f' := winB w.heap.size _ _ _) ?_ fun k hk => hk
  obtain ⟨hw1, hw2⟩ := H2.yes 1 _ rfl
  refine ⟨hw1, ?_⟩
  rcases hw2 with hw2 | ⟨g, c, cs, h1, h2, h3⟩
  · exact .inl hw2
  · exact .inr ⟨g, c, cs, h1, Nat.le_trans (H.restOf 0 rfl).size h2, h3⟩
end
end N6
end Go.Proofs.YtkiogaglmjeplaaDoor
