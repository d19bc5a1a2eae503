/- Chapter 7, writing: what a fragment may be, and the fixed fields, both programs. -/
import Derived.Test.YthhgbpmihhljdaaDoorBap
import Derived.Test.YthhgbpmihhljdaaDoorBao
import Derived.Test.YthhgbpmihhljdaaDoorBaj
import Derived.Test.YthhgbpmihhljdaaDoorBak
import Derived.Test.YthhgbpmihhljdaaDoorBal
namespace Go.Proofs.YthhgbpmihhljdaaDoor
namespace N6
open Go.Eng Go.RowKit
section
variable {w : World} {Γ : List Fct} {b n c m : Nat} {A : Option Addr} {xs ys : List Int}
theorem fits_spec {f : FragV} {k : Nat} (hk : k ≤ 4000000) (hoff : 0 ≤ f.off ∧ f.off ≤ 65528) : Calls Tryd.prog 55 #[f.val, .int .i64 k] w fun e w' => Ext w w' ∧ e = .returned (.bool (fitsS f k)) := by
  refine ip6_fits_of f k w _ ?_
  unfold ip6_fits_VC
  refine NewVC.sep (Sep.start0 w) fun g1 w1 H => ?_
  have hE := H.restOf 0 rfl
  have e8 : Int.tmod (k : Int) 8 = ((k % 8 : Nat) : Int) := tmod_nat _ 8
  have last : ¬ (f.more = true ∧ (k = 0 ∨ k % 8 ≠ 0)) → ¬ (0 < f.off ∧ k = 0) → decide (IntKind.i64.wrap (f.off + (k : Int)) ≤ 65535) = fitsS f k := fun h1 h2 => by
    rw [w64 (by omega) (by omega)]
    unfold fitsS
    by_cases h3 : f.off + (k : Int) ≤ 65535
    · rw [decide_eq_true h3, decide_eq_true ⟨fun h => h.elim h1 h2, h3⟩]
    · rw [decide_eq_false h3, decide_eq_false fun h => h3 h.2]
  have no : (f.more = true ∧ (k = 0 ∨ k % 8 ≠ 0)) ∨ (0 < f.off ∧ k = 0) → (false = fitsS f k) := fun h => by
    unfold fitsS; rw [decide_eq_false fun x => x.1 h]
  refine ⟨_, H.cell 1 rfl 1 rfl, ?_⟩
  rw [e8]
  cases hm : f.more with
  | true =>
    refine Br.t rfl (Br.dec (fun h0 => ⟨hE, by rw [no (.inl ⟨hm, .inl (by omega)⟩)]⟩) fun h0 => Br.dec (fun h6 => ⟨hE, by rw [no (.inl ⟨hm, .inr (by omega)⟩)]⟩) fun h6 => ⟨_, H.cell 1 rfl 3 rfl, ?_⟩)
    have l1 : ¬ (f.more = true ∧ (k = 0 ∨ k % 8 ≠ 0)) := fun h => by rcases h.2 with h | h <;> omega
    refine Br.dec (fun hp => Br.no h0 ⟨_, H.cell 1 rfl 3 rfl, hE, by rw [last l1 (by omega)]⟩) fun hp => ⟨_, H.cell 1 rfl 3 rfl, hE, by rw [last l1 (by omega)]⟩
  | false =>
    have l1 : ¬ (f.more = true ∧ (k = 0 ∨ k % 8 ≠ 0)) := fun h => by rw [hm] at h; cases h.1
    refine Br.f rfl ⟨_, H.cell 1 rfl 3 rfl, Br.dec (fun hp => Br.dec (fun h0 => ⟨hE, by rw [no (.inr ⟨hp, by omega⟩)]⟩) fun h0 => ⟨_, H.cell 1 rfl 3 rfl, hE, by rw [last l1 (by omega)]⟩) fun hp => ⟨_, H.cell 1 rfl 3 rfl, hE, by rw [last l1 (by omega)]⟩⟩
theorem sort_upper (k : Int) : sortS k = 0 ↔ upperS k = true := by
  unfold sortS upperS
  by_cases h0 : k = 0 ∨ k = 60
  · rw [if_pos h0, decide_eq_false (by omega)]; simp
  · rw [if_neg h0]
    by_cases h1 : k = 43
    · rw [if_pos h1, decide_eq_false (by omega)]; simp
    · rw [if_neg h1]
      by_cases h2 : k = 44
      · rw [if_pos h2, decide_eq_false (by omega)]; simp
      · rw [if_neg h2, decide_eq_true (by omega)]; simp
theorem FragV.beq_z (f : FragV) : FragV.beq f FragV.z = decide (f.has = false ∧ f.more = false ∧ f.id = 0 ∧ f.off = 0) := by
  unfold FragV.beq FragV.z
  cases f.has <;> cases f.more <;> simp [Bool.decide_and]
set_option maxHeartbeats 1000000 in
theorem fragged_spec {h : Ip6V} {es : List ExtR} {data : List Int} (hD : BytesAt w h.data data) (hK : Kn w) : Calls Tryd.prog 45 #[h.val] w fun e w' => Ext w w' ∧ e = .returned (.int .i64 (fragE (h.d es data))) := by
  refine ip6_fragged_of h w _ ?_
  unfold ip6_fragged_VC
  have hdl := hD.len
  have hds := hD.small
  have fr : (h.d es data).frag = h.frag := rfl
  have dt : (h.d es data).data = data := rfl
  have nx : (h.d es data).next = h.next := rfl
  refine NewVC.sep (Sep.start0 w) fun g1 w1 H => ?_
  have hfr : CellsAt w1 ⟨g1, 38, none⟩ 0 h.frag.cells := ⟨H.cell 1 rfl 38 rfl, H.cell 1 rfl 39 rfl, H.cell 1 rfl 40 rfl, H.cell 1 rfl 41 rfl, trivial⟩
  refine FragV.of h.frag ⟨hfr, ?_⟩
  refine NewVC.sep H fun g2 w2 H => ?_
  refine Stores.sep H 2 rfl h.frag.one (Nat.le_refl 4) (splice_all rfl) fun w3 H => ?_
  refine JoinVC.of (fun st w' => w3 = w' ∧ st = decide (h.frag.has = false ∧ (h.frag.more = true ∨ h.frag.id ≠ 0 ∨ h.frag.off ≠ 0))) ?_ ?_
  · refine ⟨_, H.cell 2 rfl 0 rfl, ?_⟩
    cases hh : h.frag.has with
    | true => exact Br.f rfl ⟨rfl, by rw [decide_eq_false fun x => by cases x.1]⟩
    | false =>
      refine Br.t rfl (FragV.of h.frag ⟨H.at 2 rfl, rfl, ?_⟩)
      rw [FragV.beq_z, hh]
      cases h.frag.more <;> simp
  rintro st _ ⟨rfl, rfl⟩
  unfold ip6_fragged_J28
  refine Br.dec (fun hb => ⟨H.restOf 0 rfl, ?_⟩) fun hok => ?_
  · unfold fragE; rw [fr, if_neg (by rw [hb.1]; decide), if_pos hb.2]
  refine JoinVC.of (fun st w' => Sep [Fct.rest w None, Fct.blk g1 43 h.cells, Fct.blk g2 41 h.frag.cells] w' ∧ st = decide (h.frag.has = false ∧ upperS h.next = false)) ?_ ?_
  · refine ⟨_, H.cell 2 rfl 0 rfl, ?_⟩
    cases hh : h.frag.has with
    | true => exact Br.f rfl ⟨H, by rw [decide_eq_false fun x => by cases x.1]⟩
    | false =>
      refine Br.t rfl ⟨_, H.cell 1 rfl 42 rfl, ?_⟩
      refine (sort_spec (hK.ext (H.restOf 0 rfl))).mono ?_
      rintro _ w4 ⟨hE4, rfl⟩
      refine ⟨_, rfl, H.ext hE4, ?_⟩
      have := sort_upper h.next
      cases hu : upperS h.next with
      | true => rw [decide_eq_false (show ¬ (sortS h.next ≠ 0) from fun x => x (this.2 hu)), decide_eq_false (by simp)]
      | false => rw [decide_eq_true (show sortS h.next ≠ 0 from fun x => by rw [this.1 x] at hu; cases hu), decide_eq_true (by simp)]
  rintro st w4 ⟨H, rfl⟩
  unfold ip6_fragged_J115
  refine Br.dec (fun hb => ⟨H.restOf 0 rfl, ?_⟩) fun hok2 => ⟨_, H.cell 2 rfl 0 rfl, ?_⟩
  · unfold fragE; rw [fr, nx, if_neg (by rw [hb.1]; decide), if_neg (fun x => hok ⟨hb.1, x⟩), if_neg (by rw [hb.2]; decide)]
  cases hh : h.frag.has with
  | false =>
    refine Br.t rfl ⟨H.restOf 0 rfl, ?_⟩
    unfold fragE
    rw [fr, nx, if_neg (by rw [hh]; decide), if_neg (fun x => hok ⟨hh, x⟩), if_pos (by cases hu : upperS h.next with
      | true => rfl
      | false => exact absurd ⟨hh, hu⟩ hok2)]
  | true =>
    have bad : (h.frag.id < 0 ∨ 4294967295 < h.frag.id ∨ h.frag.off < 0 ∨ h.frag.off % 8 ≠ 0 ∨ 65528 < h.frag.off ∨ fitsS h.frag data.length = false) → ∀ {w'}, Ext w w' → (Ext w w' ∧ Ending.returned (.int .i64 76) = .returned (.int .i64 (fragE (h.d es data)))) := fun hb w' hE => ⟨hE, by
      unfold fragE; rw [fr, dt, if_pos hh, if_pos hb]⟩
    have hE := H.restOf 0 rfl
    refine Br.f rfl ⟨_, H.cell 2 rfl 2 rfl, Br.dec (fun h1 => bad (by omega) hE) fun h1 => ⟨_, H.cell 2 rfl 2 rfl, Br.dec (fun h2 => bad (by omega) hE) fun h2 => ⟨_, H.cell 2 rfl 3 rfl, Br.dec (fun h3 => bad (by omega) hE) fun h3 => ⟨_, H.cell 2 rfl 3 rfl, ?_⟩⟩⟩⟩
    rw [Int.tmod_eq_emod_of_nonneg (by omega)]
    refine Br.dec (fun h4 => bad (by omega) hE) fun h4 => ⟨_, H.cell 2 rfl 3 rfl, Br.dec (fun h5 => bad (by omega) hE) fun h5 => FragV.of h.frag ⟨H.at 2 rfl, _, _, _, H.cell 1 rfl 43 rfl, ?_⟩⟩
    refine (fits_spec hds (by omega)).mono ?_
    rintro _ w5 ⟨hE5, rfl⟩
    refine ⟨_, rfl, ?_⟩
    cases hf : fitsS h.frag h.data.n with
    | false => exact Br.t rfl (bad (by rw [hdl, hf]; simp) (hE.ext hE5))
    | true =>
      refine Br.f rfl ⟨hE.ext hE5, ?_⟩
      unfold fragE
      rw [fr, dt, if_pos hh, if_neg (by rw [hdl, hf]; simp; omega)]
theorem firstK_nil {h : Ip6V} {es : List ExtR} {data : List Int} (h0 : es = []) : firstK (h.d es data) = behindK (h.d es data) := by
  subst h0; rfl
theorem firstK_cons {h : Ip6V} {es : List ExtR} {data : List Int} {r : ExtR} (h0 : es[0]? = some r) : firstK (h.d es data) = r.v.kind := by
  cases es with
  | nil => simp at h0
  | cons a l => simp at h0; subst h0; rfl
theorem valid_spec {p : IPV} (h6 : p.v = 6) : Calls Tryd.prog 52 #[p.val] w fun e w' => Ext w w' ∧ e = .returned (.bool true) := by
  refine addr_Valid_of p w _ ?_
  unfold addr_Valid_VC
  refine NewVC.sep (Sep.start0 w) fun g1 w1 H => IPV.of p ⟨H.at 1 rfl, ?_⟩
  refine addr_size_of p w1 _ ?_
  unfold addr_size_VC
  refine NewVC.sep H fun g2 w2 H => ⟨_, H.cell 2 rfl 0 rfl, Br.yes h6 ?_⟩
  exact ⟨_, rfl, H.restOf 0 rfl, rfl⟩
set_option maxHeartbeats 1000000 in
theorem sized_spec {h : Ip6V} {es : List ExtR} {data : List Int} : Calls Tryd.prog 43 #[h.val] w fun e w' => Ext w w' ∧ e = .returned (.int .i64 (if fieldBad (h.d es data) then 78 else 0)) := by
  refine ip6_sized_of h w _ ?_
  unfold ip6_sized_VC
  have bad : fieldBad (h.d es data) → ∀ {w'}, Ext w w' → (Ext w w' ∧ Ending.returned (.int .i64 78) = .returned (.int .i64 (if fieldBad (h.d es data) then 78 else 0))) := fun hb w' hE => ⟨hE, by rw [if_pos hb]⟩
  have fb : fieldBad (h.d es data) ↔ (h.cls < 0 ∨ 255 < h.cls ∨ h.flow < 0 ∨ 1048575 < h.flow ∨ h.hop < 0 ∨ 255 < h.hop ∨ h.src.v ≠ 6 ∨ h.dst.v ≠ 6 ∨ h.next < 0 ∨ 255 < h.next) := Iff.rfl
  refine NewVC.sep (Sep.start0 w) fun g1 w1 H => ?_
  have ips : ∀ {w'}, Blk w' g1 43 h.cells → CellsAt w' ⟨g1, 3, none⟩ 0 h.src.cells := fun hb => ⟨hb.cell 3, hb.cell 4, hb.cell 5, hb.cell 6, hb.cell 7, hb.cell 8, hb.cell 9, hb.cell 10, hb.cell 11, hb.cell 12, hb.cell 13, hb.cell 14, hb.cell 15, hb.cell 16, hb.cell 17, hb.cell 18, hb.cell 19, trivial⟩
  have ipd : ∀ {w'}, Blk w' g1 43 h.cells → CellsAt w' ⟨g1, 20, none⟩ 0 h.dst.cells := fun hb => ⟨hb.cell 20, hb.cell 21, hb.cell 22, hb.cell 23, hb.cell 24, hb.cell 25, hb.cell 26, hb.cell 27, hb.cell 28, hb.cell 29, hb.cell 30, hb.cell 31, hb.cell 32, hb.cell 33, hb.cell 34, hb.cell 35, hb.cell 36, trivial⟩
  refine JoinVC.of (fun st w' => Sep [Fct.rest w None, Fct.blk g1 43 h.cells] w' ∧ st = decide (h.src.v = 6 ∧ h.dst.v = 6)) ?_ ?_
  · refine ⟨_, H.cell 1 rfl 3 rfl, Br.dec (fun h1 => ⟨_, H.cell 1 rfl 20 rfl, Br.dec (fun h2 => ?_) fun h2 => ⟨H, by rw [decide_eq_false fun x => h2 x.2]⟩⟩) fun h1 => ⟨H, by rw [decide_eq_false fun x => h1 x.1]⟩⟩
    refine IPV.of h.src ⟨ips (H.blk 1 rfl), ?_⟩
    refine (valid_spec h1).mono ?_
    rintro _ w2 ⟨hE2, rfl⟩
    have H := H.ext hE2
    refine ⟨_, rfl, Br.t rfl (IPV.of h.dst ⟨ipd (H.blk 1 rfl), ?_⟩)⟩
    refine (valid_spec h2).mono ?_
    rintro _ w3 ⟨hE3, rfl⟩
    exact ⟨_, rfl, H.ext hE3, by rw [decide_eq_true ⟨h1, h2⟩]⟩
  rintro st w4 ⟨H, rfl⟩
  unfold ip6_sized_J3
  have hE := H.restOf 0 rfl
  by_cases h6 : h.src.v = 6 ∧ h.dst.v = 6
  · rw [decide_eq_true h6]
    refine Br.f rfl ⟨_, H.cell 1 rfl 0 rfl, Br.dec (fun h1 => bad (fb.2 (by omega)) hE) fun h1 => ⟨_, H.cell 1 rfl 0 rfl, Br.dec (fun h2 => bad (fb.2 (by omega)) hE) fun h2 => ⟨_, H.cell 1 rfl 1 rfl, Br.dec (fun h3 => bad (fb.2 (by omega)) hE) fun h3 => ⟨_, H.cell 1 rfl 1 rfl, Br.dec (fun h4 => bad (fb.2 (by omega)) hE) fun h4 => ⟨_, H.cell 1 rfl 2 rfl, Br.dec (fun h5 => bad (fb.2 (by omega)) hE) fun h5 => ⟨_, H.cell 1 rfl 2 rfl, Br.dec (fun h7 => bad (fb.2 (by omega)) hE) fun h7 => ⟨_, H.cell 1 rfl 42 rfl, Br.dec (fun h8 => bad (fb.2 (by omega)) hE) fun h8 => ⟨_, H.cell 1 rfl 42 rfl, Br.dec (fun h9 => bad (fb.2 (by omega)) hE) fun h9 => ⟨hE, ?_⟩⟩⟩⟩⟩⟩⟩⟩⟩
    rw [if_neg (fun x => by have := fb.1 x; omega)]
  · rw [decide_eq_false h6]
    exact Br.t rfl (bad (fb.2 (by omega)) hE)
end
end N6
end Go.Proofs.YthhgbpmihhljdaaDoor
/- bytes.Join of two or more parts, without a separator. -/
namespace Go.Eng
open Go Go.RowKit
/-- A part: a slice, and its bytes. -/
structure JPart where
  s : Sl
  l : List Int
def JPart.at (w : World) (p : JPart) : Prop := p.l.length = p.s.n ∧ p.s.n ≤ 4000000 ∧ Cells w p.s.A (p.l.map (.int .u8))
def joinL (ps : List JPart) : List Int := (ps.map JPart.l).flatten
theorem joinL_snoc (ps : List JPart) (p : JPart) : joinL (ps ++ [p]) = joinL ps ++ p.l := by simp [joinL]
theorem joinL_take {ps : List JPart} {i : Nat} {p : JPart} (h : ps[i]? = some p) : joinL (ps.take (i + 1)) = joinL (ps.take i) ++ p.l := by
  have hlt := (List.getElem?_eq_some_iff.1 h).1
  rw [List.take_succ_eq_append_getElem hlt, joinL_snoc, (List.getElem?_eq_some_iff.1 h).2]
theorem joinL_len {ps : List JPart} {b : Nat} (h : ∀ p ∈ ps, p.l.length ≤ b) : (joinL ps).length ≤ ps.length * b := by
  induction ps with
  | nil => simp [joinL]
  | cons p r ih =>
    have h1 := h p (by simp)
    have h2 := ih fun q hq => h q (by simp [hq])
    simp only [joinL, List.map_cons, List.flatten_cons, List.length_append, List.length_cons] at h2 ⊢
    rw [Nat.add_mul]
    omega
theorem joinL_le {ps : List JPart} (i : Nat) : (joinL (ps.take i)).length ≤ (joinL ps).length := by
  have : joinL ps = joinL (ps.take i) ++ joinL (ps.drop i) := by
    unfold joinL; rw [← List.flatten_append, ← List.map_append, List.take_append_drop]
  rw [this, List.length_append]; omega
end Go.Eng
namespace Go.Proofs.YthhgbpmihhljdaaDoor
namespace N6
open Go.Eng Go.RowKit
section
variable {w : World} {Γ : List Fct}
abbrev winB (b : Nat) (v : Value) (n : Nat) (xs : List Int) : Fct := Fct.win b 5 v n (xs.map (.int .u8))
set_option maxHeartbeats 1000000 in
theorem join_spec {PA : Option Addr} {n c : Nat} {ps : List JPart} (hP : Cells w PA (ps.map fun p => p.s.val)) (hl : ps.length = n) (h2 : 2 ≤ n) (h100 : n ≤ 100) (hnc : n ≤ c) (each : ∀ p ∈ ps, p.at w) :
    Calls Tryd.prog 47 #[.slice PA n c, .slice none 0 0] w fun e w' => ∃ g, e = .returned (.slice (some ⟨g, 0, none⟩) (joinL ps).length (joinL ps).length) ∧
      Sep [Fct.rest w None, winB w.heap.size (.slice (some ⟨g, 0, none⟩) (joinL ps).length (joinL ps).length) (joinL ps).length (joinL ps)] w' := by
  refine bytes_Join_of PA n c none 0 0 w _ ?_
  unfold bytes_Join_VC
  have hlen : (joinL ps).length ≤ 400000000 := by
    have := joinL_len (b := 4000000) fun p hp => by have := each p hp; rw [this.1]; exact this.2.1
    have : ps.length * 4000000 ≤ 100 * 4000000 := Nat.mul_le_mul_right _ (by omega)
    omega
  have part : ∀ {w'}, Ext w w' → ∀ {i : Nat}, i < n → ∃ p, ps[i]? = some p ∧ p.at w ∧ (∀ (F : Addr → Prop), (∀ a, w'.cell? a = some p.s.val → F a) → ∀ {m : Nat}, n = m → IdxVC PA m 1 (i : Int) F) := by
    intro w' hE i hi
    have hil : i < ps.length := by omega
    refine ⟨ps[i], List.getElem?_eq_getElem hil, each _ (List.getElem_mem hil), fun F hF m hm => ?_⟩
    subst hm
    obtain ⟨a, ha, hc⟩ := (hP.ext hE).at (i := i) (by simpa using hil)
    exact ⟨a, ha, by omega, by omega, hF _ (by rw [Int.toNat_natCast, Nat.mul_one, hc]; simp)⟩
  refine Br.no (by omega) (Br.no (by omega) ?_)
  refine JoinVC.of (fun st w' => w = w' ∧ st = 0) (Br.no (by decide) ⟨rfl, rfl⟩) ?_
  rintro _ _ ⟨rfl, rfl⟩
  unfold bytes_Join_J31
  refine LoopVC.of (fun st w' => w = w' ∧ ∃ i : Nat, st.2 = (i : Int) ∧ i ≤ n ∧ st.1 = ((joinL (ps.take i)).length : Int)) (fun st _ => ((n : Int) - st.2).toNat) ⟨rfl, 0, rfl, Nat.zero_le _, by simp [joinL]⟩ ?_
  rintro ⟨_, _⟩ _ ⟨rfl, i, rfl, hi, rfl⟩
  show bytes_Join_L506 _ PA n c none 0 0 ((joinL (ps.take i)).length : Int) (i : Int) w _
  unfold bytes_Join_L506
  have hle := joinL_le (ps := ps) i
  refine Br.dec (fun hlt => ?_) fun hge => ?_
  · obtain ⟨p, hp, hat, hidx⟩ := part (Mod.refl _ w) (i := i) (by omega)
    have e1 := joinL_take hp
    have hle1 := joinL_le (ps := ps) (i + 1)
    rw [e1, List.length_append, hat.1] at hle1
    refine hidx _ (fun a hc => ⟨_, _, _, hc, ?_⟩) rfl
    rw [w64 (n := 9223372036854775807 - ((joinL (ps.take i)).length : Int)) (by omega) (by omega)]
    refine Br.no (by omega) ?_
    rw [w64 (n := (i : Int) + 1) (by omega) (by omega), w64 (n := ((joinL (ps.take i)).length : Int) + (p.s.n : Int)) (by omega) (by omega)]
    refine ⟨⟨rfl, i + 1, rfl, by omega, ?_⟩, by show ((n : Int) - ((i : Int) + 1)).toNat < ((n : Int) - (i : Int)).toNat; omega⟩
    show ((joinL (ps.take i)).length : Int) + (p.s.n : Int) = ((joinL (ps.take (i + 1))).length : Int)
    rw [e1, List.length_append, hat.1]; omega
  have hin : i = n := by omega
  subst hin
  rw [List.take_of_length_le (by omega)]
  obtain ⟨N, hN⟩ : ∃ N, (joinL ps).length = N := ⟨_, rfl⟩
  rw [hN] at hlen ⊢
  refine NoZeroVC.sep (Sep.start0 w) (by omega) (by omega) fun g cs w5 H hk hm => ?_
  refine ⟨by omega, by omega, by omega, ?_⟩
  rw [Int.toNat_natCast]
  obtain ⟨p0, hp0, hat0, hidx0⟩ := part (H.restOf 0 rfl) (i := 0) (by omega)
  have e0 : joinL (ps.take 1) = p0.l := by rw [joinL_take hp0]; simp [joinL]
  have hle0 := joinL_le (ps := ps) 1
  rw [e0, hN] at hle0
  refine hidx0 _ (fun a hc => ⟨_, _, _, hc, ?_⟩) rfl
  refine CopyVC.sep H 1 Tryd.underlying32 (by kernel_rfl) rfl (hat0.2.2.ext (H.restOf 0 rfl)) (by simpa using hat0.1) (by have := hat0.1; omega) (by omega) (ints_one _ _) fun w6 H => ?_
  refine ⟨by decide, by omega, ?_⟩
  have hrest : ∀ {w' : World}, Ext w w' → ∀ (j : Nat), j < i - 1 → ∀ p, ps[j + 1]? = some p → ∀ (F : Addr → Prop), (∀ a, w'.cell? a = some p.s.val → F a) → IdxVC (if c = (1 : Int).toNat then PA else PA.map (·.add ((1 : Int).toNat * 1))) (i - (1 : Int).toNat) 1 (j : Int) F := by
    intro w' hE j hj p hp F hF
    have h1 : (1 : Int).toNat = 1 := rfl
    rw [h1]
    have := (hP.ext hE).drop 1 (c := c) (by simp; omega) 1 (.inl rfl)
    obtain ⟨a, ha, hc⟩ := this j p.s.val (by rw [List.getElem?_drop, List.getElem?_map, show 1 + j = j + 1 by omega, hp]; rfl)
    exact ⟨a, ha, by omega, by omega, hF _ (by rw [Int.toNat_natCast, Nat.mul_one]; exact hc)⟩
  refine LoopVC.of (fun st w' => ∃ (j : Nat) (cs' : List Value), st.2 = (j : Int) ∧ j + 1 ≤ i ∧ st.1 = ((joinL (ps.take (j + 1))).length : Int) ∧ N ≤ cs'.length ∧ cs'.length ≤ maxLen ∧ cs'.take (joinL (ps.take (j + 1))).length = (joinL (ps.take (j + 1))).map (.int .u8) ∧ Sep [Fct.rest w None, Fct.blk g 5 cs'] w') (fun st _ => ((i : Int) - st.2).toNat) ?_ ?_
  · refine ⟨0, _, rfl, by omega, ?_, ?_, ?_, ?_, H⟩
    · rw [e0]; show (p0.s.n : Int) = _; rw [hat0.1]
    · rw [splice_len (by simp; omega)]; omega
    · rw [splice_len (by simp; omega)]; omega
    · rw [e0]
      have := splice_take (cs := cs) (xs := p0.l.map (Value.int .u8)) (o := 0) (by simp; omega)
      simpa using this
  rintro ⟨_, _⟩ w7 ⟨j, cs', rfl, hj, rfl, hk', hm', htk, H⟩
  have hlej := joinL_le (ps := ps) (j + 1)
  rw [hN] at hlej
  show bytes_Join_L4090 _ none 0 0 (some ⟨g, 0, none⟩) N N _ (i - (1 : Int).toNat) ((joinL (ps.take (j + 1))).length : Int) (j : Int) w7 _
  unfold bytes_Join_L4090
  obtain ⟨B, hB⟩ : ∃ B, (joinL (ps.take (j + 1))).length = B := ⟨_, rfl⟩
  rw [hB] at hlej htk ⊢
  refine Br.dec (fun hlt => ?_) fun hge => ?_
  · have hji : j + 1 < i := by simp at hlt; omega
    obtain ⟨p, hp, hat, _⟩ := part (Mod.refl _ w) (i := j + 1) (by omega)
    have e1 := joinL_take hp
    have hle1 := joinL_le (ps := ps) (j + 2)
    rw [e1, List.length_append, hat.1, hN, hB] at hle1
    refine hrest (H.restOf 0 rfl) j (by omega) p hp _ fun a hc => ⟨_, _, _, hc, by omega, by omega, ?_⟩
    obtain ⟨o', ho', ho1, ho2⟩ := at_off (g := g) (o := 0) (k := (B : Int).toNat) (c := N)
    rw [ho']
    rw [Int.toNat_natCast] at ho1 ho2
    simp only [Int.toNat_natCast]
    have ho'' : o' + (N - B) ≤ N := by
      by_cases h : N = B
      · have := ho2 h; omega
      · have := ho1 h; omega
    refine CopyVC.sep H 1 Tryd.underlying32 (by kernel_rfl) rfl (xs := []) (Cells.nil _ _) rfl (Nat.zero_le _) (by omega) (fun v hv => by cases hv) fun w8 H => ?_
    have es : splice cs' o' [] = cs' := by unfold splice; simp
    rw [es] at H
    refine ⟨by rw [w64 (by omega) (by omega)]; omega, by rw [w64 (by omega) (by omega)]; omega, ?_⟩
    rw [w64 (n := (B : Int) + (0 : Nat)) (by omega) (by omega), show (B : Int) + ((0 : Nat) : Int) = (B : Int) by omega, ho']
    simp only [Int.toNat_natCast]
    refine CopyVC.sep H 1 Tryd.underlying32 (by kernel_rfl) rfl (hat.2.2.ext (H.restOf 0 rfl)) (by simpa using hat.1) (by omega) (by omega) (ints_one _ _) fun w9 H => ?_
    rw [w64 (by omega) (by omega), w64 (by omega) (by omega)]
    refine ⟨⟨j + 1, _, rfl, by omega, ?_, ?_, ?_, ?_, H⟩, by show ((i : Int) - ((j : Int) + 1)).toNat < ((i : Int) - (j : Int)).toNat; omega⟩
    · show (B : Int) + (p.s.n : Int) = _; rw [e1, List.length_append, hat.1, hB]; omega
    · rw [splice_len (by simp [hat.1]; omega)]; exact hk'
    · rw [splice_len (by simp [hat.1]; omega)]; exact hm'
    · rw [e1, List.length_append, hB, List.map_append]
      by_cases hNB : N = B
      · have hp0 : p.l = [] := List.eq_nil_of_length_eq_zero (by rw [hat.1]; omega)
        have := ho2 hNB
        subst this
        rw [hp0]
        unfold splice
        simpa using htk
      · have := ho1 hNB
        rw [Nat.zero_add] at this
        rw [this]
        have hs := splice_take (cs := cs') (xs := p.l.map (Value.int .u8)) (o := B) (by simp [hat.1]; omega)
        rw [List.length_map] at hs
        rw [hs, htk]
  · have hji : j + 1 = i := by simp at hge; omega
    have : joinL (ps.take (j + 1)) = joinL ps := by rw [List.take_of_length_le (by omega)]
    rw [this, hN] at hB
    subst hB
    rw [this] at htk
    have hb := H.blk 1 rfl
    refine ⟨g, rfl, H.weaken 1 rfl (f' := winB w.heap.size (.slice (some ⟨g, 0, none⟩) N N) N (joinL ps)) ⟨by simpa using hN, .inr ⟨g, N, cs', rfl, ?_, Nat.le_refl _, hk', by simp only [maxLen]; omega, hb, htk⟩⟩ fun k hk => ?_⟩
    · refine Nat.le_of_not_lt fun hlt => H.apart 0 1 _ _ (by decide) rfl rfl g ⟨hlt, id⟩ rfl
    · simp [Fct.win, Value.ownBlock] at hk
      exact hk.symm
end
end N6
end Go.Proofs.YthhgbpmihhljdaaDoor
/- Chapter 7, writing: a datagram, the program's. -/
namespace Go.Proofs.YthhgbpmihhljdaaDoor
namespace N6
open Go.Eng Go.RowKit
/-- What a call that makes bytes hands back, where the row may have more room than its capacity says. -/
def MadeW (w : World) (r : List Int × Int) (e : Ending) (w' : World) : Prop :=
  ∃ A c, e = .returned (.tuple #[.slice A r.1.length c, .int .i64 r.2]) ∧ Sep [Fct.rest w None, winB w.heap.size (.slice A r.1.length c) r.1.length r.1] w'
section
variable {w : World} {Γ : List Fct}
theorem Made.win {w' : World} {r : List Int × Int} {e : Ending} (h : Made w r e w') : MadeW w r e w' := by
  obtain ⟨A, c, he, H⟩ := h
  exact ⟨A, c, he, H.ownWin (i := 1) rfl⟩
theorem MadeW.err {w' : World} {k : Int} {r : List Int × Int} (h : Ext w w') (hr : r = ([], k)) : MadeW w r (.returned (.tuple #[.slice none 0 0, .int .i64 k])) w' := (Made.err h hr).win
theorem valuesF {next off more id : Int} (hn : 0 ≤ next ∧ next ≤ 255) (ho : 0 ≤ off ∧ off ≤ 65528) (hm : 0 ≤ more ∧ more ≤ 1) (hi : 0 ≤ id ∧ id ≤ 4294967295) : valuesOk wsf [next, 0, off / 8, 0, more, id] := by
  refine ⟨rfl, fun i hi' => ?_⟩
  match i, hi' with
  | 0, _ => simp [wsf]; omega
  | 1, _ => simp [wsf]
  | 2, _ => simp [wsf]; omega
  | 3, _ => simp [wsf]
  | 4, _ => simp [wsf]; omega
  | 5, _ => simp [wsf]; omega
theorem values6 {cls flow n first hop : Int} (h0 : 0 ≤ cls ∧ cls ≤ 255) (h1 : 0 ≤ flow ∧ flow ≤ 1048575) (h2 : 0 ≤ n ∧ n ≤ 65535) (h3 : 0 ≤ first ∧ first ≤ 255) (h4 : 0 ≤ hop ∧ hop ≤ 255) : valuesOk ws6 [6, cls, flow, n, first, hop] := by
  refine ⟨rfl, fun i hi' => ?_⟩
  match i, hi' with
  | 0, _ => simp [ws6]
  | 1, _ => simp [ws6]; omega
  | 2, _ => simp [ws6]; omega
  | 3, _ => simp [ws6]; omega
  | 4, _ => simp [ws6]; omega
  | 5, _ => simp [ws6]; omega
/-- Headers that may be have kinds of headers. -/
theorem hdr_kind {l : List ExtD} {next : Int} {top : Bool} {x : ExtD} (h : (headersS l next top).2 = 0) (hx : l[0]? = some x) : x.kind = 0 ∨ x.kind = 43 ∨ x.kind = 60 := by
  have hl := (List.getElem?_eq_some_iff.1 hx).1
  unfold headersS at h
  split at h
  · cases h
  · refine Classical.byContradiction fun hk => ?_
    have hb : bodyS x = ([], 72) := by unfold bodyS; rw [if_neg (by omega), if_neg (by omega)]
    have hs := hdrF_step (l := l) (next := next) (top := top) (i := 0) rfl hx
    rw [if_neg (by omega), hb, if_pos (by decide)] at hs
    have := hdrF_stop (i := 0 + 1) (by rw [hs]; decide) l.length (by omega)
    rw [this, hs] at h
    cases h
theorem fragE_ok {d : Ip6D} (h : fragE d = 0) (hh : d.frag.has = true) : (0 ≤ d.frag.id ∧ d.frag.id ≤ 4294967295) ∧ (0 ≤ d.frag.off ∧ d.frag.off ≤ 65528) ∧ d.frag.off % 8 = 0 ∧ fitsS d.frag d.data.length = true := by
  unfold fragE at h
  rw [if_pos hh] at h
  split at h
  · cases h
  · rename_i hn
    refine ⟨by omega, by omega, by omega, ?_⟩
    cases hf : fitsS d.frag d.data.length with
    | true => rfl
    | false => exact absurd (.inr (.inr (.inr (.inr (.inr hf))))) hn
theorem firstK_range {h : Ip6V} {es : List ExtR} {data : List Int} (h0 : ¬ fieldBad (h.d es data)) (hh : (headersS (h.d es data).exts (behindK (h.d es data)) true).2 = 0) : 0 ≤ firstK (h.d es data) ∧ firstK (h.d es data) ≤ 255 := by
  have hn : 0 ≤ h.next ∧ h.next ≤ 255 := by
    have e1 : (h.d es data).next = h.next := rfl
    unfold fieldBad at h0; rw [e1] at h0; omega
  cases es with
  | nil =>
    show 0 ≤ behindK _ ∧ behindK _ ≤ 255
    unfold behindK
    split
    · decide
    · exact hn
  | cons r l =>
    have := hdr_kind (x := r.d) hh rfl
    show 0 ≤ r.d.kind ∧ r.d.kind ≤ 255
    omega
set_option maxHeartbeats 4000000 in
theorem made_spec {h : Ip6V} {es : List ExtR} {data : List Int} (hA : Ip6At w h es data) (hK : Kn w) : Calls Tryd.prog 36 #[h.val] w (MadeW w (ser6S (h.d es data))) := by
  refine ip6_made_of h w _ ?_
  unfold ip6_made_VC
  have hX := hA.exts
  have hD := hA.data
  have hdl := hD.len
  have hds := hD.small
  have hxl := hX.len
  obtain ⟨d, hd⟩ : ∃ d, h.d es data = d := ⟨_, rfl⟩
  have e_next : d.next = h.next := by rw [← hd]; rfl
  have e_cls : d.cls = h.cls := by rw [← hd]; rfl
  have e_flow : d.flow = h.flow := by rw [← hd]; rfl
  have e_hop : d.hop = h.hop := by rw [← hd]; rfl
  have e_frag : d.frag = h.frag := by rw [← hd]; rfl
  have e_exts : d.exts = es.map ExtR.d := by rw [← hd]; rfl
  have e_data : d.data = data := by rw [← hd]; rfl
  have e_src : d.src = h.src := by rw [← hd]; rfl
  have e_dst : d.dst = h.dst := by rw [← hd]; rfl
  rw [hd]
  refine NewVC.sep (Sep.start0 w) fun g1 w1 H => Ip6V.of h ⟨H.at 1 rfl, ?_⟩
  refine (sized_spec (es := es) (data := data)).mono ?_
  rintro _ w2 ⟨hE2, rfl⟩
  have H := H.ext hE2
  rw [hd]
  by_cases hfb : fieldBad d
  · rw [if_pos hfb]
    exact ⟨_, rfl, Br.yes (by decide) (MadeW.err (H.restOf 0 rfl) (by unfold ser6S; rw [if_pos hfb]))⟩
  rw [if_neg hfb]
  have hfb' := hfb
  unfold fieldBad at hfb'
  rw [e_cls, e_flow, e_hop, e_next] at hfb'
  refine ⟨_, rfl, Br.no (by decide) (DrawVC.sep H (fun w' => Blk w' g1 43 h.cells) fun w3 H => ⟨H.blk 1 rfl, _, fun w' hb => hb.cell 42, _, fun w' hb => hb.cell 42, ?_⟩)⟩
  refine JoinVC.of (fun st w' => w3 = w' ∧ st = (behindK d, behindK d)) ?_ ?_
  · refine ⟨_, H.cell 1 rfl 38 rfl, ?_⟩
    unfold behindK
    rw [e_frag, e_next]
    cases hh : h.frag.has with
    | true => exact Br.t rfl ⟨rfl, rfl⟩
    | false => exact Br.f rfl ⟨rfl, rfl⟩
  rintro _ _ ⟨rfl, rfl⟩
  show ip6_made_J15 _ g1 (behindK d) (behindK d) w3
  unfold ip6_made_J15
  refine JoinVC.of (fun st w' => w3 = w' ∧ st = firstK d) ?_ ?_
  · refine ⟨_, _, _, H.cell 1 rfl 37 rfl, Br.dec (fun h0 => ⟨_, _, _, H.cell 1 rfl 37 rfl, ?_⟩) fun h0 => ⟨rfl, ?_⟩⟩
    · refine (hX.ext (H.restOf 0 rfl)).idx (i := 0) rfl (by omega) fun a r hr hc _ _ => ⟨r.v.kind, by simpa [add_zero] using hc.1, rfl, ?_⟩
      rw [← hd, firstK_cons hr]
    · rw [← hd, firstK_nil (List.eq_nil_of_length_eq_zero (by omega))]
  rintro _ _ ⟨rfl, rfl⟩
  unfold ip6_made_J31
  refine ⟨_, _, _, H.cell 1 rfl 37 rfl, ?_⟩
  refine (headers_spec (next := behindK d) (inner := false) (hX.ext (H.restOf 0 rfl)) (hK.ext (H.restOf 0 rfl))).mono ?_
  rintro _ w6 ⟨XA, xc, rfl, H6⟩
  have H := (H.made H6).lower 2 rfl (b' := w.heap.size) (H.restOf 0 rfl).size
  rw [← e_exts] at H ⊢
  rw [show (!false) = true from rfl] at H ⊢
  obtain ⟨X, hXe⟩ : ∃ X, headersS d.exts (behindK d) true = X := ⟨_, rfl⟩
  have hXl : X.1.length ≤ 16384 := by rw [← hXe]; exact headersS_len _ _ _
  rw [hXe] at H ⊢
  refine ⟨_, _, _, _, rfl, Br.dec (fun hne => MadeW.err (H.restOf 0 rfl) (by unfold ser6S; rw [if_neg hfb, hXe, if_pos hne])) fun heq => Ip6V.of h ⟨H.at 1 rfl, ?_⟩⟩
  have heq : X.2 = 0 := by omega
  refine (fragged_spec (es := es) (hD.ext (H.restOf 0 rfl)) (hK.ext (H.restOf 0 rfl))).mono ?_
  rintro _ w7 ⟨hE7, rfl⟩
  have H := H.ext hE7
  rw [hd]
  refine ⟨_, rfl, Br.dec (fun hne => MadeW.err (H.restOf 0 rfl) (by unfold ser6S; rw [if_neg hfb, hXe, if_neg (by omega), if_pos hne])) fun hfe => ?_⟩
  have hfe : fragE d = 0 := by omega
  have hfl : (fragB d).length ≤ 8 := by unfold fragB; split <;> simp [four]
  refine JoinVC.of (fun st w' => st.2.1 = (X.1 ++ fragB d).length ∧ Sep [Fct.rest w None, Fct.blk g1 43 h.cells, ownB w.heap.size (.slice st.1 st.2.1 st.2.2) st.2.1 (X.1 ++ fragB d)] w') ?_ ?_
  · refine ⟨_, H.cell 1 rfl 38 rfl, ?_⟩
    cases hh : h.frag.has with
    | false =>
      have e0 : fragB d = [] := by unfold fragB; rw [e_frag, if_neg (by rw [hh]; decide)]
      refine Br.f rfl ⟨by rw [e0, List.append_nil], ?_⟩
      rw [e0, List.append_nil]; exact H
    | true =>
      obtain ⟨hid, hoff, ho8, _⟩ := fragE_ok hfe (by rw [e_frag]; exact hh)
      rw [e_frag] at hid hoff ho8
      refine Br.t rfl (JoinVC.of (fun st w' => w7 = w' ∧ st = b2i h.frag.more) ?_ ?_)
      · refine ⟨_, H.cell 1 rfl 39 rfl, ?_⟩
        cases h.frag.more with
        | true => exact Br.t rfl ⟨rfl, rfl⟩
        | false => exact Br.f rfl ⟨rfl, rfl⟩
      rintro _ _ ⟨rfl, rfl⟩
      unfold ip6_made_J8181
      have hmore : 0 ≤ b2i h.frag.more ∧ b2i h.frag.more ≤ 1 := by unfold b2i; split <;> decide
      refine NewVC.sep H fun g2 w9 H => ⟨_, H.cell 1 rfl 42 rfl, _, H.cell 1 rfl 41 rfl, _, H.cell 1 rfl 40 rfl, ?_⟩
      rw [Int.tdiv_eq_ediv_of_nonneg hoff.1, w64 (by omega) (by omega)]
      refine NewVC.sep H fun g3 w10 H => ?_
      refine (pack_ok (ws := wsf) (vs := [h.next, 0, h.frag.off / 8, 0, b2i h.frag.more, h.frag.id]) (by simpa [wsf] using Cells.of_blk (H.blk 3 rfl) 0) rfl (by simpa using Cells.of_blk (H.blk 4 rfl) 0) rfl wsf_ok rfl).mono ?_
      rintro _ w11 ⟨hE11, ⟨-, BA, ds, hpk, rfl, hown⟩ | ⟨hno, rfl⟩⟩
      · have hds' := packedF hmore ho8 hpk
        have H := H.pushOwn hE11 hown (Nat.le_refl _)
        refine ⟨_, _, _, _, rfl, ?_⟩
        refine appB H 2 rfl (H.cells 5 rfl) rfl (by rw [hds']; simp [four]; omega) (H.restOf 0 rfl).size fun A2 c2 w12 H _ => ?_
        have e0 : fragB d = ds := by unfold fragB; rw [e_frag, e_next, if_pos hh, hds']
        rw [e0]
        exact ⟨by show X.1.length + ds.length = _; simp, H.take 3⟩
      · exact absurd (valuesF (by omega) hoff hmore hid) hno
  rintro ⟨EA, en, ec⟩ w13 ⟨hen, H⟩
  simp only at hen H
  show ip6_made_J511 _ g1 (firstK d) EA en ec w13
  subst hen
  unfold ip6_made_J511
  have hbl : (bodyB d).length = (X.1 ++ fragB d).length + h.data.n := by
    unfold bodyB; rw [hXe, e_data]; simp [hdl]; omega
  have hxf : (X.1 ++ fragB d).length ≤ 16392 := by rw [List.length_append]; omega
  refine ⟨_, _, _, H.cell 1 rfl 43 rfl, ?_⟩
  rw [w64 (n := ((X.1 ++ fragB d).length : Int) + (h.data.n : Int)) (by omega) (by omega), w64 (by omega) (by omega)]
  refine Br.dec (fun hbig => MadeW.err (H.restOf 0 rfl) (by unfold ser6S; rw [if_neg hfb, hXe, if_neg (by omega), if_neg (by omega), if_pos (by omega)])) fun hok => ?_
  have hser : ser6S d = (head6 d (bodyB d).length ++ (d.src.bytes ++ (d.dst.bytes ++ bodyB d)), 0) := by
    unfold ser6S; rw [if_neg hfb, hXe, if_neg (by omega), if_neg (by omega), if_neg (by omega)]
  have hfr := firstK_range (h := h) (es := es) (data := data) (by rw [hd]; exact hfb) (by rw [hd, hXe]; exact heq)
  rw [hd] at hfr
  refine NewVC.sep H fun g4 w14 H => ⟨_, H.cell 1 rfl 0 rfl, _, H.cell 1 rfl 1 rfl, _, H.cell 1 rfl 2 rfl, ?_⟩
  refine NewVC.sep H fun g5 w15 H => ?_
  refine (pack_ok (ws := ws6) (vs := [6, h.cls, h.flow, ((X.1 ++ fragB d).length : Int) + (h.data.n : Int), firstK d, h.hop]) (by simpa [ws6] using Cells.of_blk (H.blk 3 rfl) 0) rfl (by simpa using Cells.of_blk (H.blk 4 rfl) 0) rfl ws6_ok rfl).mono ?_
  rintro _ w16 ⟨hE16, ⟨-, BA, ds, hpk, rfl, hown⟩ | ⟨hno, rfl⟩⟩
  case inr => exact absurd (values6 (by omega) (by omega) (by omega) hfr (by omega)) hno
  have hds' := packed6 hpk
  have H := H.pushOwn hE16 hown (Nat.le_refl _)
  refine ⟨_, _, _, _, rfl, ?_⟩
  refine DrawVC.sep H (fun w' => Blk w' g1 43 h.cells) fun w17 H => ⟨H.blk 1 rfl, ?_⟩
  refine ⟨_, _, _, fun w' hb => hb.cell 43, ?_⟩
  refine NewVC.sep H fun g6 w18 H => ⟨H.blk 1 rfl, ?_⟩
  let ps : List JPart := [⟨⟨BA, ds.length, ds.length⟩, ds⟩, ⟨⟨some ⟨g1, 4, none⟩, 16, 16⟩, h.src.bytes⟩, ⟨⟨some ⟨g1, 21, none⟩, 16, 16⟩, h.dst.bytes⟩, ⟨⟨EA, (X.1 ++ fragB d).length, ec⟩, X.1 ++ fragB d⟩, ⟨h.data, data⟩]
  have hb1 := H.blk 1 rfl
  have hps : ∀ p ∈ ps, p.at w18 := by
    intro p hp
    simp only [ps, List.mem_cons, List.not_mem_nil, or_false] at hp
    rcases hp with rfl | rfl | rfl | rfl | rfl
    · exact ⟨rfl, by show ds.length ≤ 4000000; rw [hds']; simp, H.cells 5 rfl⟩
    · exact ⟨rfl, by show 16 ≤ 4000000; decide, (Cells.of_blk hb1 4).take 16⟩
    · exact ⟨rfl, by show 16 ≤ 4000000; decide, (Cells.of_blk hb1 21).take 16⟩
    · exact ⟨rfl, by show (X.1 ++ fragB d).length ≤ 4000000; omega, H.cells 2 rfl⟩
    · exact ⟨hdl, hds, (hD.ext (H.restOf 0 rfl)).cells⟩
  refine (join_spec (ps := ps) (by simpa [ps, Sl.val] using Cells.of_blk (H.blk 6 rfl) 0) (n := 5) rfl (by decide) (by decide) (Nat.le_refl _) hps).mono ?_
  rintro _ w19 ⟨gj, rfl, Hj⟩
  have hE19 := Hj.restOf 0 rfl
  refine ⟨_, _, _, rfl, hb1.ext hE19, ?_⟩
  have hjl : joinL ps = head6 d (bodyB d).length ++ (d.src.bytes ++ (d.dst.bytes ++ bodyB d)) := by
    have e1 : head6 d (bodyB d).length = ds := by
      unfold head6
      rw [hds', e_cls, e_flow, e_hop, hbl]
      simp
    rw [e1, e_src, e_dst]
    unfold bodyB
    rw [hXe, e_data]
    simp [joinL, ps]
  rw [hjl] at Hj ⊢
  rw [hser]
  exact ⟨_, _, rfl, (H.take 1).made Hj |>.weaken 1 rfl (f' := winB w.heap.size _ _ _) (by
    obtain ⟨hw1, hw2⟩ := Hj.yes 1 _ rfl
    refine ⟨hw1, ?_⟩
    rcases hw2 with hw2 | ⟨g, c, cs, h1, h2, h3⟩
    · exact .inl hw2
    · exact .inr ⟨g, c, cs, h1, Nat.le_trans (H.restOf 0 rfl).size h2, h3⟩) fun k hk => hk⟩
end
end N6
end Go.Proofs.YthhgbpmihhljdaaDoor
/- Chapter 6, writing: options and small functions, both programs. -/
namespace Go.Proofs.YthhgbpmihhljdaaDoor
namespace N6
open Go.Eng Go.RowKit
section
variable {w : World} {Γ : List Fct}
theorem out4_spec {k hi : Int} : Calls Tryd.prog 23 #[.int .i64 k, .int .i64 hi] w fun e w' => w = w' ∧ e = .returned (.bool (decide (k < 0 ∨ hi < k))) := by
  refine ip4_out_of k hi w _ ?_
  unfold ip4_out_VC
  refine Br.dec (fun h => ⟨rfl, by rw [decide_eq_true (.inl h)]⟩) fun h => ⟨rfl, ?_⟩
  by_cases h2 : hi < k
  · rw [decide_eq_true h2, decide_eq_true (.inr h2)]
  · rw [decide_eq_false h2, decide_eq_false (by omega)]
theorem frag4_spec {mf : Bool} {off : Int} {n : Nat} (ho : 0 ≤ off ∧ off ≤ 65528) (hn : n ≤ 4000000) : Calls Tryd.prog 26 #[.bool mf, .int .i64 off, .int .i64 n] w fun e w' => w = w' ∧ e = .returned (.int .i64 (if frag4 mf off n then 66 else 0)) := by
  refine ip4_fragment_of mf off n w _ ?_
  unfold ip4_fragment_VC
  have e8 : Int.tmod (n : Int) 8 = ((n % 8 : Nat) : Int) := tmod_nat _ 8
  rw [e8, w64 (by omega) (by omega)]
  have yes : frag4 mf off n → (w = w ∧ Ending.returned (.int .i64 66) = .returned (.int .i64 (if frag4 mf off n then 66 else 0))) := fun h => ⟨rfl, by rw [if_pos h]⟩
  have last : ¬ (mf = true ∧ (n = 0 ∨ n % 8 ≠ 0)) → Br (decide ((65515 : Int) < off + n)) (w = w ∧ Ending.returned (.int .i64 66) = .returned (.int .i64 (if frag4 mf off n then 66 else 0))) (w = w ∧ Ending.returned (.int .i64 0) = .returned (.int .i64 (if frag4 mf off n then 66 else 0))) := fun h =>
    Br.dec (fun h2 => yes (.inr h2)) fun h2 => ⟨rfl, by rw [if_neg (fun x => x.elim h h2)]⟩
  cases hm : mf with
  | true =>
    rw [hm] at yes last
    exact Br.t rfl (Br.dec (fun h0 => yes (.inl ⟨rfl, .inl (by omega)⟩)) fun h0 => Br.dec (fun h1 => yes (.inl ⟨rfl, .inr (by omega)⟩)) fun h1 => last fun h => by rcases h.2 with h | h <;> omega)
  | false =>
    rw [hm] at last
    exact Br.f rfl (last fun h => by cases h.1)
theorem four4_spec {p : IPV} : Calls Tryd.prog 24 #[p.val] w fun e w' => Ext w w' ∧ e = .returned (.bool (decide (four4 p))) := by
  refine ip4_four_of p w _ ?_
  unfold ip4_four_VC
  refine NewVC.sep (Sep.start0 w) fun g1 w1 H => NewVC.sep H fun g2 w2 H => DrawVC.sep H (fun _ => True) fun w3 H => ⟨trivial, ?_⟩
  refine ⟨by decide, by decide, by decide, by decide, ?_⟩
  refine CopyVC.sep H 2 Tryd.underlying32 (by kernel_rfl) rfl (xs := [.int .u8 p.a0, .int .u8 p.a1, .int .u8 p.a2, .int .u8 p.a3]) ((Cells.of_blk (H.blk 1 rfl) 1).take 4) rfl (Nat.le_refl 4) (by decide) (by intro v hv; simp at hv; rcases hv with rfl | rfl | rfl | rfl <;> rfl) fun w4 H => ?_
  refine ⟨_, H.cell 1 rfl 0 rfl, Br.dec (fun h4 => ?_) fun h4 => ⟨H.restOf 0 rfl, by rw [decide_eq_false fun x => h4 x.1]⟩⟩
  let a : A16V := ⟨p.a0, p.a1, p.a2, p.a3, p.a4, p.a5, p.a6, p.a7, p.a8, p.a9, p.a10, p.a11, p.a12, p.a13, p.a14, p.a15⟩
  let b : A16V := ⟨p.a0, p.a1, p.a2, p.a3, 0, 0, 0, 0, 0, 0, 0, 0, 0, 0, 0, 0⟩
  have hb1 := H.blk 1 rfl
  refine A16V.of a ⟨⟨hb1.cell 1, hb1.cell 2, hb1.cell 3, hb1.cell 4, hb1.cell 5, hb1.cell 6, hb1.cell 7, hb1.cell 8, hb1.cell 9, hb1.cell 10, hb1.cell 11, hb1.cell 12, hb1.cell 13, hb1.cell 14, hb1.cell 15, hb1.cell 16, trivial⟩, A16V.of b ⟨H.at 2 rfl, H.restOf 0 rfl, ?_⟩⟩
  have : A16V.beq a b = decide (four4 p) := by
    unfold A16V.beq four4
    rw [Bool.eq_iff_iff]
    simp [a, b, h4]
  rw [this]
/-- The zeros behind the options, one by one. -/
theorem pad_step {n k : Nat} (hk : k ≤ pad4 n) : (n + k) % 4 = 0 ↔ k = pad4 n := by unfold pad4 at *; omega
set_option maxHeartbeats 1000000 in
theorem putOpts4_spec {s : Sl} {rs : List OptR} (hO : OptsAt w s rs) : Calls Tryd.prog 25 #[.slice s.A s.n s.k] w (Made w (putOpts4 (rs.map OptR.d))) := by
  refine ip4_PutOptions_of s.A s.n s.k w _ ?_
  unfold ip4_PutOptions_VC
  have hsmall := hO.small
  have hl : (rs.map OptR.d).length = s.n := by simp [hO.len]
  refine LoopVC.of (fun st w' => ∃ (i : Nat) (out : List Int), st.2 = i ∧ i ≤ s.n ∧ opt4F (rs.map OptR.d) i = some out ∧ out.length ≤ 40 ∧ Sep [Fct.rest w None, ownB w.heap.size (.slice st.1.1 st.1.2.1 st.1.2.2) st.1.2.1 out] w') (fun st _ => ((s.n : Int) - st.2).toNat)
    ⟨0, [], rfl, Nat.zero_le _, rfl, Nat.zero_le _, (Sep.start0 w).nil _ _ _⟩ ?_
  rintro ⟨⟨A1, n1, c1⟩, _⟩ w1 ⟨i, out, rfl, hi, hf, hlen, H⟩
  simp only at H
  show ip4_PutOptions_L58 _ s.A s.n A1 n1 c1 (i : Int) w1 _
  unfold ip4_PutOptions_L58
  have hn1 := ownB_len H 1 rfl
  refine Br.dec (fun hlt => ?_) fun hge => ?_
  · have hlt : i < s.n := by omega
    refine (hO.ext (H.restOf 0 rfl)).idx rfl hlt fun a r hr hc _ => ?_
    have hB := hO.each r (List.mem_of_getElem? hr)
    have hds := hB.small
    have hdl := hB.len
    have hrd : (rs.map OptR.d)[i]? = some r.d := by rw [List.getElem?_map, hr]; rfl
    refine OptV.of r.v ⟨hc, ?_⟩
    refine NewVC.sep H fun g1 w2 H => ?_
    refine Stores.sep H 2 rfl r.v.one (Nat.le_refl 2) (splice_all rfl) fun w3 H => ?_
    have bad : opt4B r.d = none → Made w (putOpts4 (rs.map OptR.d)) (.returned (.tuple #[.slice none 0 0, .int .i64 65])) w3 := fun hb => Made.err (H.restOf 0 rfl) (putOpts4_none hf hrd hb)
    have hb0 : (r.v.kind < 2 ∨ 255 < r.v.kind ∨ 38 < r.v.data.n) → opt4B r.d = none := fun h => by
      unfold opt4B; rw [if_pos (show r.d.kind < 2 ∨ 255 < r.d.kind ∨ 38 < r.d.data.length from (show r.v.kind < 2 ∨ 255 < r.v.kind ∨ 38 < r.data.length by omega))]
    refine ⟨_, H.cell 2 rfl 0 rfl, Br.dec (fun h1 => bad (hb0 (by omega))) fun h1 => ⟨_, H.cell 2 rfl 0 rfl, Br.dec (fun h2 => bad (hb0 (by omega))) fun h2 => ⟨_, _, _, H.cell 2 rfl 1 rfl, Br.dec (fun h3 => bad (hb0 (by omega))) fun h3 => ⟨_, _, _, H.cell 2 rfl 1 rfl, ?_⟩⟩⟩⟩
    have hf1 : opt4F (rs.map OptR.d) (i + 1) = some (out ++ (r.v.kind :: ((r.v.data.n + 2 : Nat) : Int) :: r.data)) := by
      rw [opt4F_step hf hrd]
      unfold opt4B
      rw [if_neg (show ¬ (r.d.kind < 2 ∨ 255 < r.d.kind ∨ 38 < r.d.data.length) from (show ¬ (r.v.kind < 2 ∨ 255 < r.v.kind ∨ 38 < r.data.length) by omega))]
      show some (out ++ (r.v.kind :: ((r.data.length + 2 : Nat) : Int) :: r.data)) = _
      rw [hdl]
    rw [w64 (n := (n1 : Int) + 2) (by omega) (by omega), w64 (by omega) (by omega)]
    refine Br.dec (fun h4 => Made.err (H.restOf 0 rfl) (putOpts4_long hf1 (by omega) (by simp; omega))) fun h4 => ⟨_, H.cell 2 rfl 0 rfl, _, _, _, H.cell 2 rfl 1 rfl, ?_⟩
    rw [wu8 (n := r.v.kind) (by omega) (by omega), w64 (by omega) (by omega), wu8 (by omega) (by omega)]
    refine NewVC.sep H fun g2 w4 H => ?_
    refine appB H 1 rfl (m := 2) (ys := [r.v.kind, 2 + (r.v.data.n : Int)]) (by simpa using Cells.of_blk (H.blk 3 rfl) 0) rfl (by omega) (H.restOf 0 rfl).size fun A2 c2 w5 H _ => ⟨_, _, _, H.cell 2 rfl 1 rfl, ?_⟩
    refine appB H 1 rfl (ys := r.data) (hB.ext (H.restOf 0 rfl)).cells hdl (by omega) (H.restOf 0 rfl).size fun A3 c3 w6 H _ => ?_
    rw [w64 (by omega) (by omega)]
    refine ⟨⟨i + 1, (out ++ [r.v.kind, 2 + (r.v.data.n : Int)]) ++ r.data, by show (i : Int) + 1 = _; omega, by omega, ?_, by simp; omega, H.take 2⟩, by show ((s.n : Int) - ((i : Int) + 1)).toNat < ((s.n : Int) - (i : Int)).toNat; omega⟩
    rw [hf1]
    simp
    omega
  · have hin : i = s.n := by omega
    subst hin
    have hpo : putOpts4 (rs.map OptR.d) = (out ++ List.replicate (pad4 n1) 0, 0) := by
      unfold putOpts4; rw [hl, hf]; simp only; rw [if_neg (by omega), hn1]
    refine LoopVC.of (fun st w' => ∃ k : Nat, k ≤ pad4 n1 ∧ st.2.1 = n1 + k ∧ Sep [Fct.rest w None, ownB w.heap.size (.slice st.1 st.2.1 st.2.2) st.2.1 (out ++ List.replicate k 0)] w') (fun st _ => n1 + pad4 n1 - st.2.1) ⟨0, Nat.zero_le _, rfl, by simpa using H⟩ ?_
    rintro ⟨A2, n2, c2⟩ w7 ⟨k, hk, hn2, H⟩
    simp only at hn2 H
    subst hn2
    show ip4_PutOptions_L60 _ A2 (n1 + k) c2 w7 _
    unfold ip4_PutOptions_L60
    have hp := pad4_lt n1
    have e4 : Int.tmod ((n1 + k : Nat) : Int) 4 = (((n1 + k) % 4 : Nat) : Int) := tmod_nat _ 4
    rw [e4]
    have hps := pad_step hk
    refine Br.dec (fun hlt => ?_) fun hge => ?_
    · refine NewVC.sep H fun g3 w8 H => ?_
      refine appB H 1 rfl (m := 1) (ys := [0]) (by simpa using Cells.of_blk (H.blk 2 rfl) 0) rfl (by omega) (H.restOf 0 rfl).size fun A3 c3 w9 H _ => ?_
      refine ⟨⟨k + 1, by omega, rfl, ?_⟩, by show n1 + pad4 n1 - (n1 + k + 1) < n1 + pad4 n1 - (n1 + k); omega⟩
      have H := H.take 2
      rw [List.replicate_succ', ← List.append_assoc]
      exact H
    · have : k = pad4 n1 := hps.1 (by omega)
      rw [this] at H ⊢
      exact Made.ok hpo H
end
end N6
end Go.Proofs.YthhgbpmihhljdaaDoor
