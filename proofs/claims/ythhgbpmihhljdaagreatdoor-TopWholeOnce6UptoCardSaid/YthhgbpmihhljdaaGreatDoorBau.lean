/- Chapter 7, writing: one header, and headers, both programs. -/
import Derived.Test.YthhgbpmihhljdaaGreatDoorBat
namespace Go.Proofs.YthhgbpmihhljdaaGreatDoor
namespace N6
open Go.Eng Go.RowKit
/-- What a call hands back: bytes to be read (those of w0's memory, or new ones), and an error. -/
def Reads (w0 w : World) (r : List Int × Int) (e : Ending) (w' : World) : Prop :=
  ∃ A n c, e = .returned (.tuple #[.slice A n c, .int .i64 r.2]) ∧ n = r.1.length ∧ Sep [Fct.rest w None, Fct.seen w0 A (r.1.map (.int .u8))] w'
section
variable {w : World} {Γ : List Fct} {b n c m : Nat} {A : Option Addr} {xs ys : List Int}
theorem Reads.old {w0 w' : World} {A : Option Addr} {n c : Nat} {l : List Int} {r : List Int × Int} (h : Ext w w') (hr : r = (l, 0)) (hn : n = l.length) (hc : Cells w0 A (l.map (.int .u8))) : Reads w0 w r (.returned (.tuple #[.slice A n c, .int .i64 0])) w' := by
  subst hr
  exact ⟨A, n, c, rfl, hn, ((Sep.start0 w).ext h).pushSeen hc⟩
theorem Reads.err {w0 w' : World} {k : Int} {r : List Int × Int} (h : Ext w w') (hr : r = ([], k)) : Reads w0 w r (.returned (.tuple #[.slice none 0 0, .int .i64 k])) w' := by
  subst hr
  exact ⟨none, 0, 0, rfl, rfl, ((Sep.start0 w).ext h).pushSeen (Cells.nil _ _)⟩
theorem Made.reads {w0 w1 w' : World} {r : List Int × Int} {e : Ending} (h0 : Ext w0 w1) (hE : Ext w w1) (h : Made w1 r e w') : Reads w0 w r e w' := by
  obtain ⟨A, c, rfl, H⟩ := h
  refine ⟨A, _, c, rfl, rfl, ?_⟩
  have H1 := ((Sep.start0 w).ext hE).made H
  exact H1.ownSeen 1 rfl h0.size
theorem tdiv_nat (a k : Nat) : Int.tdiv (a : Int) (k : Int) = ((a / k : Nat) : Int) := by
  rw [Int.tdiv_eq_ediv_of_nonneg (by omega)]; omega
structure ExtAt (w : World) (r : ExtR) : Prop where
  opts : OptsAt w r.v.opts r.opts
  data : BytesAt w r.v.data r.data
theorem ExtAt.ext {w w' : World} {r : ExtR} (h : ExtAt w r) (hE : Ext w w') : ExtAt w' r := ⟨h.opts.ext hE, h.data.ext hE⟩
theorem opts_nil {r : ExtR} (h : ExtAt w r) : r.d.opts ≠ [] ↔ 0 < r.v.opts.n := by
  have := h.opts.len
  show r.opts.map OptR.d ≠ [] ↔ _
  constructor
  · intro hne; cases hr : r.opts with
    | nil => rw [hr] at hne; exact absurd rfl hne
    | cons a l => rw [hr] at this; simp at this; omega
  · intro h0 e
    have := congrArg List.length e
    simp at this
    rw [this] at *
    simp_all
theorem data_nil {s : Sl} {l : List Int} (h : BytesAt w s l) : l ≠ [] ↔ 0 < s.n := by
  have := h.len
  constructor
  · intro hne; cases l with
    | nil => exact absurd rfl hne
    | cons a l => simp at this; omega
  · rintro h0 rfl; simp at this; omega
set_option maxHeartbeats 1000000 in
theorem body_spec {w0 : World} {r : ExtR} (hE0 : Ext w0 w) (hx0 : ExtAt w0 r) (hK : Kn w) : Calls Tryz.prog 74 #[r.v.val] w (Reads w0 w (bodyS r.d)) := by
  have hx := hx0.ext hE0
  refine ip6_body_of r.v w _ ?_
  unfold ip6_body_VC
  have hk' : r.d.kind = r.v.kind := rfl
  refine NewVC.sep (Sep.start0 w) fun g1 w1 H => ?_
  refine JoinVC.of (fun st w' => Sep [Fct.rest w None, Fct.blk g1 56 r.v.cells] w' ∧ st = decide (¬ (r.v.kind = 0 ∨ r.v.kind = 43 ∨ r.v.kind = 60))) ?_ ?_
  · refine ⟨_, H.cell 1 rfl 0 rfl, Br.dec (fun h => ⟨H, ?_⟩) fun h0 => ⟨_, H.cell 1 rfl 0 rfl, Br.dec (fun h => ⟨H, ?_⟩) fun h1 => ⟨_, H.cell 1 rfl 0 rfl, ?_⟩⟩⟩
    · rw [decide_eq_true (by omega)]
    · rw [decide_eq_true (by omega)]
    refine (sort_spec (hK.ext (H.restOf 0 rfl))).mono ?_
    rintro _ w2 ⟨hE2, rfl⟩
    have H := H.ext hE2
    refine ⟨_, rfl, ?_⟩
    refine Br.dec (fun h2 => ⟨_, H.cell 1 rfl 0 rfl, ?_⟩) fun h2 => ⟨H, ?_⟩
    · refine (sort_spec (hK.ext (H.restOf 0 rfl))).mono ?_
      rintro _ w3 ⟨hE3, rfl⟩
      refine ⟨_, rfl, H.ext hE3, ?_⟩
      unfold sortS at h2 ⊢
      split at h2
      · exact absurd rfl h2
      · rename_i h3
        rw [if_neg h3]
        by_cases h43 : r.v.kind = 43
        · rw [if_pos h43, decide_eq_false (by decide), decide_eq_false (by omega)]
        · rw [if_neg h43, decide_eq_true (by split <;> decide), decide_eq_true (by omega)]
    · unfold sortS at h2
      split at h2
      · rename_i h3; rw [decide_eq_false (by omega)]
      · split at h2
        · exact absurd (by decide) h2
        · split at h2 <;> exact absurd (by decide) h2
  rintro st w4 ⟨H, rfl⟩
  unfold ip6_body_J12
  refine Br.dec (fun hbad => Reads.err (H.restOf 0 rfl) (by unfold bodyS; rw [hk', if_neg (by omega), if_neg (by omega)])) fun hok => ?_
  refine JoinVC.of (fun st w' => Sep [Fct.rest w None, Fct.blk g1 56 r.v.cells] w' ∧ st = decide (r.v.kind ≠ 43 ∧ 0 < r.v.data.n)) ?_ ?_
  · refine ⟨_, H.cell 1 rfl 0 rfl, ?_⟩
    refine (sort_spec (hK.ext (H.restOf 0 rfl))).mono ?_
    rintro _ w5 ⟨hE5, rfl⟩
    have H := H.ext hE5
    refine ⟨_, rfl, Br.dec (fun h => ⟨_, _, _, H.cell 1 rfl 2 rfl, H, ?_⟩) fun h => ⟨H, ?_⟩⟩
    · have : r.v.kind ≠ 43 := fun e => by rw [e] at h; exact absurd h (by decide)
      by_cases h0 : 0 < r.v.data.n
      · rw [decide_eq_true (by omega), decide_eq_true ⟨this, h0⟩]
      · rw [decide_eq_false (by omega), decide_eq_false (fun x => h0 x.2)]
    · rw [decide_eq_false (fun x => h (by unfold sortS; rw [if_pos (by omega)]))]
  rintro st w6 ⟨H, rfl⟩
  unfold ip6_body_J51
  refine Br.dec (fun hbad => Reads.err (H.restOf 0 rfl) ?_) fun hok2 => ⟨_, H.cell 1 rfl 0 rfl, ?_⟩
  · unfold bodyS
    rw [hk', if_neg (by omega), if_pos (by omega), if_pos (show r.d.data ≠ [] from (data_nil hx.data).2 hbad.2)]
  refine (sort_spec (hK.ext (H.restOf 0 rfl))).mono ?_
  rintro _ w7 ⟨hE7, rfl⟩
  have H := H.ext hE7
  refine ⟨_, rfl, Br.dec (fun h => ⟨_, _, _, H.cell 1 rfl 1 rfl, ?_⟩) fun h => ⟨_, _, _, H.cell 1 rfl 1 rfl, ?_⟩⟩
  · have h43 : r.v.kind ≠ 43 := fun e => by rw [e] at h; exact absurd h (by decide)
    refine (putOptions_spec (hx.opts.ext (H.restOf 0 rfl))).mono ?_
    intro e w8 hM
    obtain ⟨A, n, c, rfl, h1, h2⟩ := hM.reads (hE0.ext (H.restOf 0 rfl)) (H.restOf 0 rfl)
    refine ⟨_, _, _, _, rfl, ?_⟩
    have e0 : bodyS r.d = putOptsS (r.opts.map OptR.d) := by
      unfold bodyS
      rw [hk', if_neg h43, if_pos (by omega), if_neg (show ¬ r.d.data ≠ [] from fun hd => hok2 ⟨h43, (data_nil hx.data).1 hd⟩)]; rfl
    rw [e0]
    exact ⟨A, n, c, rfl, h1, h2⟩
  · have h43 : r.v.kind = 43 := by
      rcases (by omega : r.v.kind = 0 ∨ r.v.kind = 43 ∨ r.v.kind = 60) with e | e | e
      · rw [e] at h; exact absurd (by decide) h
      · exact e
      · rw [e] at h; exact absurd (by decide) h
    have hd := hx.data
    have hdl : r.d.data.length = r.v.data.n := hd.len
    refine Br.dec (fun h0 => Reads.err (H.restOf 0 rfl) ?_) fun h0 => ⟨_, _, _, H.cell 1 rfl 2 rfl, ?_⟩
    · unfold bodyS; rw [hk', if_pos h43, if_pos (.inl ((opts_nil hx).2 (by omega)))]
    have e8 : Int.tmod (r.v.data.n : Int) 8 = ((r.v.data.n % 8 : Nat) : Int) := tmod_nat _ 8
    rw [e8]
    refine Br.dec (fun h6 => Reads.err (H.restOf 0 rfl) ?_) fun h6 => ⟨_, _, _, H.cell 1 rfl 2 rfl, Br.dec (fun hb => Reads.err (H.restOf 0 rfl) ?_) fun hb => ⟨_, _, _, H.cell 1 rfl 2 rfl, ?_⟩⟩
    · unfold bodyS; rw [hk', if_pos h43, if_pos (.inr (.inl (by rw [hdl]; omega)))]
    · unfold bodyS; rw [hk', if_pos h43, if_pos (.inr (.inr (by rw [hdl]; omega)))]
    · have e0 : bodyS r.d = (r.data, 0) := by
        unfold bodyS
        rw [hk', if_pos h43, if_neg]
        · rfl
        · intro h
          rcases h with h | h | h
          · exact h0 (by have := (opts_nil hx).1 h; omega)
          · rw [hdl] at h; omega
          · rw [hdl] at h; omega
      exact Reads.old (H.restOf 0 rfl) e0 hd.len.symm hx0.data.cells
/-- The document's: with the error of a hop-by-hop header that is not the first. -/
def headerS (x : ExtD) (first : Bool) : List Int × Int := if x.kind = 0 ∧ first = false then ([], 73) else bodyS x
set_option maxHeartbeats 1000000 in
theorem refHeader_spec {w0 : World} {r : ExtR} {first : Bool} (hE0 : Ext w0 w) (hx0 : ExtAt w0 r) : Calls Tryz.prog 64 #[r.v.val, .bool first] w (Reads w0 w (headerS r.d first)) := by
  have hx := hx0.ext hE0
  refine weirref7_header_of r.v first w _ ?_
  unfold weirref7_header_VC
  have hk' : r.d.kind = r.v.kind := rfl
  refine NewVC.sep (Sep.start0 w) fun g1 w1 H => ?_
  refine JoinVC.of (fun _ w' => w1 = w' ∧ ¬ (r.v.kind = 0 ∧ first = false)) ?_ ?_
  · refine ⟨_, H.cell 1 rfl 0 rfl, Br.dec (fun h => ?_) fun h => ⟨rfl, fun x => h x.1⟩⟩
    cases hf : first with
    | true => exact Br.f rfl ⟨rfl, fun x => by cases x.2⟩
    | false => exact Br.t rfl (Reads.err (H.restOf 0 rfl) (by unfold headerS; rw [hk', if_pos ⟨h, rfl⟩]))
  rintro _ _ ⟨rfl, hno⟩
  have eh : headerS r.d first = bodyS r.d := by unfold headerS; rw [hk', if_neg hno]
  unfold weirref7_header_J3
  refine JoinVC.of (fun _ w' => w1 = w' ∧ (r.v.kind = 0 ∨ r.v.kind = 43 ∨ r.v.kind = 60)) ?_ ?_
  · refine ⟨_, H.cell 1 rfl 0 rfl, Br.dec (fun h => ⟨_, H.cell 1 rfl 0 rfl, Br.dec (fun h2 => ⟨_, H.cell 1 rfl 0 rfl, Br.dec (fun h3 => Reads.err (H.restOf 0 rfl) ?_) fun h3 => ⟨rfl, by omega⟩⟩) fun h2 => ⟨rfl, by omega⟩⟩) fun h => ⟨rfl, by omega⟩⟩
    rw [eh]; unfold bodyS; rw [hk', if_neg (by omega), if_neg (by omega)]
  rintro _ _ ⟨rfl, hkind⟩
  unfold weirref7_header_J7
  rw [eh]
  have hd := hx.data
  have hdl : r.d.data.length = r.v.data.n := hd.len
  refine ⟨_, H.cell 1 rfl 0 rfl, Br.dec (fun h43 => ⟨_, _, _, H.cell 1 rfl 1 rfl, ?_⟩) fun h43 => ⟨_, _, _, H.cell 1 rfl 2 rfl, ?_⟩⟩
  · refine Br.dec (fun h0 => Reads.err (H.restOf 0 rfl) ?_) fun h0 => ⟨_, _, _, H.cell 1 rfl 2 rfl, ?_⟩
    · unfold bodyS; rw [hk', if_pos h43, if_pos (.inl ((opts_nil hx).2 (by omega)))]
    have e8 : Int.tmod (r.v.data.n : Int) 8 = ((r.v.data.n % 8 : Nat) : Int) := tmod_nat _ 8
    rw [e8]
    refine Br.dec (fun h6 => Reads.err (H.restOf 0 rfl) ?_) fun h6 => ⟨_, _, _, H.cell 1 rfl 2 rfl, Br.dec (fun hb => Reads.err (H.restOf 0 rfl) ?_) fun hb => ⟨_, _, _, H.cell 1 rfl 2 rfl, ?_⟩⟩
    · unfold bodyS; rw [hk', if_pos h43, if_pos (.inr (.inl (by rw [hdl]; omega)))]
    · unfold bodyS; rw [hk', if_pos h43, if_pos (.inr (.inr (by rw [hdl]; omega)))]
    · have e0 : bodyS r.d = (r.data, 0) := by
        unfold bodyS
        rw [hk', if_pos h43, if_neg]
        · rfl
        · intro h
          rcases h with h | h | h
          · exact h0 (by have := (opts_nil hx).1 h; omega)
          · rw [hdl] at h; omega
          · rw [hdl] at h; omega
      exact Reads.old (H.restOf 0 rfl) e0 hd.len.symm hx0.data.cells
  · refine Br.dec (fun h0 => Reads.err (H.restOf 0 rfl) ?_) fun h0 => ⟨_, _, _, H.cell 1 rfl 1 rfl, ?_⟩
    · unfold bodyS; rw [hk', if_neg h43, if_pos (by omega), if_pos (show r.d.data ≠ [] from (data_nil hd).2 (by omega))]
    refine (refPutOptions_spec (hx.opts.ext (H.restOf 0 rfl))).mono ?_
    intro e w8 hM
    obtain ⟨A, n, c, rfl, h1, h2⟩ := hM.reads (hE0.ext (H.restOf 0 rfl)) (H.restOf 0 rfl)
    refine ⟨_, _, _, _, rfl, ?_⟩
    have e0 : bodyS r.d = putOptsS (r.opts.map OptR.d) := by
      unfold bodyS
      rw [hk', if_neg h43, if_pos (by omega), if_neg (show ¬ r.d.data ≠ [] from fun hd' => h0 (by have := (data_nil hd).1 hd'; omega))]; rfl
    rw [e0]
    exact ⟨A, n, c, rfl, h1, h2⟩
end
end N6
end Go.Proofs.YthhgbpmihhljdaaGreatDoor
/- Chapter 7, writing: headers one behind the other, both programs. -/
namespace Go.Proofs.YthhgbpmihhljdaaGreatDoor
namespace N6
open Go.Eng Go.RowKit
section
variable {w : World} {Γ : List Fct} {b n c m : Nat} {A : Option Addr} {xs ys : List Int}
theorem thenK_map {rs : List ExtR} {next : Int} {i : Nat} : thenK (rs.map ExtR.d) next i = match rs[i + 1]? with
    | some y => y.v.kind
    | none => next := by
  unfold thenK
  rw [List.getElem?_map]
  cases rs[i + 1]? <;> rfl
theorem hdr_stop {s : Sl} {rs : List ExtR} {next : Int} {top : Bool} {i : Nat} {out : List Int} {r : ExtR} {k : Int} (hX : ExtsAt w s rs) (h8 : s.n ≤ 8) (_hf : hdrF (rs.map ExtR.d) next top i = (out, 0)) (hr : rs[i]? = some r)
    (h : hdrF (rs.map ExtR.d) next top (i + 1) = ([], k)) (hk : k ≠ 0) : headersS (rs.map ExtR.d) next top = ([], k) := by
  have hl : (rs.map ExtR.d).length = s.n := by simp [hX.len]
  have hi := (List.getElem?_eq_some_iff.1 hr).1
  exact hdrF_stopped (by omega) h hk (by rw [hl, ← hX.len]; omega)
set_option maxHeartbeats 1000000 in
theorem headers_spec {s : Sl} {rs : List ExtR} {next : Int} {inner : Bool} (hX : ExtsAt w s rs) (hK : Kn w) :
    Calls Tryz.prog 50 #[.slice s.A s.n s.k, .int .i64 next, .bool inner] w (Made w (headersS (rs.map ExtR.d) next (!inner))) := by
  refine ip6_headers_of s.A s.n s.k next inner w _ ?_
  unfold ip6_headers_VC
  have hl : (rs.map ExtR.d).length = s.n := by simp [hX.len]
  refine Br.dec (fun h8 => Made.err (Mod.refl _ _) (by unfold headersS; rw [if_pos (by omega)])) fun h8 => ?_
  refine LoopVC.of (fun st w' => ∃ (i : Nat) (out : List Int), st.2 = i ∧ i ≤ s.n ∧ hdrF (rs.map ExtR.d) next (!inner) i = (out, 0) ∧ Sep [Fct.rest w None, ownB w.heap.size (.slice st.1.1 st.1.2.1 st.1.2.2) st.1.2.1 out] w') (fun st _ => ((s.n : Int) - st.2).toNat)
    ⟨0, [], rfl, Nat.zero_le _, rfl, (Sep.start0 w).nil _ _ _⟩ ?_
  rintro ⟨⟨A1, n1, c1⟩, _⟩ w1 ⟨i, out, rfl, hi, hf, H⟩
  simp only at H
  show ip6_headers_L122 _ s.A s.n next inner A1 n1 c1 (i : Int) w1 _
  unfold ip6_headers_L122
  have hn1 := ownB_len H 1 rfl
  have hlen : out.length ≤ 2048 * i := by have := hdrF_len (l := rs.map ExtR.d) (next := next) (top := !inner) i; rw [hf] at this; exact this
  refine Br.dec (fun hlt => ?_) fun hge => ?_
  · have hlt : i < s.n := by omega
    refine (hX.ext (H.restOf 0 rfl)).idx rfl hlt fun a r hr hc _ _ => ?_
    have hrm : r ∈ rs := List.mem_of_getElem? hr
    have hx : ExtAt w r := ⟨hX.opts r hrm, hX.data r hrm⟩
    have hrd : (rs.map ExtR.d)[i]? = some r.d := by rw [List.getElem?_map, hr]; rfl
    have hstep := hdrF_step (l := rs.map ExtR.d) (next := next) (top := !inner) (i := i) (by rw [hf]) hrd
    have hk' : r.d.kind = r.v.kind := rfl
    refine ExtV.of r.v ⟨hc, ?_⟩
    refine NewVC.sep H fun g1 w2 H => ?_
    refine Stores.sep H 2 rfl r.v.one (Nat.le_refl 3) (splice_all rfl) fun w3 H => ?_
    refine JoinVC.of (fun _ w' => w3 = w' ∧ ¬ (r.v.kind = 0 ∧ ¬ ((!inner) = true ∧ i = 0))) ?_ ?_
    · have bad : (r.v.kind = 0 ∧ ¬ ((!inner) = true ∧ i = 0)) → Made w (headersS (rs.map ExtR.d) next (!inner)) (.returned (.tuple #[.slice none 0 0, .int .i64 73])) w3 := fun hb => Made.err (H.restOf 0 rfl) (hdr_stop hX (by omega) hf hr (by rw [hstep, hk', if_pos hb]) (by decide))
      refine ⟨_, H.cell 2 rfl 0 rfl, Br.dec (fun hk => Br.dec (fun h0 => bad ⟨hk, fun x => by omega⟩) fun h0 => ?_) fun hk => ⟨rfl, fun x => hk x.1⟩⟩
      cases hin : inner with
      | true => exact Br.t rfl (by rw [hin] at bad; exact bad ⟨hk, fun x => by cases x.1⟩)
      | false => exact Br.f rfl ⟨rfl, fun x => x.2 ⟨rfl, by omega⟩⟩
    rintro _ _ ⟨rfl, hno⟩
    unfold ip6_headers_J7833
    rw [hk', if_neg hno] at hstep
    refine ExtV.of r.v ⟨H.at 2 rfl, ?_⟩
    refine (body_spec (H.restOf 0 rfl) hx (hK.ext (H.restOf 0 rfl))).mono ?_
    rintro _ w5 ⟨BA, bn, bc, rfl, rfl, H5⟩
    have H := H.made H5
    refine ⟨_, _, _, _, rfl, Br.dec (fun hne => Made.err (H.restOf 0 rfl) (hdr_stop hX (by omega) hf hr (by rw [hstep, if_pos hne]) hne)) fun heq => ?_⟩
    rw [if_neg heq, hf] at hstep
    have hbl := bodyS_len r.d
    refine JoinVC.of (fun st w' => w5 = w' ∧ st = thenK (rs.map ExtR.d) next i) ?_ ?_
    · rw [w64 (by omega) (by omega)]
      refine Br.dec (fun h1 => ?_) fun h1 => ⟨rfl, ?_⟩
      · rw [show ((i : Int) + 1) = ((i + 1 : Nat) : Int) by omega]
        refine (hX.ext (H.restOf 0 rfl)).idx rfl (by omega) fun a1 p hp hpc _ _ => ⟨p.v.kind, by simpa [add_zero] using hpc.1, rfl, ?_⟩
        rw [thenK_map, hp]
      · rw [thenK_map, List.getElem?_eq_none (by rw [hX.len]; omega)]
    rintro _ _ ⟨rfl, rfl⟩
    unfold ip6_headers_J125343
    have e8 : Int.tdiv ((bodyS r.d).1.length : Int) 8 = (((bodyS r.d).1.length / 8 : Nat) : Int) := tdiv_nat _ 8
    rw [e8, u8_eq (thenK _ _ _), w64 (by omega) (by omega), wu8 (by omega) (by omega), w64 (by omega) (by omega)]
    refine NewVC.sep H fun g2 w6 H => ?_
    refine appB H 1 rfl (m := 2) (ys := [thenK (rs.map ExtR.d) next i % 256, (((bodyS r.d).1.length / 8 : Nat) : Int)]) (by simpa using Cells.of_blk (H.blk 4 rfl) 0) rfl (by omega) (H.restOf 0 rfl).size fun A2 c2 w7 H7 _ => ?_
    refine appB H7 1 rfl (ys := (bodyS r.d).1) (H7.seen (H7.restOf 0 rfl) 3 rfl) rfl (by omega) (H7.restOf 0 rfl).size fun A3 c3 w8 H _ => ?_
    refine ⟨⟨i + 1, _, by show (i : Int) + 1 = _; omega, by omega, ?_, H.take 2⟩, by show ((s.n : Int) - ((i : Int) + 1)).toNat < ((s.n : Int) - (i : Int)).toNat; omega⟩
    rw [hstep]
    simp
  · have hin : i = s.n := by omega
    subst hin
    refine Made.ok (out := out) ?_ H
    unfold headersS; rw [hl, if_neg (by omega), hf]
set_option maxHeartbeats 1000000 in
theorem refHeaders_spec {s : Sl} {rs : List ExtR} {next : Int} {top : Bool} (hX : ExtsAt w s rs) :
    Calls Tryz.prog 42 #[.slice s.A s.n s.k, .int .i64 next, .bool top] w (Made w (headersS (rs.map ExtR.d) next top)) := by
  refine weirref7_headers_of s.A s.n s.k next top w _ ?_
  unfold weirref7_headers_VC
  have hl : (rs.map ExtR.d).length = s.n := by simp [hX.len]
  refine Br.dec (fun h8 => Made.err (Mod.refl _ _) (by unfold headersS; rw [if_pos (by omega)])) fun h8 => ?_
  refine LoopVC.of (fun st w' => ∃ (i : Nat) (out : List Int), st.2 = i ∧ i ≤ s.n ∧ hdrF (rs.map ExtR.d) next top i = (out, 0) ∧ Sep [Fct.rest w None, ownB w.heap.size (.slice st.1.1 st.1.2.1 st.1.2.2) st.1.2.1 out] w') (fun st _ => ((s.n : Int) - st.2).toNat)
    ⟨0, [], rfl, Nat.zero_le _, rfl, (Sep.start0 w).nil _ _ _⟩ ?_
  rintro ⟨⟨A1, n1, c1⟩, _⟩ w1 ⟨i, out, rfl, hi, hf, H⟩
  simp only at H
  show weirref7_headers_L122 _ s.A s.n next top A1 n1 c1 (i : Int) w1 _
  unfold weirref7_headers_L122
  have hn1 := ownB_len H 1 rfl
  have hlen : out.length ≤ 2048 * i := by have := hdrF_len (l := rs.map ExtR.d) (next := next) (top := top) i; rw [hf] at this; exact this
  refine Br.dec (fun hlt => ?_) fun hge => ?_
  · have hlt : i < s.n := by omega
    obtain ⟨r, hr⟩ : ∃ r, rs[i]? = some r := ⟨rs[i]'(by rw [hX.len]; exact hlt), List.getElem?_eq_getElem _⟩
    have hrm : r ∈ rs := List.mem_of_getElem? hr
    have hx : ExtAt w r := ⟨hX.opts r hrm, hX.data r hrm⟩
    have hrd : (rs.map ExtR.d)[i]? = some r.d := by rw [List.getElem?_map, hr]; rfl
    have hstep := hdrF_step (l := rs.map ExtR.d) (next := next) (top := top) (i := i) (by rw [hf]) hrd
    have hk' : r.d.kind = r.v.kind := rfl
    have hfirst : headerS r.d (if top = true then decide ((i : Int) = 0) else false) = if r.v.kind = 0 ∧ ¬ (top = true ∧ i = 0) then ([], 73) else bodyS r.d := by
      unfold headerS
      rw [hk']
      by_cases hk : r.v.kind = 0
      · cases htop : top with
        | true =>
          by_cases h0 : i = 0
          · rw [if_pos rfl, decide_eq_true (by omega), if_neg (fun x => by cases x.2), if_neg (fun x => x.2 ⟨rfl, h0⟩)]
          · rw [if_pos rfl, decide_eq_false (by omega), if_pos ⟨hk, rfl⟩, if_pos ⟨hk, fun x => h0 x.2⟩]
        | false => rw [if_neg (show ¬ ((false : Bool) = true) by decide), if_pos ⟨hk, rfl⟩, if_pos ⟨hk, fun x => by cases x.1⟩]
      · rw [if_neg (fun x => hk x.1), if_neg (fun x => hk x.1)]
    refine JoinVC.of (fun st w' => st.1.2.1 = (headerS r.d (if top = true then decide ((i : Int) = 0) else false)).1.length ∧ st.2 = (headerS r.d (if top = true then decide ((i : Int) = 0) else false)).2 ∧
      Sep [Fct.rest w None, ownB w.heap.size (.slice A1 n1 c1) n1 out, Fct.seen w st.1.1 ((headerS r.d (if top = true then decide ((i : Int) = 0) else false)).1.map (.int .u8))] w') ?_ ?_
    · refine (hX.ext (H.restOf 0 rfl)).idx rfl hlt fun a r' hr' hc _ _ => ?_
      obtain rfl : r = r' := by rw [hr] at hr'; injection hr'
      refine ExtV.of r.v ⟨hc, ?_⟩
      cases htop : top with
      | true =>
        refine Br.t rfl ((refHeader_spec (H.restOf 0 rfl) hx).mono ?_)
        rintro _ w5 ⟨BA, bn, bc, rfl, rfl, H5⟩
        exact ⟨_, _, _, _, rfl, rfl, rfl, H.made H5⟩
      | false =>
        refine Br.f rfl ((refHeader_spec (H.restOf 0 rfl) hx).mono ?_)
        rintro _ w5 ⟨BA, bn, bc, rfl, rfl, H5⟩
        exact ⟨_, _, _, _, rfl, rfl, rfl, H.made H5⟩
    rintro ⟨⟨BA, bn, bc⟩, be⟩ w5 ⟨hbn, hbe, H⟩
    simp only at hbn hbe H
    show weirref7_headers_J1956 _ s.A s.n next A1 n1 c1 (i : Int) _ BA bn bc be w5
    unfold weirref7_headers_J1956
    rw [hfirst] at hbn hbe H
    rw [hk'] at hstep
    by_cases hno : r.v.kind = 0 ∧ ¬ (top = true ∧ i = 0)
    · rw [if_pos hno] at hbe hstep
      rw [hbe]
      exact Br.yes (by decide) (Made.err (H.restOf 0 rfl) (hdr_stop (top := top) hX (by omega) hf hr hstep (by decide)))
    rw [if_neg hno] at hbn hbe H hstep
    subst hbn; subst hbe
    refine Br.dec (fun hne => Made.err (H.restOf 0 rfl) (hdr_stop (top := top) hX (by omega) hf hr (by rw [hstep, if_pos hne]) hne)) fun heq => ?_
    rw [if_neg heq, hf] at hstep
    have hbl := bodyS_len r.d
    refine JoinVC.of (fun st w' => w5 = w' ∧ st = thenK (rs.map ExtR.d) next i) ?_ ?_
    · rw [w64 (by omega) (by omega)]
      refine Br.dec (fun h1 => ?_) fun h1 => ⟨rfl, ?_⟩
      · rw [show ((i : Int) + 1) = ((i + 1 : Nat) : Int) by omega]
        refine (hX.ext (H.restOf 0 rfl)).idx rfl (by omega) fun a1 p hp hpc _ _ => ⟨p.v.kind, by simpa [add_zero] using hpc.1, rfl, ?_⟩
        rw [thenK_map, hp]
      · rw [thenK_map, List.getElem?_eq_none (by rw [hX.len]; omega)]
    rintro _ _ ⟨rfl, rfl⟩
    unfold weirref7_headers_J15655
    have e8 : Int.tdiv ((bodyS r.d).1.length : Int) 8 = (((bodyS r.d).1.length / 8 : Nat) : Int) := tdiv_nat _ 8
    rw [e8, u8_eq (thenK _ _ _), w64 (by omega) (by omega), wu8 (by omega) (by omega), w64 (by omega) (by omega)]
    refine NewVC.sep H fun g2 w6 H => ?_
    refine appB H 1 rfl (m := 2) (ys := [thenK (rs.map ExtR.d) next i % 256, (((bodyS r.d).1.length / 8 : Nat) : Int)]) (by simpa using Cells.of_blk (H.blk 3 rfl) 0) rfl (by omega) (H.restOf 0 rfl).size fun A2 c2 w7 H7 _ => ?_
    refine appB H7 1 rfl (ys := (bodyS r.d).1) (H7.seen (H7.restOf 0 rfl) 2 rfl) rfl (by omega) (H7.restOf 0 rfl).size fun A3 c3 w8 H _ => ?_
    refine ⟨⟨i + 1, _, by show (i : Int) + 1 = _; omega, by omega, ?_, H.take 2⟩, by show ((s.n : Int) - ((i : Int) + 1)).toNat < ((s.n : Int) - (i : Int)).toNat; omega⟩
    rw [hstep]
    simp
  · have hin : i = s.n := by omega
    subst hin
    refine Made.ok (out := out) ?_ H
    unfold headersS; rw [hl, if_neg (by omega), hf]
end
end N6
end Go.Proofs.YthhgbpmihhljdaaGreatDoor
/- Chapter 7, writing: what a fragment may be, and the fixed fields, both programs. -/
namespace Go.Proofs.YthhgbpmihhljdaaGreatDoor
namespace N6
open Go.Eng Go.RowKit
section
variable {w : World} {Γ : List Fct} {b n c m : Nat} {A : Option Addr} {xs ys : List Int}
theorem fits_spec {f : FragV} {k : Nat} (hk : k ≤ 4000000) (hoff : 0 ≤ f.off ∧ f.off ≤ 65528) : Calls Tryz.prog 84 #[f.val, .int .i64 k] w fun e w' => Ext w w' ∧ e = .returned (.bool (fitsS f k)) := by
  refine ip6_fits_of f k w _ ?_
  unfold ip6_fits_VC
  refine NewVC.sep (Sep.start0 w) fun g1 w1 H => ?_
  have hE := H.restOf 0 rfl
  have e8 : Int.tmod (k : Int) 8 = ((k % 8 : Nat) : Int) := tmod_nat _ 8
  have last : ¬ (f.more = true ∧ (k = 0 ∨ k % 8 ≠ 0)) → ¬ (0 < f.off ∧ k = 0) → decide (IntKind.i64.wrap (f.off + (k : Int)) ≤ 65535) = fitsS f k := fun h1 h2 => by
    rw [w64 (by omega) (by omega)]
    unfold fitsS
    by_cases h3 : f.off + (k : Int) ≤ 65535
    · rw [decide_eq_true h3, decide_eq_true ⟨fun h => h.elim h1 h2, h3⟩]
    · rw [decide_eq_false h3, decide_eq_false fun h => h3 h.2]
  have no : (f.more = true ∧ (k = 0 ∨ k % 8 ≠ 0)) ∨ (0 < f.off ∧ k = 0) → (false = fitsS f k) := fun h => by
    unfold fitsS; rw [decide_eq_false fun x => x.1 h]
  refine ⟨_, H.cell 1 rfl 1 rfl, ?_⟩
  rw [e8]
  cases hm : f.more with
  | true =>
    refine Br.t rfl (Br.dec (fun h0 => ⟨hE, by rw [no (.inl ⟨hm, .inl (by omega)⟩)]⟩) fun h0 => Br.dec (fun h6 => ⟨hE, by rw [no (.inl ⟨hm, .inr (by omega)⟩)]⟩) fun h6 => ⟨_, H.cell 1 rfl 3 rfl, ?_⟩)
    have l1 : ¬ (f.more = true ∧ (k = 0 ∨ k % 8 ≠ 0)) := fun h => by rcases h.2 with h | h <;> omega
    refine Br.dec (fun hp => Br.no h0 ⟨_, H.cell 1 rfl 3 rfl, hE, by rw [last l1 (by omega)]⟩) fun hp => ⟨_, H.cell 1 rfl 3 rfl, hE, by rw [last l1 (by omega)]⟩
  | false =>
    have l1 : ¬ (f.more = true ∧ (k = 0 ∨ k % 8 ≠ 0)) := fun h => by rw [hm] at h; cases h.1
    refine Br.f rfl ⟨_, H.cell 1 rfl 3 rfl, Br.dec (fun hp => Br.dec (fun h0 => ⟨hE, by rw [no (.inr ⟨hp, by omega⟩)]⟩) fun h0 => ⟨_, H.cell 1 rfl 3 rfl, hE, by rw [last l1 (by omega)]⟩) fun hp => ⟨_, H.cell 1 rfl 3 rfl, hE, by rw [last l1 (by omega)]⟩⟩
theorem piece_spec {f : FragV} {k : Nat} (hk : k ≤ 4000000) (hoff : 0 ≤ f.off ∧ f.off ≤ 65528) : Calls Tryz.prog 82 #[.int .i64 f.off, .bool f.more, .int .i64 k] w fun e w' => w = w' ∧ e = .returned (.bool (fitsS f k)) := by
  refine weirref7_piece_of f.off f.more k w _ ?_
  unfold weirref7_piece_VC
  have e8 : Int.tmod (k : Int) 8 = ((k % 8 : Nat) : Int) := tmod_nat _ 8
  have no : (f.more = true ∧ (k = 0 ∨ k % 8 ≠ 0)) ∨ (0 < f.off ∧ k = 0) → (false = fitsS f k) := fun h => by
    unfold fitsS; rw [decide_eq_false fun x => x.1 h]
  refine JoinVC.of (fun _ w' => w = w' ∧ ¬ (f.more = true ∧ (k = 0 ∨ k % 8 ≠ 0))) ?_ ?_
  · rw [e8]
    cases hm : f.more with
    | true => exact Br.t rfl (Br.dec (fun h0 => ⟨rfl, by rw [no (.inl ⟨hm, .inl (by omega)⟩)]⟩) fun h0 => Br.dec (fun h6 => ⟨rfl, by rw [no (.inl ⟨hm, .inr (by omega)⟩)]⟩) fun h6 => ⟨rfl, fun h => by rcases h.2 with h | h <;> omega⟩)
    | false => exact Br.f rfl ⟨rfl, fun h => by cases h.1⟩
  rintro _ _ ⟨rfl, l1⟩
  unfold weirref7_piece_J3
  have last : ¬ (0 < f.off ∧ k = 0) → decide (IntKind.i64.wrap (f.off + (k : Int)) ≤ 65535) = fitsS f k := fun h2 => by
    rw [w64 (by omega) (by omega)]
    unfold fitsS
    by_cases h3 : f.off + (k : Int) ≤ 65535
    · rw [decide_eq_true h3, decide_eq_true ⟨fun h => h.elim l1 h2, h3⟩]
    · rw [decide_eq_false h3, decide_eq_false fun h => h3 h.2]
  refine Br.dec (fun h0 => ⟨rfl, by rw [last (by omega)]⟩) fun h0 => Br.dec (fun h1 => ⟨rfl, by rw [last (by omega)]⟩) fun h1 => ⟨rfl, by rw [no (.inr ⟨by omega, by omega⟩)]⟩
theorem upper_spec {k : Int} : Calls Tryz.prog 43 #[.int .i64 k] w fun e w' => w = w' ∧ e = .returned (.bool (upperS k)) := by
  refine weirref7_upper_of k w _ ?_
  unfold weirref7_upper_VC
  have no : ¬ (k ≠ 0 ∧ k ≠ 43 ∧ k ≠ 44 ∧ k ≠ 60) → false = upperS k := fun h => by unfold upperS; rw [decide_eq_false h]
  refine Br.dec (fun h0 => Br.dec (fun h1 => Br.dec (fun h2 => ⟨rfl, ?_⟩) fun h2 => ⟨rfl, by rw [no (by omega)]⟩) fun h1 => ⟨rfl, by rw [no (by omega)]⟩) fun h0 => ⟨rfl, by rw [no (by omega)]⟩
  unfold upperS
  by_cases h : k = 60
  · rw [decide_eq_false (by omega), decide_eq_false (by omega)]
  · rw [decide_eq_true (by omega), decide_eq_true (by omega)]
theorem sort_upper (k : Int) : sortS k = 0 ↔ upperS k = true := by
  unfold sortS upperS
  by_cases h0 : k = 0 ∨ k = 60
  · rw [if_pos h0, decide_eq_false (by omega)]; simp
  · rw [if_neg h0]
    by_cases h1 : k = 43
    · rw [if_pos h1, decide_eq_false (by omega)]; simp
    · rw [if_neg h1]
      by_cases h2 : k = 44
      · rw [if_pos h2, decide_eq_false (by omega)]; simp
      · rw [if_neg h2, decide_eq_true (by omega)]; simp
theorem FragV.beq_z (f : FragV) : FragV.beq f FragV.z = decide (f.has = false ∧ f.more = false ∧ f.id = 0 ∧ f.off = 0) := by
  unfold FragV.beq FragV.z
  cases f.has <;> cases f.more <;> simp [Bool.decide_and]
set_option maxHeartbeats 1000000 in
theorem fragged_spec {h : Ip6V} {es : List ExtR} {data : List Int} (hD : BytesAt w h.data data) (hK : Kn w) : Calls Tryz.prog 71 #[h.val] w fun e w' => Ext w w' ∧ e = .returned (.int .i64 (fragE (h.d es data))) := by
  refine ip6_fragged_of h w _ ?_
  unfold ip6_fragged_VC
  have hdl := hD.len
  have hds := hD.small
  have fr : (h.d es data).frag = h.frag := rfl
  have dt : (h.d es data).data = data := rfl
  have nx : (h.d es data).next = h.next := rfl
  refine NewVC.sep (Sep.start0 w) fun g1 w1 H => ?_
  have hfr : CellsAt w1 ⟨g1, 38, none⟩ 0 h.frag.cells := ⟨H.cell 1 rfl 38 rfl, H.cell 1 rfl 39 rfl, H.cell 1 rfl 40 rfl, H.cell 1 rfl 41 rfl, trivial⟩
  refine FragV.of h.frag ⟨hfr, ?_⟩
  refine NewVC.sep H fun g2 w2 H => ?_
  refine Stores.sep H 2 rfl h.frag.one (Nat.le_refl 4) (splice_all rfl) fun w3 H => ?_
  refine JoinVC.of (fun st w' => w3 = w' ∧ st = decide (h.frag.has = false ∧ (h.frag.more = true ∨ h.frag.id ≠ 0 ∨ h.frag.off ≠ 0))) ?_ ?_
  · refine ⟨_, H.cell 2 rfl 0 rfl, ?_⟩
    cases hh : h.frag.has with
    | true => exact Br.f rfl ⟨rfl, by rw [decide_eq_false fun x => by cases x.1]⟩
    | false =>
      refine Br.t rfl (FragV.of h.frag ⟨H.at 2 rfl, rfl, ?_⟩)
      rw [FragV.beq_z, hh]
      cases h.frag.more <;> simp
  rintro st _ ⟨rfl, rfl⟩
  unfold ip6_fragged_J28
  refine Br.dec (fun hb => ⟨H.restOf 0 rfl, ?_⟩) fun hok => ?_
  · unfold fragE; rw [fr, if_neg (by rw [hb.1]; decide), if_pos hb.2]
  refine JoinVC.of (fun st w' => Sep [Fct.rest w None, Fct.blk g1 30 h.cells, Fct.blk g2 27 h.frag.cells] w' ∧ st = decide (h.frag.has = false ∧ upperS h.next = false)) ?_ ?_
  · refine ⟨_, H.cell 2 rfl 0 rfl, ?_⟩
    cases hh : h.frag.has with
    | true => exact Br.f rfl ⟨H, by rw [decide_eq_false fun x => by cases x.1]⟩
    | false =>
      refine Br.t rfl ⟨_, H.cell 1 rfl 42 rfl, ?_⟩
      refine (sort_spec (hK.ext (H.restOf 0 rfl))).mono ?_
      rintro _ w4 ⟨hE4, rfl⟩
      refine ⟨_, rfl, H.ext hE4, ?_⟩
      have := sort_upper h.next
      cases hu : upperS h.next with
      | true => rw [decide_eq_false (show ¬ (sortS h.next ≠ 0) from fun x => x (this.2 hu)), decide_eq_false (by simp)]
      | false => rw [decide_eq_true (show sortS h.next ≠ 0 from fun x => by rw [this.1 x] at hu; cases hu), decide_eq_true (by simp)]
  rintro st w4 ⟨H, rfl⟩
  unfold ip6_fragged_J115
  refine Br.dec (fun hb => ⟨H.restOf 0 rfl, ?_⟩) fun hok2 => ⟨_, H.cell 2 rfl 0 rfl, ?_⟩
  · unfold fragE; rw [fr, nx, if_neg (by rw [hb.1]; decide), if_neg (fun x => hok ⟨hb.1, x⟩), if_neg (by rw [hb.2]; decide)]
  cases hh : h.frag.has with
  | false =>
    refine Br.t rfl ⟨H.restOf 0 rfl, ?_⟩
    unfold fragE
    rw [fr, nx, if_neg (by rw [hh]; decide), if_neg (fun x => hok ⟨hh, x⟩), if_pos (by cases hu : upperS h.next with
      | true => rfl
      | false => exact absurd ⟨hh, hu⟩ hok2)]
  | true =>
    have bad : (h.frag.id < 0 ∨ 4294967295 < h.frag.id ∨ h.frag.off < 0 ∨ h.frag.off % 8 ≠ 0 ∨ 65528 < h.frag.off ∨ fitsS h.frag data.length = false) → ∀ {w'}, Ext w w' → (Ext w w' ∧ Ending.returned (.int .i64 76) = .returned (.int .i64 (fragE (h.d es data)))) := fun hb w' hE => ⟨hE, by
      unfold fragE; rw [fr, dt, if_pos hh, if_pos hb]⟩
    have hE := H.restOf 0 rfl
    refine Br.f rfl ⟨_, H.cell 2 rfl 2 rfl, Br.dec (fun h1 => bad (by omega) hE) fun h1 => ⟨_, H.cell 2 rfl 2 rfl, Br.dec (fun h2 => bad (by omega) hE) fun h2 => ⟨_, H.cell 2 rfl 3 rfl, Br.dec (fun h3 => bad (by omega) hE) fun h3 => ⟨_, H.cell 2 rfl 3 rfl, ?_⟩⟩⟩⟩
    rw [Int.tmod_eq_emod_of_nonneg (by omega)]
    refine Br.dec (fun h4 => bad (by omega) hE) fun h4 => ⟨_, H.cell 2 rfl 3 rfl, Br.dec (fun h5 => bad (by omega) hE) fun h5 => FragV.of h.frag ⟨H.at 2 rfl, _, _, _, H.cell 1 rfl 43 rfl, ?_⟩⟩
    refine (fits_spec hds (by omega)).mono ?_
    rintro _ w5 ⟨hE5, rfl⟩
    refine ⟨_, rfl, ?_⟩
    cases hf : fitsS h.frag h.data.n with
    | false => exact Br.t rfl (bad (by rw [hdl, hf]; simp) (hE.ext hE5))
    | true =>
      refine Br.f rfl ⟨hE.ext hE5, ?_⟩
      unfold fragE
      rw [fr, dt, if_pos hh, if_neg (by rw [hdl, hf]; simp; omega)]
theorem refOut_spec {k hi : Int} : Calls Tryz.prog 41 #[.int .i64 k, .int .i64 hi] w fun e w' => w = w' ∧ e = .returned (.bool (decide (k < 0 ∨ hi < k))) := by
  refine weirref7_out_of k hi w _ ?_
  unfold weirref7_out_VC
  refine Br.dec (fun h => ⟨rfl, by rw [decide_eq_true (.inl h)]⟩) fun h => ⟨rfl, ?_⟩
  by_cases h2 : hi < k
  · rw [decide_eq_true h2, decide_eq_true (.inr h2)]
  · rw [decide_eq_false h2, decide_eq_false (by omega)]
theorem refSix_spec {p : IPV} : Calls Tryz.prog 44 #[p.val] w fun e w' => Ext w w' ∧ e = .returned (.bool (decide (p.v = 6))) := by
  refine weirref7_six_of p w _ ?_
  unfold weirref7_six_VC
  exact NewVC.sep (Sep.start0 w) fun g1 w1 H => ⟨_, H.cell 1 rfl 0 rfl, H.restOf 0 rfl, rfl⟩
theorem behind_spec {h : Ip6V} {es : List ExtR} {data : List Int} : Calls Tryz.prog 65 #[h.val] w fun e w' => Ext w w' ∧ e = .returned (.int .i64 (behindK (h.d es data))) := by
  refine weirref7_behind_of h w _ ?_
  unfold weirref7_behind_VC
  refine NewVC.sep (Sep.start0 w) fun g1 w1 H => ⟨_, H.cell 1 rfl 38 rfl, ?_⟩
  have fr : (h.d es data).frag = h.frag := rfl
  have dt : (h.d es data).data = data := rfl
  cases hh : h.frag.has with
  | true => exact Br.t rfl ⟨H.restOf 0 rfl, by unfold behindK; rw [fr, if_pos hh]⟩
  | false => exact Br.f rfl ⟨_, H.cell 1 rfl 42 rfl, H.restOf 0 rfl, by unfold behindK; rw [fr, if_neg (by rw [hh]; decide)]; rfl⟩
theorem firstK_nil {h : Ip6V} {es : List ExtR} {data : List Int} (h0 : es = []) : firstK (h.d es data) = behindK (h.d es data) := by
  subst h0; rfl
theorem firstK_cons {h : Ip6V} {es : List ExtR} {data : List Int} {r : ExtR} (h0 : es[0]? = some r) : firstK (h.d es data) = r.v.kind := by
  cases es with
  | nil => simp at h0
  | cons a l => simp at h0; subst h0; rfl
theorem first_spec {h : Ip6V} {es : List ExtR} {data : List Int} (hX : ExtsAt w h.exts es) : Calls Tryz.prog 47 #[h.val] w fun e w' => Ext w w' ∧ e = .returned (.int .i64 (firstK (h.d es data))) := by
  refine weirref7_first_of h w _ ?_
  unfold weirref7_first_VC
  have hl := hX.len
  refine NewVC.sep (Sep.start0 w) fun g1 w1 H => ⟨_, _, _, H.cell 1 rfl 37 rfl, Br.dec (fun h0 => ⟨_, _, _, H.cell 1 rfl 37 rfl, ?_⟩) fun h0 => Ip6V.of h ⟨H.at 1 rfl, ?_⟩⟩
  · refine (hX.ext (H.restOf 0 rfl)).idx (i := 0) rfl (by omega) fun a r hr hc _ _ => ⟨r.v.kind, by simpa [add_zero] using hc.1, H.restOf 0 rfl, ?_⟩
    rw [firstK_cons hr]
  · refine (behind_spec (es := es) (data := data)).mono ?_
    rintro _ w2 ⟨hE2, rfl⟩
    exact ⟨_, rfl, (H.restOf 0 rfl).ext hE2, by rw [firstK_nil (List.eq_nil_of_length_eq_zero (by omega))]⟩
set_option maxHeartbeats 1000000 in
theorem refFrag_spec {h : Ip6V} {es : List ExtR} {data : List Int} (hD : BytesAt w h.data data) : Calls Tryz.prog 66 #[h.val] w fun e w' => Ext w w' ∧ e = .returned (.int .i64 (fragE (h.d es data))) := by
  refine weirref7_frag_of h w _ ?_
  unfold weirref7_frag_VC
  have hdl := hD.len
  have hds := hD.small
  have fr : (h.d es data).frag = h.frag := rfl
  have dt : (h.d es data).data = data := rfl
  have nx : (h.d es data).next = h.next := rfl
  refine NewVC.sep (Sep.start0 w) fun g1 w1 H => ?_
  have hfr : CellsAt w1 ⟨g1, 38, none⟩ 0 h.frag.cells := ⟨H.cell 1 rfl 38 rfl, H.cell 1 rfl 39 rfl, H.cell 1 rfl 40 rfl, H.cell 1 rfl 41 rfl, trivial⟩
  refine FragV.of h.frag ⟨hfr, ?_⟩
  refine NewVC.sep H fun g2 w2 H => ?_
  refine Stores.sep H 2 rfl h.frag.one (Nat.le_refl 4) (splice_all rfl) fun w3 H => ⟨_, H.cell 2 rfl 0 rfl, ?_⟩
  have hE := H.restOf 0 rfl
  cases hh : h.frag.has with
  | false =>
    refine Br.t rfl ⟨_, H.cell 2 rfl 1 rfl, ?_⟩
    have bad : (h.frag.more = true ∨ h.frag.id ≠ 0 ∨ h.frag.off ≠ 0) → (Ext w w3 ∧ Ending.returned (.int .i64 76) = .returned (.int .i64 (fragE (h.d es data)))) := fun hb => ⟨hE, by
      unfold fragE; rw [fr, if_neg (by rw [hh]; decide), if_pos hb]⟩
    cases hm : h.frag.more with
    | true => exact Br.t rfl (bad (.inl hm))
    | false =>
      refine Br.f rfl ⟨_, H.cell 2 rfl 2 rfl, Br.dec (fun h1 => bad (.inr (.inl h1))) fun h1 => ⟨_, H.cell 2 rfl 3 rfl, Br.dec (fun h2 => bad (.inr (.inr h2))) fun h2 => ⟨_, H.cell 1 rfl 42 rfl, ?_⟩⟩⟩
      refine upper_spec.mono ?_
      rintro _ _ ⟨rfl, rfl⟩
      refine ⟨_, rfl, ?_⟩
      have ef : fragE (h.d es data) = if upperS h.next = true then 0 else 72 := by
        unfold fragE; rw [fr, nx, if_neg (by rw [hh]; decide), if_neg (by rw [hm]; simp; omega)]
      rw [ef]
      cases hu : upperS h.next with
      | true => exact Br.f rfl ⟨hE, rfl⟩
      | false => exact Br.t rfl ⟨hE, rfl⟩
  | true =>
    have bad : (h.frag.id < 0 ∨ 4294967295 < h.frag.id ∨ h.frag.off < 0 ∨ h.frag.off % 8 ≠ 0 ∨ 65528 < h.frag.off ∨ fitsS h.frag data.length = false) → (Ext w w3 ∧ Ending.returned (.int .i64 76) = .returned (.int .i64 (fragE (h.d es data)))) := fun hb => ⟨hE, by
      unfold fragE; rw [fr, dt, if_pos hh, if_pos hb]⟩
    refine Br.f rfl ⟨_, H.cell 2 rfl 2 rfl, ?_⟩
    refine refOut_spec.mono ?_
    rintro _ _ ⟨rfl, rfl⟩
    refine ⟨_, rfl, Br.dec (fun h1 => bad (by omega)) fun h1 => ⟨_, H.cell 2 rfl 3 rfl, ?_⟩⟩
    refine refOut_spec.mono ?_
    rintro _ _ ⟨rfl, rfl⟩
    refine ⟨_, rfl, Br.dec (fun h2 => bad (by omega)) fun h2 => ⟨_, H.cell 2 rfl 3 rfl, ?_⟩⟩
    rw [Int.tmod_eq_emod_of_nonneg (by omega)]
    refine Br.dec (fun h3 => bad (by omega)) fun h3 => ⟨_, H.cell 2 rfl 3 rfl, _, H.cell 2 rfl 1 rfl, _, _, _, H.cell 1 rfl 43 rfl, ?_⟩
    refine (piece_spec (f := h.frag) hds (by omega)).mono ?_
    rintro _ _ ⟨rfl, rfl⟩
    refine ⟨_, rfl, ?_⟩
    cases hf : fitsS h.frag h.data.n with
    | false => exact Br.t rfl (bad (by rw [hdl, hf]; simp))
    | true =>
      refine Br.f rfl ⟨hE, ?_⟩
      unfold fragE
      rw [fr, dt, if_pos hh, if_neg (by rw [hdl, hf]; simp; omega)]
theorem valid_spec {p : IPV} (h6 : p.v = 6) : Calls Tryz.prog 83 #[p.val] w fun e w' => Ext w w' ∧ e = .returned (.bool true) := by
  refine addr_Valid_of p w _ ?_
  unfold addr_Valid_VC
  refine NewVC.sep (Sep.start0 w) fun g1 w1 H => IPV.of p ⟨H.at 1 rfl, ?_⟩
  refine addr_size_of p w1 _ ?_
  unfold addr_size_VC
  refine NewVC.sep H fun g2 w2 H => ⟨_, H.cell 2 rfl 0 rfl, Br.yes h6 ?_⟩
  exact ⟨_, rfl, H.restOf 0 rfl, rfl⟩
set_option maxHeartbeats 1000000 in
theorem sized_spec {h : Ip6V} {es : List ExtR} {data : List Int} : Calls Tryz.prog 70 #[h.val] w fun e w' => Ext w w' ∧ e = .returned (.int .i64 (if fieldBad (h.d es data) then 78 else 0)) := by
  refine ip6_sized_of h w _ ?_
  unfold ip6_sized_VC
  have bad : fieldBad (h.d es data) → ∀ {w'}, Ext w w' → (Ext w w' ∧ Ending.returned (.int .i64 78) = .returned (.int .i64 (if fieldBad (h.d es data) then 78 else 0))) := fun hb w' hE => ⟨hE, by rw [if_pos hb]⟩
  have fb : fieldBad (h.d es data) ↔ (h.cls < 0 ∨ 255 < h.cls ∨ h.flow < 0 ∨ 1048575 < h.flow ∨ h.hop < 0 ∨ 255 < h.hop ∨ h.src.v ≠ 6 ∨ h.dst.v ≠ 6 ∨ h.next < 0 ∨ 255 < h.next) := Iff.rfl
  refine NewVC.sep (Sep.start0 w) fun g1 w1 H => ?_
  have ips : ∀ {w'}, Blk w' g1 30 h.cells → CellsAt w' ⟨g1, 3, none⟩ 0 h.src.cells := fun hb => ⟨hb.cell 3, hb.cell 4, hb.cell 5, hb.cell 6, hb.cell 7, hb.cell 8, hb.cell 9, hb.cell 10, hb.cell 11, hb.cell 12, hb.cell 13, hb.cell 14, hb.cell 15, hb.cell 16, hb.cell 17, hb.cell 18, hb.cell 19, trivial⟩
  have ipd : ∀ {w'}, Blk w' g1 30 h.cells → CellsAt w' ⟨g1, 20, none⟩ 0 h.dst.cells := fun hb => ⟨hb.cell 20, hb.cell 21, hb.cell 22, hb.cell 23, hb.cell 24, hb.cell 25, hb.cell 26, hb.cell 27, hb.cell 28, hb.cell 29, hb.cell 30, hb.cell 31, hb.cell 32, hb.cell 33, hb.cell 34, hb.cell 35, hb.cell 36, trivial⟩
  refine JoinVC.of (fun st w' => Sep [Fct.rest w None, Fct.blk g1 30 h.cells] w' ∧ st = decide (h.src.v = 6 ∧ h.dst.v = 6)) ?_ ?_
  · refine ⟨_, H.cell 1 rfl 3 rfl, Br.dec (fun h1 => ⟨_, H.cell 1 rfl 20 rfl, Br.dec (fun h2 => ?_) fun h2 => ⟨H, by rw [decide_eq_false fun x => h2 x.2]⟩⟩) fun h1 => ⟨H, by rw [decide_eq_false fun x => h1 x.1]⟩⟩
    refine IPV.of h.src ⟨ips (H.blk 1 rfl), ?_⟩
    refine (valid_spec h1).mono ?_
    rintro _ w2 ⟨hE2, rfl⟩
    have H := H.ext hE2
    refine ⟨_, rfl, Br.t rfl (IPV.of h.dst ⟨ipd (H.blk 1 rfl), ?_⟩)⟩
    refine (valid_spec h2).mono ?_
    rintro _ w3 ⟨hE3, rfl⟩
    exact ⟨_, rfl, H.ext hE3, by rw [decide_eq_true ⟨h1, h2⟩]⟩
  rintro st w4 ⟨H, rfl⟩
  unfold ip6_sized_J3
  have hE := H.restOf 0 rfl
  by_cases h6 : h.src.v = 6 ∧ h.dst.v = 6
  · rw [decide_eq_true h6]
    refine Br.f rfl ⟨_, H.cell 1 rfl 0 rfl, Br.dec (fun h1 => bad (fb.2 (by omega)) hE) fun h1 => ⟨_, H.cell 1 rfl 0 rfl, Br.dec (fun h2 => bad (fb.2 (by omega)) hE) fun h2 => ⟨_, H.cell 1 rfl 1 rfl, Br.dec (fun h3 => bad (fb.2 (by omega)) hE) fun h3 => ⟨_, H.cell 1 rfl 1 rfl, Br.dec (fun h4 => bad (fb.2 (by omega)) hE) fun h4 => ⟨_, H.cell 1 rfl 2 rfl, Br.dec (fun h5 => bad (fb.2 (by omega)) hE) fun h5 => ⟨_, H.cell 1 rfl 2 rfl, Br.dec (fun h7 => bad (fb.2 (by omega)) hE) fun h7 => ⟨_, H.cell 1 rfl 42 rfl, Br.dec (fun h8 => bad (fb.2 (by omega)) hE) fun h8 => ⟨_, H.cell 1 rfl 42 rfl, Br.dec (fun h9 => bad (fb.2 (by omega)) hE) fun h9 => ⟨hE, ?_⟩⟩⟩⟩⟩⟩⟩⟩⟩
    rw [if_neg (fun x => by have := fb.1 x; omega)]
  · rw [decide_eq_false h6]
    exact Br.t rfl (bad (fb.2 (by omega)) hE)
end
end N6
end Go.Proofs.YthhgbpmihhljdaaGreatDoor
