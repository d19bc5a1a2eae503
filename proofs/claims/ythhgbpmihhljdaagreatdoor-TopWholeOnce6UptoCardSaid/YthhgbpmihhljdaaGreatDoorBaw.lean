/- Chapter 13, the program's: copies of headers; how many are kept; PutChain, Size, Check, how long options are. -/
import Derived.Test.YthhgbpmihhljdaaGreatDoorBav
namespace Go.Eng
theorem last43_at {l : List ExtD} {i : Nat} {x : ExtD} (h : l[i]? = some x) (hx : x.kind = 43) (hn : ∀ j y, i < j → l[j]? = some y → y.kind ≠ 43) : last43 l = i + 1 := by
  induction l generalizing i with
  | nil => simp at h
  | cons y r ih =>
    cases i with
    | zero =>
      simp at h; subst h
      have h0 : last43 r = 0 := by
        have : ∀ (r : List ExtD), (∀ y ∈ r, y.kind ≠ 43) → last43 r = 0 := by
          intro r
          induction r with
          | nil => intro _; rfl
          | cons z r ih =>
            intro hz
            unfold last43
            rw [ih fun y hy => hz y (by simp [hy]), if_neg (by omega), if_neg (hz z (by simp))]
        refine this r fun z hz => ?_
        obtain ⟨j, hj⟩ := List.mem_iff_getElem?.1 hz
        exact hn (j + 1) z (by omega) (by simpa using hj)
      unfold last43
      rw [h0, if_neg (by omega), if_pos hx]
    | succ i =>
      have := ih (i := i) (by simpa using h) fun j y hj hy => hn (j + 1) y (by omega) (by simpa using hy)
      unfold last43
      rw [this, if_pos (by omega)]
theorem last43_none {l : List ExtD} (h : ∀ x ∈ l, x.kind ≠ 43) : last43 l = 0 := by
  induction l with
  | nil => rfl
  | cons z r ih =>
    unfold last43
    rw [ih fun y hy => h y (by simp [hy]), if_neg (by omega), if_neg (h z (by simp))]
def putChainS (l : List ExtD) (next : Int) : List Int × Int :=
  if next < 0 ∨ 255 < next then ([], 1) else if (headersS l next false).2 ≠ 0 then ([], (headersS l next false).2) else if upperS next = true then ((headersS l next false).1, 0) else ([], 72)
end Go.Eng
namespace Go.Proofs.YthhgbpmihhljdaaGreatDoor
namespace N6
open Go.Eng Go.RowKit
section
variable {w : World} {Γ : List Fct}
theorem appE (H : Sep Γ w) (i : Nat) {b n c : Nat} {A A' : Option Addr} {xs : List Value} {o : ExtV} {c' : Nat} (hi : Γ[i]? = some (Fct.own b 56 3 (.slice A n c) n xs)) (hs : Cells w A' o.cells) (hn : n ≤ 1000000000) (hb : b ≤ w.heap.size)
    {F : Option Addr → Nat → Nat → World → Prop} (h : ∀ A2 c2 w', Sep (Γ.set i (Fct.own b 56 3 (.slice A2 (n + 1) c2) (n + 1) (xs ++ o.cells))) w' → n + 1 ≤ c2 → F A2 (n + 1) c2 w') :
    AppVC Tryz.prog #[25, 25] 25 (.slice A n c) (.slice A' 1 c') w F :=
  AppVC.sep H i Tryz.underlying25 tE rfl (by decide) hi hs rfl o.one (by omega) (by decide) hb h
theorem keep_all (l : List OptD) : l.filter (keepO false) = l := List.filter_eq_self.2 fun _ _ => rfl
set_option maxHeartbeats 1000000 in
theorem exts_spec {s : Sl} {rs : List ExtR} (hX : ExtsAt w s rs) : Calls Tryz.prog 21 #[s.val] w fun e w' => ∃ (s' : Sl) (rs' : List ExtR), e = .returned s'.val ∧
    rs'.map ExtR.d = rs.map ExtR.d ∧ ExtsFine s' rs' ∧ Sep (Fct.rest w None :: extFs w.heap.size s' rs') w' := by
  refine split_exts_of s.A s.n s.k w _ ?_
  unfold split_exts_VC
  have hl := hX.len
  have hsm := hX.small
  refine LoopVC.of (fun st w' => ∃ (i : Nat) (rs' : List ExtR), st.2 = i ∧ i ≤ s.n ∧ rs'.map ExtR.d = (rs.take i).map ExtR.d ∧ ExtsFine ⟨st.1.1, st.1.2.1, st.1.2.2⟩ rs' ∧ st.1.2.1 = i ∧
      Sep (Fct.rest w None :: extFs w.heap.size ⟨st.1.1, st.1.2.1, st.1.2.2⟩ rs') w') (fun st _ => ((s.n : Int) - st.2).toNat)
    ⟨0, [], rfl, Nat.zero_le _, rfl, ⟨rfl, Nat.zero_le _, (fun r hr => by cases hr), fun r hr => by cases hr⟩, rfl, (Sep.start0 w).nil _ _ _⟩ ?_
  rintro ⟨⟨A1, n1, c1⟩, _⟩ w1 ⟨i, rs', rfl, hi, hd, hf, hn1, H⟩
  simp only at hn1
  show split_exts_L58 _ s.A s.n A1 n1 c1 (i : Int) w1 _
  unfold split_exts_L58
  refine Br.dec (fun hlt => ?_) fun hge => ?_
  · have hlt : i < s.n := by omega
    refine (hX.ext H.start1).idx rfl hlt fun a r hr hc _ _ => ExtV.of r.v ⟨hc, ?_⟩
    have hrm := List.mem_of_getElem? hr
    have htake : rs.take (i + 1) = rs.take i ++ [r] := by rw [List.take_add_one, hr]; rfl
    have hi1 : IntKind.i64.wrap ((i : Int) + 1) = ((i + 1 : Nat) : Int) := by rw [w64 (by omega) (by omega)]; omega
    refine NewVC.sep H fun g1 w2 H => ?_
    have H := H.front
    refine Stores.sep H 0 rfl (ExtV.one _) (Nat.le_refl _) (splice_all rfl) fun w3 H => ?_
    refine DrawVC.sep H (fun w' => Blk w' g1 56 r.v.cells) fun w4 H => ⟨H.blk 0 rfl, _, fun w' hb => hb.cell 0, _, _, _, fun w' hb => hb.cell 1, _, _, _, fun w' hb => hb.cell 2, ?_⟩
    have hz4 := (H.restOf 1 rfl).size
    refine (options_spec (s := r.v.opts) (rs := r.opts) (copied := false) ((hX.opts r hrm).ext (H.restOf 1 rfl))).mono ?_
    rintro _ w5 ⟨so, os', rfl, hod, hof, H5⟩
    rw [keep_all] at hod
    have H5 := (AllLe.append (AllLe.refl [Fct.rest w4 None]) (optFs_less hz4)).sep H5
    have H := H.mades H5
    have hz5 := (H.restOf 1 rfl).size
    refine ⟨_, _, _, rfl, H.blk 0 rfl, ?_⟩
    refine (clone_spec (s := r.v.data) (l := r.data) ((hX.data r hrm).ext (H.restOf 1 rfl))).mono ?_
    rintro _ w6 ⟨sd, rfl, hB, hn, H6⟩
    have H6 := H6.lower 1 rfl hz5
    have H := H.made H6
    refine ⟨_, _, _, rfl, H.blk 0 rfl, NewVC.sep H fun g2 w7 H => ⟨H.front.blk 1 rfl, ?_⟩⟩
    have H := H.front
    have hz7 := (H.restOf 2 rfl).size
    refine appE (o := ⟨r.v.kind, so, sd⟩) H 3 rfl (Cells.blk0 (H.blk 0 rfl)) (show n1 ≤ 1000000000 by omega) (by omega) fun A2 c2 w8 H hc2 => ⟨H.blk 1 rfl, ⟨i + 1, rs' ++ [⟨⟨r.v.kind, so, sd⟩, os', r.data⟩], hi1, by omega, ?_, ⟨?_, by simp only; omega, ?_, ?_⟩, by simp only; omega, ?_⟩, by simp only [hi1]; omega⟩
    · rw [htake, List.map_append, List.map_append, hd]
      simp only [List.map_cons, List.map_nil, ExtR.d, hod]
    · have := hf.len; simp at this ⊢; omega
    · intro x hx
      rcases List.mem_append.1 hx with hx | hx
      · exact hf.opts x hx
      · simp at hx; subst hx; exact hof
    · intro x hx
      rcases List.mem_append.1 hx with hx | hx
      · exact hf.data x hx
      · simp at hx; subst hx; exact hB
    · have H := H.tail.tail
      simp only [extFs, rowE, extF, List.map_append, List.flatten_append, List.map_cons, List.map_nil, List.flatten_cons, List.flatten_nil, List.append_nil, List.flatMap_append, List.flatMap_cons, List.flatMap_nil, ← List.append_assoc]
      exact H
  · have hin : i = s.n := by omega
    exact ⟨⟨A1, n1, c1⟩, rs', rfl, by rw [hd, hin, ← hl, List.take_length], hf, H⟩
theorem kept_spec {s : Sl} {rs : List ExtR} (hX : ExtsAt w s rs) : Calls Tryz.prog 23 #[s.val] w fun e w' => w' = w ∧ e = .returned (.int .i64 (keptS (rs.map ExtR.d))) := by
  refine split_kept_of s.A s.n s.k w _ ?_
  unfold split_kept_VC
  have hl := hX.len
  have hsm := hX.small
  rw [w64 (by omega) (by omega)]
  refine LoopVC.of (fun st w' => w' = w ∧ ∃ i : Nat, st = (i : Int) - 1 ∧ i ≤ s.n ∧ ∀ j r, i ≤ j → rs[j]? = some r → r.v.kind ≠ 43) (fun st _ => (st + 1).toNat) ⟨rfl, s.n, rfl, Nat.le_refl _, fun j r hj hr => by
    have := (List.getElem?_eq_some_iff.1 hr).1; omega⟩ ?_
  rintro _ _ ⟨rfl, i, rfl, hi, hno⟩
  unfold split_kept_L26
  refine Br.dec (fun h0 => ?_) fun h0 => ?_
  · obtain ⟨j, rfl⟩ : ∃ j, i = j + 1 := ⟨i - 1, by omega⟩
    have hj : ((j + 1 : Nat) : Int) - 1 = (j : Nat) := by omega
    rw [hj]
    refine hX.idx rfl (by omega) fun a r hr hc _ _ => ⟨r.v.kind, by simpa [ExtV.cells, add_zero] using hc.1, Br.dec (fun h1 => ?_) fun h1 => ?_⟩
    · refine ⟨rfl, ?_⟩
      rw [w64 (by omega) (by omega)]
      have : last43 (rs.map ExtR.d) = j + 1 := last43_at (x := r.d) (by rw [List.getElem?_map, hr]; rfl) h1 fun q y hq hy => by
        rw [List.getElem?_map] at hy
        cases hq' : rs[q]? with
        | none => rw [hq'] at hy; cases hy
        | some z => rw [hq'] at hy; cases hy; exact hno q z (by omega) hq'
      unfold keptS
      rw [this, if_pos (by omega)]
      simp
    · rw [w64 (by omega) (by omega)]
      refine ⟨⟨rfl, j, rfl, by omega, fun q z hq hz => ?_⟩, by omega⟩
      rcases Nat.lt_or_ge q (j + 1) with h | h
      · have : q = j := by omega
        subst this; rw [hr] at hz; cases hz; exact h1
      · exact hno q z h hz
  · have hi0 : i = 0 := by omega
    subst hi0
    have h43 : last43 (rs.map ExtR.d) = 0 := last43_none fun x hx => by
      obtain ⟨z, hz, rfl⟩ := List.mem_map.1 hx
      obtain ⟨q, hq⟩ := List.mem_iff_getElem?.1 hz
      exact hno q z (Nat.zero_le _) hq
    have hk : keptS (rs.map ExtR.d) = match rs.map ExtR.d with
        | [] => 0
        | x :: _ => if x.kind = 0 then 1 else 0 := by
      unfold keptS; rw [h43, if_neg (by omega)]
      cases rs.map ExtR.d <;> rfl
    refine Br.dec (fun h1 => ?_) fun h1 => ?_
    · refine hX.idx (i := 0) rfl (by omega) fun a r hr hc _ _ => ⟨r.v.kind, by simpa [ExtV.cells, add_zero] using hc.1, ?_⟩
      obtain ⟨rs1, rfl⟩ : ∃ rs1, rs = r :: rs1 := by
        cases rs with
        | nil => cases hr
        | cons x l => simp at hr; subst hr; exact ⟨l, rfl⟩
      rw [hk]
      refine Br.dec (fun h2 => ⟨rfl, ?_⟩) fun h2 => ⟨rfl, ?_⟩
      · rw [List.map_cons]; simp only; rw [if_pos (show r.d.kind = 0 from h2)]; rfl
      · rw [List.map_cons]; simp only; rw [if_neg (show ¬ r.d.kind = 0 from h2)]; rfl
    · have : rs = [] := List.eq_nil_of_length_eq_zero (by omega)
      subst this
      exact ⟨rfl, rfl⟩
theorem check6_spec {h : Ip6V} {es : List ExtR} {data : List Int} (hA : Ip6At w h es data) (hK : Kn w) : Calls Tryz.prog 19 #[h.val] w fun e w' => Ext w w' ∧ e = .returned (.int .i64 (ser6S (h.d es data)).2) := by
  refine ip6_Check_of h w _ ?_
  unfold ip6_Check_VC
  refine NewVC.sep (Sep.start0 w) fun g1 w1 H => Ip6V.of h ⟨H.at 1 rfl, ?_⟩
  refine (made_spec (hA.ext (H.restOf 0 rfl)) (hK.ext (H.restOf 0 rfl))).mono ?_
  rintro _ w2 ⟨A, c, rfl, H2⟩
  exact ⟨_, _, _, _, rfl, (H.restOf 0 rfl).trans (H2.restOf 0 rfl), rfl⟩
theorem size6_spec {h : Ip6V} {es : List ExtR} {data : List Int} (hA : Ip6At w h es data) (hK : Kn w) : Calls Tryz.prog 20 #[h.val] w fun e w' => Ext w w' ∧ e = .returned (.int .i64 ((ser6S (h.d es data)).1.length : Nat)) := by
  refine ip6_Size_of h w _ ?_
  unfold ip6_Size_VC
  refine NewVC.sep (Sep.start0 w) fun g1 w1 H => Ip6V.of h ⟨H.at 1 rfl, ?_⟩
  refine (made_spec (hA.ext (H.restOf 0 rfl)) (hK.ext (H.restOf 0 rfl))).mono ?_
  rintro _ w2 ⟨A, c, rfl, H2⟩
  exact ⟨_, _, _, _, rfl, (H.restOf 0 rfl).trans (H2.restOf 0 rfl), rfl⟩
theorem putChain_spec {s : Sl} {rs : List ExtR} {next : Int} (hX : ExtsAt w s rs) (hK : Kn w) : Calls Tryz.prog 24 #[s.val, .int .i64 next] w (Made w (putChainS (rs.map ExtR.d) next)) := by
  refine ip6_PutChain_of s.A s.n s.k next w _ ?_
  unfold ip6_PutChain_VC
  have r1 : next < 0 ∨ 255 < next → putChainS (rs.map ExtR.d) next = ([], 1) := fun h => by unfold putChainS; rw [if_pos h]
  refine Br.dec (fun h1 => Made.err (Mod.refl _ _) (r1 (by omega))) fun h1 => Br.dec (fun h2 => Made.err (Mod.refl _ _) (r1 (by omega))) fun h2 => ?_
  refine (headers_spec (next := next) (inner := true) hX hK).mono ?_
  rintro _ w2 ⟨A, c, rfl, H⟩
  have hs : putChainS (rs.map ExtR.d) next = if (headersS (rs.map ExtR.d) next (!true)).2 ≠ 0 then ([], (headersS (rs.map ExtR.d) next (!true)).2) else if upperS next = true then ((headersS (rs.map ExtR.d) next (!true)).1, 0) else ([], 72) := by
    unfold putChainS; rw [if_neg (by omega)]; rfl
  refine ⟨_, _, _, _, rfl, Br.dec (fun h3 => Made.err (H.restOf 0 rfl) (by rw [hs, if_pos h3])) fun h3 => ?_⟩
  rw [if_neg h3] at hs
  refine (sort_spec (hK.ext (H.restOf 0 rfl))).mono ?_
  rintro _ w3 ⟨hE, rfl⟩
  have H := H.ext hE
  refine ⟨_, rfl, Br.dec (fun h4 => Made.err (H.restOf 0 rfl) ?_) fun h4 => Made.ok ?_ H⟩
  · rw [hs, if_neg (fun hu => h4 ((sort_upper next).2 hu))]
  · rw [hs, if_pos ((sort_upper next).1 (by omega))]
end
end N6
end Go.Proofs.YthhgbpmihhljdaaGreatDoor
/- Chapter 13, the program's cut: the parts, each in memory of its own. -/
namespace Go.Eng
open Go Go.RowKit
structure PieR where
  v : PieV
  data : List Int
def PieR.d (r : PieR) : Int × List Int × Bool := (r.v.off, r.data, r.v.last)
def partV (l : List Int) (x : Nat × Nat) : Int × List Int × Bool := ((x.1 : Int), (l.drop x.1).take x.2, !decide (x.1 + x.2 < l.length))
/-- A window of bytes, without room behind. -/
theorem BytesAt.cut {w : World} {s : Sl} {l : List Int} (h : BytesAt w s l) {p k : Nat} (hk : p + k ≤ s.n) {lo hi mx : Int} (h1 : lo = p) (h2 : hi = (p + k : Nat)) (h3 : mx = (p + k : Nat)) {F : Option Addr → Nat → Nat → Prop}
    (hF : ∀ s' : Sl, s'.n = k → s'.k = k → BytesAt w s' ((l.drop p).take k) → F s'.A s'.n s'.k) : SliceVC s.A s.n s.k 1 (some lo) (some hi) (some mx) F := by
  subst h1; subst h2; subst h3
  have hc := h.cap
  have hs := h.small
  have hl := h.len
  refine ⟨by omega, by omega, by omega, by omega, ?_⟩
  simp only [Int.toNat_natCast, Nat.mul_one]
  have e : p + k - p = k := by omega
  rw [e]
  refine hF ⟨_, k, k⟩ rfl rfl ⟨by simp; omega, Nat.le_refl _, by show k ≤ 4000000; omega, fun x hx => h.bts x (List.mem_of_mem_drop (List.mem_of_mem_take hx)), ?_⟩
  have := h.cells.win (p := p) (k := k)
  rw [List.map_take, List.map_drop]
  simp only [Int.toNat_natCast] at this
  show Cells w (if p + k = p then s.A else s.A.map (·.add p)) _
  by_cases h0 : k = 0
  · subst h0; simpa using Cells.nil _ _
  · rw [if_neg (by omega)] at this ⊢
    exact this
theorem BytesAt.part {w : World} {s : Sl} {l : List Int} (h : BytesAt w s l) {p k : Nat} (hk : p + k ≤ s.n) {lo hi : Int} (h1 : lo = p) (h2 : hi = (p + k : Nat)) {F : Option Addr → Nat → Nat → Prop}
    (hF : ∀ s' : Sl, BytesAt w s' ((l.drop p).take k) → F s'.A s'.n s'.k) : SliceVC s.A s.n s.k 1 (some lo) (some hi) none F := by
  subst h1; subst h2
  have hc := h.cap
  have hs := h.small
  have hl := h.len
  refine ⟨by omega, by omega, by omega, ?_⟩
  simp only [Int.toNat_natCast, Nat.mul_one]
  have e : p + k - p = k := by omega
  rw [e]
  refine hF ⟨_, k, s.k - p⟩ ⟨by simp; omega, by show k ≤ s.k - p; omega, by show k ≤ 4000000; omega, fun x hx => h.bts x (List.mem_of_mem_drop (List.mem_of_mem_take hx)), ?_⟩
  have := h.cells.win (p := p) (k := k)
  rw [List.map_take, List.map_drop]
  simp only [Int.toNat_natCast] at this
  show Cells w (if s.k = p then s.A else s.A.map (·.add p)) _
  by_cases h0 : k = 0
  · subst h0; simpa using Cells.nil _ _
  · rw [if_neg (by omega)] at this ⊢
    exact this
end Go.Eng
namespace Go.Proofs.YthhgbpmihhljdaaGreatDoor
namespace N6
open Go.Eng Go.RowKit
theorem tP : TypeIs Tryz.prog 68 (.agg #[.int .i64 0, .slice none 0 0, .bool false]) 3 40 := .of (by kernel_rfl)
abbrev rowP (b : Nat) (s : Sl) (ps : List PieR) : Fct := Fct.own b 68 3 s.val s.n (ps.map fun r => r.v.cells).flatten
def pieFs (b : Nat) (s : Sl) (ps : List PieR) : List Fct := rowP b s ps :: ps.map fun r => rowB b r.v.data r.data
structure PiesFine (s : Sl) (ps : List PieR) : Prop where
  len : ps.length = s.n
  small : s.n ≤ 4000001
  each : ∀ r ∈ ps, BFine r.v.data r.data
def cutL (fh : Nat) (hv : Value) (R : Ending → World → Prop) (bA : Option Addr) (bn : Nat) (bc : Nat) (mtu : Int) (outA : Option Addr) (outn : Nat) (outc : Nat) (at_ : Int) (w1 : World) (K30 : ((Option Addr × Nat × Nat) × Int → World → Prop)) : Prop :=
  Calls Tryz.prog fh #[hv, .bool (decide (at_ = 0))] w1 (onRet (fun r_ w2 => ∃ x : Int, r_ = .int .i64 x ∧
  Br (decide (IntKind.i64.wrap ((bn : Int) - at_) ≤ IntKind.i64.wrap (mtu - x)))
    (SliceVC bA bn bc 1 (some at_) (some (bn : Int)) (some (bn : Int)) fun sA sn sc =>
    Calls Tryz.prog 22 #[.slice sA sn sc] w2 (onRet (fun r_1 w3 => ∃ (xA : Option Addr) (xn xc : Nat), r_1 = .slice xA xn xc ∧
    NewVC w3 (.cells #[.int .i64 at_, .slice xA xn xc, .bool true] 68) fun g1 w4 =>
    AppVC Tryz.prog #[65, 65] 65 (.slice outA outn outc) (.slice (some ⟨g1, 0, none⟩) 1 1) w4 fun lA ln lc w5 =>
    R (.returned (.slice lA ln lc)) w5)
      (fun ch1 w3 => R (.panicked ch1) w3)))
    (SliceVC bA bn bc 1 (some at_) (some (IntKind.i64.wrap (at_ + IntKind.i64.wrap (IntKind.i64.wrap (Int.tdiv (IntKind.i64.wrap (mtu - x)) 8) * 8)))) (some (IntKind.i64.wrap (at_ + IntKind.i64.wrap (IntKind.i64.wrap (Int.tdiv (IntKind.i64.wrap (mtu - x)) 8) * 8)))) fun sA1 sn1 sc1 =>
  Calls Tryz.prog 22 #[.slice sA1 sn1 sc1] w2 (onRet (fun r_2 w6 => ∃ (xA1 : Option Addr) (xn1 xc1 : Nat), r_2 = .slice xA1 xn1 xc1 ∧
  NewVC w6 (.cells #[.int .i64 at_, .slice xA1 xn1 xc1, .bool false] 68) fun g2 w7 =>
  AppVC Tryz.prog #[65, 65] 65 (.slice outA outn outc) (.slice (some ⟨g2, 0, none⟩) 1 1) w7 fun lA1 ln1 lc1 w8 =>
  K30 ((lA1, ln1, lc1), IntKind.i64.wrap (at_ + IntKind.i64.wrap (IntKind.i64.wrap (Int.tdiv (IntKind.i64.wrap (mtu - x)) 8) * 8))) w8)
    (fun ch2 w6 => R (.panicked ch2) w6))))
    (fun ch w2 => R (.panicked ch) w2))
section
variable {w : World} {Γ : List Fct}
theorem appP (H : Sep Γ w) (i : Nat) {b n c : Nat} {A A' : Option Addr} {xs : List Value} {o : PieV} {c' : Nat} (hi : Γ[i]? = some (Fct.own b 68 3 (.slice A n c) n xs)) (hs : Cells w A' o.cells) (hn : n ≤ 1000000000) (hb : b ≤ w.heap.size)
    {F : Option Addr → Nat → Nat → World → Prop} (h : ∀ A2 c2 w', Sep (Γ.set i (Fct.own b 68 3 (.slice A2 (n + 1) c2) (n + 1) (xs ++ o.cells))) w' → n + 1 ≤ c2 → F A2 (n + 1) c2 w') :
    AppVC Tryz.prog #[65, 65] 65 (.slice A n c) (.slice A' 1 c') w F :=
  AppVC.sep H i Tryz.underlying65 tP rfl (by decide) hi hs rfl o.one (by omega) (by decide) hb h
def CutPost (w : World) (a b mtu : Nat) (l : List Int) (e : Ending) (w' : World) : Prop :=
  ∃ (s' : Sl) (ps : List PieR), e = .returned s'.val ∧ ps.map PieR.d = (parts a b mtu l.length 0).map (partV l) ∧ PiesFine s' ps ∧ Sep (Fct.rest w None :: pieFs w.heap.size s' ps) w'
set_option maxHeartbeats 1000000 in
theorem cut_loop {fh : Nat} {hv : Value} {a b mtu : Nat} {s : Sl} {l : List Int} (hB : BytesAt w s l) (ha : a + 8 ≤ mtu) (hb : b + 8 ≤ mtu) (hm : mtu ≤ 65535)
    (hh : ∀ w1 (first : Bool), Calls Tryz.prog fh #[hv, .bool first] w1 fun e w2 => Ext w1 w2 ∧ e = .returned (.int .i64 ((if first = true then a else b : Nat) : Int))) :
    LoopVC (S := (Option Addr × Nat × Nat) × Int) (fun s_ w1 K30 => cutL fh hv (CutPost w a b mtu l) s.A s.n s.k (mtu : Int) s_.1.1 s_.1.2.1 s_.1.2.2 s_.2 w1 K30) ((none, 0, 0), 0) w := by
  have hl := hB.len
  have hsm := hB.small
  refine LoopVC.of (fun st w' => ∃ (p : Nat) (ps : List PieR), st.2 = p ∧ p ≤ l.length ∧ ps.map PieR.d ++ (parts a b mtu l.length p).map (partV l) = (parts a b mtu l.length 0).map (partV l) ∧ PiesFine ⟨st.1.1, st.1.2.1, st.1.2.2⟩ ps ∧ st.1.2.1 ≤ p ∧
      Sep (Fct.rest w None :: pieFs w.heap.size ⟨st.1.1, st.1.2.1, st.1.2.2⟩ ps) w') (fun st _ => ((s.n : Int) - st.2).toNat)
    ⟨0, [], rfl, Nat.zero_le _, rfl, ⟨rfl, Nat.zero_le _, fun r hr => by cases hr⟩, Nat.zero_le _, (Sep.start0 w).nil _ _ _⟩ ?_
  rintro ⟨⟨A1, n1, c1⟩, _⟩ w1 ⟨p, ps, rfl, hp, hd, hf, hn1, H⟩
  simp only at hn1
  show cutL fh hv (CutPost w a b mtu l) s.A s.n s.k (mtu : Int) A1 n1 c1 (p : Int) w1 _
  unfold cutL
  refine (hh w1 _).mono ?_
  rintro _ w2 ⟨hE, rfl⟩
  have H := H.ext hE
  have hz2 := (H.restOf 0 rfl).size
  have hroom := room_ge ha hb p
  have hr : ((mtu : Int) - ((if decide ((p : Int) = 0) = true then a else b : Nat) : Int)) = (room a b mtu p : Nat) := by
    unfold room
    by_cases h0 : p = 0
    · subst h0; simp; omega
    · rw [if_neg (by simp; omega), if_neg h0]; omega
  refine ⟨_, rfl, ?_⟩
  rw [hr]
  generalize hrm : room a b mtu p = rm at hroom ⊢
  have e1 : IntKind.i64.wrap ((s.n : Int) - (p : Int)) = ((l.length - p : Nat) : Int) := by rw [w64 (by omega) (by omega)]; omega
  have e2 : IntKind.i64.wrap (rm : Int) = rm := w64 (by omega) (by omega)
  rw [e1, e2]
  have hB2 := hB.ext (H.restOf 0 rfl)
  refine Br.dec (fun h1 => ?_) fun h1 => ?_
  · refine hB2.cut (p := p) (k := l.length - p) (by omega) rfl (by omega) (by omega) fun s1 hs1 hk1 hb1 => ?_
    refine (clone_spec hb1).mono ?_
    rintro _ w3 ⟨s2, rfl, hf2, hn2, H3⟩
    have H3 := H3.lower 1 rfl hz2
    have H := H.made H3
    refine ⟨_, _, _, rfl, NewVC.sep H fun g1 w4 H => ?_⟩
    have H := H.front
    have hz4 := (H.restOf 1 rfl).size
    refine appP (o := ⟨p, s2, true⟩) H 2 rfl (Cells.blk0 (H.blk 0 rfl)) (show n1 ≤ 1000000000 by omega) (by omega) fun A2 c2 w5 H hc2 => ⟨⟨A2, n1 + 1, c2⟩, ps ++ [⟨⟨p, s2, true⟩, (l.drop p).take (l.length - p)⟩], rfl, ?_, ⟨?_, by show n1 + 1 ≤ 4000001; omega, ?_⟩, ?_⟩
    · rw [← hd, List.map_append, parts_last (p := p) (by rw [hrm]; omega)]
      simp only [List.map_cons, List.map_nil, PieR.d, partV]
      rw [decide_eq_false (show ¬ (p + (l.length - p) < l.length) by omega)]; rfl
    · have := hf.len; simp at this ⊢; omega
    · intro x hx
      rcases List.mem_append.1 hx with hx | hx
      · exact hf.each x hx
      · simp at hx; subst hx; exact hf2
    · have H := H.tail
      simp only [pieFs, rowP, List.map_append, List.flatten_append, List.map_cons, List.map_nil, List.flatten_cons, List.flatten_nil, List.append_nil]
      exact H
  · have e3 : Int.tdiv (rm : Int) 8 = ((rm / 8 : Nat) : Int) := tdiv_nat rm 8
    have e4 : IntKind.i64.wrap (((rm / 8 : Nat) : Int)) = ((rm / 8 : Nat) : Int) := w64 (by omega) (by omega)
    have e5 : IntKind.i64.wrap (((rm / 8 : Nat) : Int) * 8) = ((rm / 8 * 8 : Nat) : Int) := by rw [w64 (by omega) (by omega)]; omega
    have e6 : IntKind.i64.wrap ((p : Int) + ((rm / 8 * 8 : Nat) : Int)) = ((p + rm / 8 * 8 : Nat) : Int) := by rw [w64 (by omega) (by omega)]; omega
    rw [e3, e4, e5, e6]
    refine hB2.cut (p := p) (k := rm / 8 * 8) (by omega) rfl rfl rfl fun s1 hs1 hk1 hb1 => ?_
    refine (clone_spec hb1).mono ?_
    rintro _ w3 ⟨s2, rfl, hf2, hn2, H3⟩
    have H3 := H3.lower 1 rfl hz2
    have H := H.made H3
    refine ⟨_, _, _, rfl, NewVC.sep H fun g1 w4 H => ?_⟩
    have H := H.front
    have hz4 := (H.restOf 1 rfl).size
    refine appP (o := ⟨p, s2, false⟩) H 2 rfl (Cells.blk0 (H.blk 0 rfl)) (show n1 ≤ 1000000000 by omega) (by omega) fun A2 c2 w5 H hc2 => ⟨⟨p + rm / 8 * 8, ps ++ [⟨⟨p, s2, false⟩, (l.drop p).take (rm / 8 * 8)⟩], rfl, by omega, ?_, ⟨?_, by show n1 + 1 ≤ 4000001; omega, ?_⟩, by simp only; omega, ?_⟩, by simp only; omega⟩
    · rw [← hd, List.map_append, parts_more (p := p) ha hb (by rw [hrm]; omega), hrm]
      simp only [List.map_cons, List.map_nil, List.append_assoc, List.singleton_append, PieR.d, partV]
      rw [decide_eq_true (show p + rm / 8 * 8 < l.length by omega)]; rfl
    · have := hf.len; simp at this ⊢; omega
    · intro x hx
      rcases List.mem_append.1 hx with hx | hx
      · exact hf.each x hx
      · simp at hx; subst hx; exact hf2
    · have H := H.tail
      simp only [pieFs, rowP, List.map_append, List.flatten_append, List.map_cons, List.map_nil, List.flatten_cons, List.flatten_nil, List.append_nil]
      exact H
theorem cut6_spec {a mtu : Nat} {s : Sl} {l : List Int} (hB : BytesAt w s l) (ha : a + 8 ≤ mtu) (hm : mtu ≤ 65535) :
    Calls Tryz.prog 25 #[s.val, .int .i64 mtu, .iface 64 (.int .i64 a)] w (CutPost w a a mtu l) := by
  refine cut6_of s.A s.n s.k mtu a w _ ?_
  refine cut_loop (fh := 145) (hv := .int .i64 a) hB ha ha hm fun w1 first => ?_
  refine split_heads6_head_of a first w1 _ ?_
  exact ⟨Mod.refl _ _, by simp⟩
end
end N6
end Go.Proofs.YthhgbpmihhljdaaGreatDoor
/- Chapter 13, the program's Split4: the pieces, each in memory of its own. -/
namespace Go.Eng
open Go Go.RowKit
structure Ip4R where
  v : Ip4V
  opts : List OptR
  data : List Int
def Ip4R.d (r : Ip4R) : Ip4D := r.v.d r.opts r.data
theorem Sep.blkRec {w : World} {Γ : List Fct} {g e b n size : Nat} {cs : List Value} (H : Sep Γ w) (i : Nat) (hi : Γ[i]? = some (Fct.blk g e cs)) (hb : b ≤ g) (hc : cs.length = n * size) (hm : n ≤ maxLen) :
    Sep (Γ.set i (Fct.own b e size (.slice (some ⟨g, 0, none⟩) n n) n cs)) w :=
  H.weaken i hi ⟨hc, .inr ⟨g, n, cs.toArray, rfl, hb, H.blk i hi, Nat.le_refl _, hm, by simpa using hc, by simp [← hc]⟩⟩ fun k hk => by
    have hk : (Value.slice (some ⟨g, 0, none⟩) n n).ownBlock = some k := hk
    simp [Value.ownBlock] at hk
    exact hk.symm
end Go.Eng
namespace Go.Proofs.YthhgbpmihhljdaaGreatDoor
namespace N6
open Go.Eng Go.RowKit
abbrev rowI4 (b : Nat) (s : Sl) (rs : List Ip4R) : Fct := Fct.own b 79 43 s.val s.n (rs.map fun r => r.v.cells).flatten
def ip4Fs (b : Nat) (s : Sl) (rs : List Ip4R) : List Fct := rowI4 b s rs :: (rs.map (fun r => rowB b r.v.data r.data) ++ rs.flatMap fun r => optFs b r.v.opts r.opts)
structure Ip4Fine (r : Ip4R) : Prop where
  opts : OptsFine r.v.opts r.opts
  data : BFine r.v.data r.data
  src : Bts r.v.src.bytes
  dst : Bts r.v.dst.bytes
structure Ip4sFine (s : Sl) (rs : List Ip4R) : Prop where
  len : rs.length = s.n
  small : s.n ≤ 4000001
  each : ∀ r ∈ rs, Ip4Fine r
def Cut4 (w : World) (r : List Ip4D × Int) (e : Ending) (w' : World) : Prop :=
  ∃ (s' : Sl) (rs : List Ip4R), e = .returned (.tuple #[s'.val, .int .i64 r.2]) ∧ rs.map Ip4R.d = r.1 ∧ Ip4sFine s' rs ∧ Sep (Fct.rest w None :: ip4Fs w.heap.size s' rs) w'
section
variable {w : World} {Γ : List Fct}
theorem Cut4.err {w' : World} {r : List Ip4D × Int} {k : Int} (h : Ext w w') (hr : r = ([], k)) : Cut4 w r (.returned (.tuple #[.slice none 0 0, .int .i64 k])) w' := by
  subst hr
  exact ⟨⟨none, 0, 0⟩, [], rfl, rfl, ⟨rfl, Nat.zero_le _, fun r h => by cases h⟩, ((Sep.start0 w).ext h).nil _ _ _⟩
theorem ip4At_of {w : World} {b : Nat} {s : Sl} {rs : List Ip4R} (h : ∀ f ∈ ip4Fs b s rs, f.φ w) (hf : Ip4sFine s rs) {r : Ip4R} (hr : r ∈ rs) : Ip4At w r.v r.opts r.data :=
  ⟨optsAt_of (b := b) (fun f hfm => h f (by simp only [ip4Fs, List.mem_cons, List.mem_append, List.mem_flatMap]; exact .inr (.inr ⟨r, hr, hfm⟩))) (hf.each r hr).opts,
   bytesAt_of (b := b) (h _ (by simp only [ip4Fs, List.mem_cons, List.mem_append, List.mem_map]; exact .inr (.inl ⟨r, hr, rfl⟩))) (hf.each r hr).data, (hf.each r hr).src, (hf.each r hr).dst⟩
/-- The i-th part is looked at. -/
theorem pie_idx {s : Sl} {ps : List PieR} (h : Cells w s.A (ps.map fun r => r.v.cells).flatten) (hl : ps.length = s.n) {i : Nat} (hi : i < s.n) {F : Addr → Prop} (hF : ∀ a r, ps[i]? = some r → CellsAt w a 0 r.v.cells → F a) : IdxVC s.A s.n 3 (i : Int) F := by
  refine IdxVC.rec (Recs.of_cells (by decide) (fun r hr => ?_) h) (by omega) (by omega) (by simpa using hl) fun a hc => ?_
  · obtain ⟨x, _, rfl⟩ := List.mem_map.1 hr; rfl
  · have he : ps[i]? = some ps[i] := List.getElem?_eq_getElem (by omega)
    refine hF a ps[i] he ?_
    simpa [List.getD_eq_getElem?_getD, he] using hc
end
end N6
end Go.Proofs.YthhgbpmihhljdaaGreatDoor
/- Chapter 13, the program's Split4 and Fits4. -/
namespace Go.Proofs.YthhgbpmihhljdaaGreatDoor
namespace N6
open Go.Eng Go.RowKit
theorem pieFs_less {b b' : Nat} {s : Sl} {ps : List PieR} (h : b' ≤ b) : AllLe (pieFs b s ps) (pieFs b' s ps) := .cons (own_less h).1 (own_less h).2 (AllLe.map ps fun _ _ => own_less h)
section
theorem two {a b : Int} : ∀ v ∈ ([.int .i64 a, .int .i64 b] : List Value), v.oneCell' = true := fun v hv => by simp at hv; rcases hv with rfl | rfl <;> rfl
variable {w : World} {Γ : List Fct} {h : Ip4V} {os : List OptR} {data : List Int}
end
end N6
end Go.Proofs.YthhgbpmihhljdaaGreatDoor
/- Chapter 13, the program's Split6 and Fits6. -/
namespace Go.Eng
open Go Go.RowKit
structure Ip6R where
  v : Ip6V
  exts : List ExtR
  data : List Int
def Ip6R.d (r : Ip6R) : Ip6D := r.v.d r.exts r.data
theorem Recs.drop {w : World} {A : Option Addr} {size : Nat} {rs : List (List Value)} (h : Recs w A size rs) (k : Nat) {c : Nat} (hc : rs.length ≤ c) : Recs w (if c = k then A else A.map (·.add (k * size))) size (rs.drop k) := by
  intro i cs hi
  rw [List.getElem?_drop] at hi
  have hlt := (List.getElem?_eq_some_iff.1 hi).1
  obtain ⟨a, rfl, hcs⟩ := h _ _ hi
  rw [if_neg (by omega)]
  refine ⟨a.add (k * size), rfl, ?_⟩
  rw [add_add, ← Nat.add_mul]
  exact hcs
theorem ExtsAt.drop {w : World} {s : Sl} {rs : List ExtR} (h : ExtsAt w s rs) {k : Nat} (hk : k ≤ s.n) : ExtsAt w ⟨if s.k = k then s.A else s.A.map (·.add (k * 3)), s.n - k, s.k - k⟩ (rs.drop k) := by
  have h1 := h.len
  have h2 := h.cap
  have h3 := h.small
  refine ⟨by simp; omega, by show s.n - k ≤ s.k - k; omega, by show s.n - k ≤ 4000000; omega, ?_, fun r hr => h.opts r (List.mem_of_mem_drop hr), fun r hr => h.data r (List.mem_of_mem_drop hr)⟩
  rw [List.map_drop]
  exact h.recs.drop k (by simp; omega)
theorem ExtsAt.take {w : World} {s : Sl} {rs : List ExtR} (h : ExtsAt w s rs) {k : Nat} (hk : k ≤ s.n) : ExtsAt w ⟨s.A, k, s.k⟩ (rs.take k) := by
  have h1 := h.len
  have h2 := h.cap
  have h3 := h.small
  refine ⟨by simp; omega, by show k ≤ s.k; omega, by show k ≤ 4000000; omega, fun i cs hi => ?_, fun r hr => h.opts r (List.mem_of_mem_take hr), fun r hr => h.data r (List.mem_of_mem_take hr)⟩
  rw [List.map_take, List.getElem?_take] at hi
  split at hi
  · exact h.recs i cs hi
  · cases hi
end Go.Eng
namespace Go.Proofs.YthhgbpmihhljdaaGreatDoor
namespace N6
open Go.Eng Go.RowKit
abbrev rowI6 (b : Nat) (s : Sl) (rs : List Ip6R) : Fct := Fct.own b 30 44 s.val s.n (rs.map fun r => r.v.cells).flatten
def ip6Fs (b : Nat) (s : Sl) (rs : List Ip6R) : List Fct := rowI6 b s rs :: (rs.map (fun r => rowB b r.v.data r.data) ++ rs.flatMap fun r => extFs b r.v.exts r.exts)
structure Ip6Fine (r : Ip6R) : Prop where
  exts : ExtsFine r.v.exts r.exts
  data : BFine r.v.data r.data
  src : Bts r.v.src.bytes
  dst : Bts r.v.dst.bytes
structure Ip6sFine (s : Sl) (rs : List Ip6R) : Prop where
  len : rs.length = s.n
  small : s.n ≤ 4000001
  each : ∀ r ∈ rs, Ip6Fine r
def Cut6 (w : World) (r : List Ip6D × Int) (e : Ending) (w' : World) : Prop :=
  ∃ (s' : Sl) (rs : List Ip6R), e = .returned (.tuple #[s'.val, .int .i64 r.2]) ∧ rs.map Ip6R.d = r.1 ∧ Ip6sFine s' rs ∧ Sep (Fct.rest w None :: ip6Fs w.heap.size s' rs) w'
theorem tI6 : TypeIs Tryz.prog 30 (.agg (Ip6V.z : Ip6V).cells.toArray) 44 152 := .of (by kernel_rfl)
section
variable {w : World} {Γ : List Fct}
theorem Cut6.err {w' : World} {r : List Ip6D × Int} {k : Int} (h : Ext w w') (hr : r = ([], k)) : Cut6 w r (.returned (.tuple #[.slice none 0 0, .int .i64 k])) w' := by
  subst hr
  exact ⟨⟨none, 0, 0⟩, [], rfl, rfl, ⟨rfl, Nat.zero_le _, fun r h => by cases h⟩, ((Sep.start0 w).ext h).nil _ _ _⟩
theorem ip6At_of {w : World} {b : Nat} {s : Sl} {rs : List Ip6R} (h : ∀ f ∈ ip6Fs b s rs, f.φ w) (hf : Ip6sFine s rs) {r : Ip6R} (hr : r ∈ rs) : Ip6At w r.v r.exts r.data :=
  ⟨extsAt_of (b := b) (fun f hfm => h f (by simp only [ip6Fs, List.mem_cons, List.mem_append, List.mem_flatMap]; exact .inr (.inr ⟨r, hr, hfm⟩))) (hf.each r hr).exts,
   bytesAt_of (b := b) (h _ (by simp only [ip6Fs, List.mem_cons, List.mem_append, List.mem_map]; exact .inr (.inl ⟨r, hr, rfl⟩))) (hf.each r hr).data, (hf.each r hr).src, (hf.each r hr).dst⟩
theorem appI6 (H : Sep Γ w) (i : Nat) {b n c : Nat} {A A' : Option Addr} {xs : List Value} {o : Ip6V} {c' : Nat} (hi : Γ[i]? = some (Fct.own b 30 44 (.slice A n c) n xs)) (hs : Cells w A' o.cells) (hn : n ≤ 1000000000) (hb : b ≤ w.heap.size)
    {F : Option Addr → Nat → Nat → World → Prop} (h : ∀ A2 c2 w', Sep (Γ.set i (Fct.own b 30 44 (.slice A2 (n + 1) c2) (n + 1) (xs ++ o.cells))) w' → n + 1 ≤ c2 → F A2 (n + 1) c2 w') :
    AppVC Tryz.prog #[32, 32] 32 (.slice A n c) (.slice A' 1 c') w F :=
  AppVC.sep H i Tryz.underlying32 tI6 rfl (by decide) hi hs rfl o.one (by omega) (by decide) hb h
set_option maxHeartbeats 2000000 in
theorem split6_loop {w w0 : World} {h : Ip6V} {es : List ExtR} {data rest : List Int} {a mtu g1 : Nat} {id : Int} {sp : Sl} {ps : List PieR} (hA : Ip6At w0 h es data) (_ha : a + 8 ≤ mtu) (_hm : mtu ≤ 65535)
    (hrest : rest = rest6 (h.d es data)) (_hrl : rest.length ≤ 4000000) (hps : ps.map PieR.d = (parts a a mtu rest.length 0).map (partV rest)) (hf : PiesFine sp ps)
    (H0 : Sep (Fct.blk g1 30 h.cells :: rowP w0.heap.size sp ps :: Fct.rest w0 None :: ps.map fun r => rowB w0.heap.size r.v.data r.data) w) :
    LoopVC (S := (Option Addr × Nat × Nat) × Int) (fun s_ w12 K => split_Split6_L524282 (Cut6 w0 ((parts a a mtu rest.length 0).map (piece6 (h.d es data) id), 0)) id g1 ((keptS (es.map ExtR.d) : Nat) : Int) (firstR (h.d es data)) sp.A sp.n s_.1.1 s_.1.2.1 s_.1.2.2 s_.2 w12 K) ((none, 0, 0), 0) w := by
  have hk := keptS_le (es.map ExtR.d)
  rw [List.length_map, hA.exts.len] at hk
  have hXc := hA.exts.cap
  have hplen : ps.length = (parts a a mtu rest.length 0).length := by have := congrArg List.length hps; simpa using this
  have hsp := hf.len
  have hsps := hf.small
  refine LoopVC.of (fun st w' => ∃ (i : Nat) (rs : List Ip6R), st.2 = i ∧ i ≤ sp.n ∧ st.1.2.1 = i ∧ rs.map Ip6R.d = ((parts a a mtu rest.length 0).take i).map (piece6 (h.d es data) id) ∧ rs.map (fun r => (r.v.data, r.data)) = (ps.take i).map (fun r => (r.v.data, r.data)) ∧
      rs.length = i ∧ (∀ r ∈ rs, Ip6Fine r) ∧ Sep (Fct.blk g1 30 h.cells :: rowP w0.heap.size sp ps :: Fct.rest w0 None :: rowI6 w0.heap.size ⟨st.1.1, st.1.2.1, st.1.2.2⟩ rs :: (ps.map (fun r => rowB w0.heap.size r.v.data r.data) ++ rs.flatMap fun r => extFs w0.heap.size r.v.exts r.exts)) w') (fun st _ => ((sp.n : Int) - st.2).toNat)
    ⟨0, [], rfl, Nat.zero_le _, rfl, rfl, rfl, rfl, (fun r hr => by cases hr), ?_⟩ ?_
  · have H := (H0.nil w0.heap.size 30 44).front
    simp only [List.flatMap_nil, List.append_nil]
    exact H.perm (.trans (.cons _ (.trans (.cons _ (.swap _ _ _)) (.swap _ _ _))) (.swap _ _ _))
  rintro ⟨⟨A1, n1, c1⟩, _⟩ w1 ⟨i, rs, rfl, hi, hn1, hd, hdd, hlen, hfr, H⟩
  simp only at hn1
  subst hn1
  show split_Split6_L524282 _ id g1 _ _ sp.A sp.n A1 n1 c1 (n1 : Int) w1 _
  unfold split_Split6_L524282
  refine Br.dec (fun hlt => ?_) fun hge => ?_
  · have hlt : n1 < sp.n := by omega
    refine pie_idx (H.cells 1 rfl) hsp hlt fun a1 p hp hcp => PieV.of p.v ⟨hcp, ?_⟩
    obtain ⟨x, hx, hpx⟩ : ∃ x, (parts a a mtu rest.length 0)[n1]? = some x ∧ p.d = partV rest x := by
      have := congrArg (·[n1]?) hps
      simp only [List.getElem?_map, hp, Option.map_some] at this
      cases hq : (parts a a mtu rest.length 0)[n1]? with
      | none => rw [hq] at this; cases this
      | some x => rw [hq] at this; exact ⟨x, rfl, by simpa using this⟩
    have p1 : p.v.off = x.1 := congrArg Prod.fst hpx
    have p2 : p.data = (rest.drop x.1).take x.2 := congrArg (fun y => y.2.1) hpx
    have p3 : p.v.last = !decide (x.1 + x.2 < rest.length) := congrArg (fun y => y.2.2) hpx
    have hpm : p ∈ ps := List.mem_of_getElem? hp
    refine NewVC.sep H fun g3 w2 H => ?_
    have H := H.front
    refine Stores.sep H 0 rfl (PieV.one _) (Nat.le_refl _) (splice_all rfl) fun w3 H => Ip6V.of h ⟨H.at 1 rfl, NewVC.sep H fun g4 w4 H => ?_⟩
    have H := H.front
    refine Stores.sep H 0 rfl (Ip6V.one _) (Nat.le_refl _) (splice_all rfl) fun w5 H => ?_
    refine DrawVC.sep H (fun w' => Blk w' g1 30 h.cells ∧ Blk w' g3 68 p.v.cells) fun w6 H => ⟨⟨H.blk 2 rfl, H.blk 1 rfl⟩, _, _, _, fun w' hb => hb.1.cell 37, ⟨by omega, by omega, ?_⟩⟩
    refine ⟨_, _, _, fun w' hb => hb.2.cell 1, ?_⟩
    rw [Int.toNat_natCast]
    have hz6 := (H.restOf 4 rfl).size
    refine (exts_spec (s := ⟨h.exts.A, keptS (es.map ExtR.d), h.exts.k⟩) (rs := es.take (keptS (es.map ExtR.d))) ((hA.exts.ext (H.restOf 4 rfl)).take hk)).mono ?_
    rintro _ w7 ⟨se, es', rfl, hed, hef, H7⟩
    have H7 := (AllLe.append (AllLe.refl [Fct.rest w6 None]) (extFs_less hz6)).sep H7
    have H := H.mades H7
    refine ⟨_, _, _, rfl, ⟨H.blk 2 rfl, H.blk 1 rfl⟩, SetVC.sep H 0 rfl (show 37 < 44 by decide) fun w8 H => ⟨⟨H.blk 2 rfl, H.blk 1 rfl⟩, SetVC.sep H 0 rfl (show 43 < 44 by decide) fun w9 H => ⟨⟨H.blk 2 rfl, H.blk 1 rfl⟩, SetVC.sep H 0 rfl (show 42 < 44 by decide) fun w10 H => ?_⟩⟩⟩
    refine ⟨_, H.cell 1 rfl 2 rfl, _, H.cell 1 rfl 0 rfl, ?_⟩
    obtain ⟨r, hr⟩ : ∃ r : Ip6R, r = ⟨{ h with exts := se, data := p.v.data, next := firstR (h.d es data), frag := ⟨true, !p.v.last, id, p.v.off⟩ }, es', p.data⟩ := ⟨_, rfl⟩
    refine Stores.sep H 0 rfl (cs' := r.v.cells) (by first | exact FragV.one _ | exact fun v hv => by simp at hv; rcases hv with rfl | rfl | rfl | rfl <;> rfl) (show 38 + 4 ≤ 44 by decide) (by rw [hr]; rfl) fun w11 H => ?_
    refine Ip6V.of r.v ⟨H.at 0 rfl, NewVC.sep H fun g5 w12 H => ?_⟩
    have H := H.front
    have hz12 := (H.restOf 5 rfl).size
    have hrd : r.d = piece6 (h.d es data) id x := by
      rw [hr, p1, p2, p3, Bool.not_not, hrest]
      unfold Ip6R.d Ip6V.d piece6
      simp only [hed, List.map_take]
    have hfine : Ip6Fine r := by
      rw [hr]
      exact ⟨hef, hf.each p hpm, hA.src, hA.dst⟩
    have hi1 : IntKind.i64.wrap ((n1 : Int) + 1) = ((n1 + 1 : Nat) : Int) := by rw [w64 (by omega) (by omega)]; omega
    refine appI6 H 6 rfl (Cells.blk0 (H.blk 0 rfl)) (show n1 ≤ 1000000000 by omega) (by omega) fun A2 c2 w13 H hc2 => ⟨⟨n1 + 1, rs ++ [r], hi1, by omega, rfl, ?_, ?_, by simp [hlen], ?_, ?_⟩, by simp only [hi1]; omega⟩
    · rw [List.map_append, hd, List.take_add_one, hx]
      simp [hrd]
    · rw [List.map_append, hdd, List.take_add_one, hp]
      simp [hr]
    · intro y hy
      rcases List.mem_append.1 hy with hy | hy
      · exact hfr y hy
      · simp at hy; subst hy; exact hfine
    · have H := H.tail.tail.tail
      simp only [rowI6, List.map_append, List.flatten_append, List.map_cons, List.map_nil, List.flatten_cons, List.flatten_nil, List.append_nil, List.flatMap_append, List.flatMap_cons, List.flatMap_nil, ← List.append_assoc]
      rw [show extFs w0.heap.size r.v.exts r.exts = extFs w0.heap.size se es' by rw [hr]]
      exact H
  · have hin : n1 = sp.n := by omega
    have e1 : (parts a a mtu rest.length 0).take n1 = parts a a mtu rest.length 0 := List.take_of_length_le (by omega)
    have e2 : ps.take n1 = ps := List.take_of_length_le (by omega)
    rw [e1] at hd
    rw [e2] at hdd
    refine ⟨⟨A1, n1, c1⟩, rs, rfl, hd, ⟨hlen, by show n1 ≤ 4000001; omega, hfr⟩, ?_⟩
    have H := H.tail.tail
    have e3 : rs.map (fun r => rowB w0.heap.size r.v.data r.data) = ps.map (fun r => rowB w0.heap.size r.v.data r.data) := by
      have := congrArg (List.map fun y : Sl × List Int => rowB w0.heap.size y.1 y.2) hdd
      simpa [List.map_map, Function.comp_def] using this
    unfold ip6Fs
    rw [e3]
    exact H
end
end N6
end Go.Proofs.YthhgbpmihhljdaaGreatDoor
