/- A list of options that lies in old memory, or in a row of new memory, and stays. -/
import Derived.Test.YthhgbpmihhljdaaGreatDoorBaq
import Derived.Test.YthhgbpmihhljdaaGreatDoorBbm
import Derived.Test.YthhgbpmihhljdaaGreatDoorBbc
import Derived.Test.YthhgbpmihhljdaaGreatDoorBbk
import Derived.Test.YthhgbpmihhljdaaGreatDoorBax
namespace Go.Eng
open Go Go.RowKit
structure OptsOld (w0 : World) (s : Sl) (rs : List OptR) : Prop where
  len : rs.length = s.n
  cap : s.n ≤ s.k
  small : s.n ≤ 4000000
  each : ∀ r ∈ rs, BytesAt w0 r.v.data r.data
theorem OptsAt.old {w : World} {s : Sl} {rs : List OptR} (h : OptsAt w s rs) : OptsOld w s rs := ⟨h.len, h.cap, h.small, h.each⟩
def footS (A : Option Addr) (k : Nat) : Prop := ∃ a, A = some a ∧ a.block = k
theorem Recs.mod {w w' : World} {M : Nat → Prop} {A : Option Addr} {size : Nat} {rs : List (List Value)} (h : Recs w A size rs) (hm : Mod M w w') (hn : rs ≠ [] → ∀ a, A = some a → ¬ M a.block) : Recs w' A size rs := by
  have cm : ∀ {cs : List Value} {a : Addr} {i : Nat}, CellsAt w a i cs → ¬ M a.block → CellsAt w' a i cs := by
    intro cs
    induction cs with
    | nil => intro _ _ _ _; trivial
    | cons v r ih => intro a i hc hna; exact ⟨hm.cell hc.1 (by rw [add_block]; exact hna), ih hc.2 hna⟩
  intro i cs hi
  obtain ⟨a, ha, hc⟩ := h i cs hi
  exact ⟨a, ha, cm hc (by rw [add_block]; exact hn (fun e => by rw [e] at hi; simp at hi) a ha)⟩
/-- Records that lay there at w0, or lie in newer memory. -/
def Fct.recs (w0 : World) (A : Option Addr) (size : Nat) (rs : List (List Value)) : Fct :=
  ⟨fun k => rs ≠ [] ∧ w0.heap.size ≤ k ∧ footS A k, fun w => Recs w0 A size rs ∨ (rs ≠ [] → ∀ a, A = some a → w0.heap.size ≤ a.block) ∧ Recs w A size rs, fun M w w' h _ hm hn => by
    rcases h with h | ⟨h1, h2⟩
    · exact .inl h
    · exact .inr ⟨h1, h2.mod hm fun hne a ha => hn _ ⟨hne, h1 hne a ha, a, ha, rfl⟩⟩⟩
section
variable {w0 w : World} {Γ : List Fct} {A : Option Addr} {size : Nat} {rs : List (List Value)}
theorem Sep.recs (H : Sep Γ w) (hE : Ext w0 w) (i : Nat) (hi : Γ[i]? = some (Fct.recs w0 A size rs)) : Recs w A size rs := by
  rcases H.yes i _ hi with h | ⟨_, h⟩
  · exact h.ext hE
  · exact h
theorem Recs.lt {w : World} (h : Recs w A size rs) (h1 : ∀ r ∈ rs, r ≠ []) {r : List Value} (hr : r ∈ rs) {a : Addr} (ha : A = some a) : a.block < w.heap.size := by
  obtain ⟨i, hi⟩ := List.mem_iff_getElem?.1 hr
  obtain ⟨b, hb, hc⟩ := h i r hi
  rw [ha] at hb; cases hb
  cases r with
  | nil => exact absurd rfl (h1 [] hr)
  | cons v r =>
    have := World.block_lt_of_cell? w _ hc.1
    rwa [add_block, add_block] at this
end
end Go.Eng
/- Chapter 13, the document's Split4 and Fits4. -/
namespace Go.Eng
open Go Go.RowKit
theorem last43_snoc (l : List ExtD) (x : ExtD) : last43 (l ++ [x]) = if x.kind = 43 then l.length + 1 else last43 l := by
  induction l with
  | nil => show (if 0 < last43 [] then _ else _) = _; simp [last43]
  | cons y r ih =>
    rw [List.cons_append]
    unfold last43
    rw [ih]
    by_cases h : x.kind = 43
    · simp [h]
    · simp [h]
/-- How many of n bytes a piece behind a head of a bytes may have. -/
def takeS (left a mtu : Nat) : Nat := if a + left ≤ mtu then left else (mtu - a) / 8 * 8
theorem perm_rows {α : Type} (f : α → Fct) (g : α → List Fct) : ∀ rs : List α, (rs.map f ++ rs.flatMap g).Perm (rs.flatMap fun r => f r :: g r)
  | [] => .nil
  | r :: rs => by
    simp only [List.map_cons, List.flatMap_cons, List.cons_append]
    refine .cons _ ?_
    rw [← List.append_assoc]
    refine .trans ((List.perm_append_comm (l₁ := rs.map f) (l₂ := g r)).append_right _) ?_
    rw [List.append_assoc]
    exact (perm_rows f g rs).append_left _
end Go.Eng
namespace Go.Proofs.YthhgbpmihhljdaaGreatDoor
namespace N6
open Go.Eng Go.RowKit
section
variable {w : World} {s : Sl}
theorem take_spec {left a mtu : Nat} (hl : left ≤ 4000000) (ha : a ≤ mtu) (hm : mtu ≤ 65535) : Calls Tryz.prog 17 #[.int .i64 left, .int .i64 a, .int .i64 mtu] w fun e w' => w' = w ∧ e = .returned (.int .i64 (takeS left a mtu : Nat)) := by
  refine weirref13_take_of left a mtu w _ ?_
  unfold weirref13_take_VC takeS
  rw [w64 (by omega) (by omega)]
  refine Br.dec (fun h => ⟨rfl, by rw [if_pos (by omega)]⟩) fun h => ?_
  rw [if_neg (by omega)]
  refine LoopVC.of (fun st w' => w' = w ∧ ∃ i : Nat, st = ((8 * i : Nat) : Int) ∧ a + 8 * i ≤ mtu) (fun st _ => ((mtu : Int) - st).toNat) ⟨rfl, 0, rfl, by omega⟩ ?_
  rintro _ _ ⟨rfl, i, rfl, hi⟩
  unfold weirref13_take_L60
  rw [w64 (n := (a : Int) + ((8 * i : Nat) : Int)) (by omega) (by omega), w64 (by omega) (by omega), w64 (by omega) (by omega)]
  refine Br.dec (fun h1 => ⟨⟨rfl, i + 1, by omega, by omega⟩, by omega⟩) fun h1 => ⟨rfl, ?_⟩
  have : 8 * i = (mtu - a) / 8 * 8 := by omega
  rw [this]
end
end N6
end Go.Proofs.YthhgbpmihhljdaaGreatDoor
/- Chapter 13, the document's Split4; how many headers are kept; PutChain; Fits6. -/
namespace Go.Proofs.YthhgbpmihhljdaaGreatDoor
namespace N6
open Go.Eng Go.RowKit
section
variable {w : World} {Γ : List Fct}
theorem refKept_spec {s : Sl} {rs : List ExtR} (hX : ExtsAt w s rs) : Calls Tryz.prog 15 #[s.val] w fun e w' => w' = w ∧ e = .returned (.int .i64 (keptS (rs.map ExtR.d) : Nat)) := by
  refine weirref13_kept_of s.A s.n s.k w _ ?_
  unfold weirref13_kept_VC
  have hl := hX.len
  have hsm := hX.small
  refine JoinVC.of (fun x w' => w' = w ∧ x = (((match rs.map ExtR.d with | [] => 0 | x :: _ => if x.kind = 0 then 1 else 0 : Nat) : Nat) : Int)) ?_ ?_
  · refine Br.dec (fun h0 => ?_) fun h0 => ?_
    · refine hX.idx (i := 0) rfl (by omega) fun a r hr hc _ _ => ⟨r.v.kind, by simpa [ExtV.cells, add_zero] using hc.1, ?_⟩
      obtain ⟨rs1, rfl⟩ : ∃ rs1, rs = r :: rs1 := by
        cases rs with
        | nil => cases hr
        | cons x l => simp at hr; subst hr; exact ⟨l, rfl⟩
      refine Br.dec (fun h2 => ⟨rfl, ?_⟩) fun h2 => ⟨rfl, ?_⟩
      · simp only [List.map_cons]; rw [if_pos (show r.d.kind = 0 from h2)]; rfl
      · simp only [List.map_cons]; rw [if_neg (show ¬ r.d.kind = 0 from h2)]; rfl
    · have : rs = [] := List.eq_nil_of_length_eq_zero (by omega)
      subst this
      exact ⟨rfl, rfl⟩
  rintro n w1 ⟨hw1, hn⟩
  subst w1
  unfold weirref13_kept_J7
  refine LoopVC.of (fun st w' => w' = w ∧ ∃ i : Nat, st.2 = (i : Int) ∧ i ≤ s.n ∧ st.1 = if 0 < last43 ((rs.map ExtR.d).take i) then ((last43 ((rs.map ExtR.d).take i) : Nat) : Int) else n) (fun st _ => ((s.n : Int) - st.2).toNat) ⟨rfl, 0, rfl, Nat.zero_le _, by simp [last43]⟩ ?_
  rintro ⟨_, _⟩ w2 ⟨hw2, i, rfl, hi, rfl⟩
  subst w2
  show weirref13_kept_L122 _ s.A s.n (if 0 < last43 ((rs.map ExtR.d).take i) then ((last43 ((rs.map ExtR.d).take i) : Nat) : Int) else n) (i : Int) w _
  unfold weirref13_kept_L122
  refine Br.dec (fun hlt => ?_) fun hge => ?_
  · refine hX.idx rfl (by omega) fun a r hr hc _ _ => ⟨r.v.kind, by simpa [ExtV.cells, add_zero] using hc.1, ?_⟩
    have hi1 : IntKind.i64.wrap ((i : Int) + 1) = ((i + 1 : Nat) : Int) := by rw [w64 (by omega) (by omega)]; omega
    have htake : (rs.map ExtR.d).take (i + 1) = (rs.map ExtR.d).take i ++ [r.d] := by
      rw [List.take_add_one, List.getElem?_map, hr]; rfl
    have htl : ((rs.map ExtR.d).take i).length = i := by rw [List.length_take, List.length_map]; omega
    rw [hi1]
    refine Br.dec (fun h1 => ⟨⟨rfl, i + 1, rfl, by omega, ?_⟩, by simp only; omega⟩) fun h1 => ⟨⟨rfl, i + 1, rfl, by omega, ?_⟩, by simp only; omega⟩
    · rw [htake, last43_snoc, if_pos (show r.d.kind = 43 from h1), htl, if_pos (by omega)]
    · rw [htake, last43_snoc, if_neg (show ¬ r.d.kind = 43 from h1)]
  · have hin : i = s.n := by omega
    refine ⟨rfl, ?_⟩
    have htk : (rs.map ExtR.d).take i = rs.map ExtR.d := List.take_of_length_le (by rw [List.length_map]; omega)
    rw [htk, hn]
    unfold keptS
    split
    · rfl
    · cases rs.map ExtR.d <;> rfl
theorem refPutChain_spec {s : Sl} {rs : List ExtR} {next : Int} (hX : ExtsAt w s rs) : Calls Tryz.prog 16 #[s.val, .int .i64 next] w (Made w (putChainS (rs.map ExtR.d) next)) := by
  refine weirref7_PutChain_of s.A s.n s.k next w _ ?_
  unfold weirref7_PutChain_VC
  have r1 : next < 0 ∨ 255 < next → putChainS (rs.map ExtR.d) next = ([], 1) := fun h => by unfold putChainS; rw [if_pos h]
  refine refOut_spec.mono ?_
  rintro _ _ ⟨rfl, rfl⟩
  refine ⟨_, rfl, Br.dec (fun h1 => Made.err (Mod.refl _ _) (r1 h1)) fun h1 => ?_⟩
  refine (refHeaders_spec (next := next) (top := false) hX).mono ?_
  rintro _ w2 ⟨A, c, rfl, H⟩
  have hs : putChainS (rs.map ExtR.d) next = if (headersS (rs.map ExtR.d) next false).2 ≠ 0 then ([], (headersS (rs.map ExtR.d) next false).2) else if upperS next = true then ((headersS (rs.map ExtR.d) next false).1, 0) else ([], 72) := by
    unfold putChainS; rw [if_neg h1]
  refine ⟨_, _, _, _, rfl, Br.dec (fun h3 => Made.err (H.restOf 0 rfl) (by rw [hs, if_pos h3])) fun h3 => ?_⟩
  rw [if_neg h3] at hs
  refine upper_spec.mono ?_
  rintro _ _ ⟨rfl, rfl⟩
  refine ⟨_, rfl, ?_⟩
  cases hu : upperS next with
  | true => exact Br.f rfl (Made.ok (by rw [hs, if_pos hu]) H)
  | false => exact Br.t rfl (Made.err (H.restOf 0 rfl) (by rw [hs, if_neg (by rw [hu]; decide)]))
end
end N6
end Go.Proofs.YthhgbpmihhljdaaGreatDoor
/- Chapter 13, the document's Split6: the loop over the pieces. -/
namespace Go.Eng
open Go Go.RowKit
/-- A window of bytes, and of the same bytes in any later memory. -/
theorem BytesAt.partW {w : World} {s : Sl} {l : List Int} (h : BytesAt w s l) {p k : Nat} (hk : p + k ≤ s.n) {lo hi : Int} (h1 : lo = p) (h2 : hi = (p + k : Nat)) {F : Option Addr → Nat → Nat → Prop}
    (hF : ∀ s' : Sl, (∀ w', BytesAt w' s l → BytesAt w' s' ((l.drop p).take k)) → F s'.A s'.n s'.k) : SliceVC s.A s.n s.k 1 (some lo) (some hi) none F := by
  subst h1; subst h2
  have hc := h.cap
  have hs := h.small
  have hl := h.len
  refine ⟨by omega, by omega, by omega, ?_⟩
  simp only [Int.toNat_natCast, Nat.mul_one]
  have e : p + k - p = k := by omega
  rw [e]
  refine hF ⟨_, k, s.k - p⟩ fun w' h' => ⟨by simp; omega, by show k ≤ s.k - p; omega, by show k ≤ 4000000; omega, fun x hx => h.bts x (List.mem_of_mem_drop (List.mem_of_mem_take hx)), ?_⟩
  have := h'.cells.win (p := p) (k := k)
  rw [List.map_take, List.map_drop]
  simp only [Int.toNat_natCast] at this
  show Cells w' (if s.k = p then s.A else s.A.map (·.add p)) _
  by_cases h0 : k = 0
  · subst h0; simpa using Cells.nil _ _
  · rw [if_neg (by omega)] at this ⊢
    exact this
end Go.Eng
namespace Go.Proofs.YthhgbpmihhljdaaGreatDoor
namespace N6
open Go.Eng Go.RowKit
section
variable {w : World} {Γ : List Fct}
def Rows6 (b : Nat) (rs : List Ip6R) : List Fct := rs.flatMap fun r => rowB b r.v.data r.data :: extFs b r.v.exts r.exts
def pv6 (h : Ip6V) (se : Sl) (nx id : Int) (more : Bool) (off : Int) (sd : Sl) : Ip6V := { h with exts := se, next := nx, frag := ⟨true, more, id, off⟩, data := sd }
set_option maxHeartbeats 2000000 in
theorem refSplit6_loop {w w0 : World} {h : Ip6V} {es : List ExtR} {data cut : List Int} {a mtu g3 : Nat} {id : Int} {se sl sd0 : Sl} {more0 : Bool} {off0 : Int} (hA : Ip6At w0 h es data) (ha : a + 8 ≤ mtu) (hm : mtu ≤ 65535)
    (hcut : cut = rest6 (h.d es data)) (hn : 0 < cut.length) (hcl : BFine sl cut) (hse : ExtsAt w0 se (es.take (keptS (es.map ExtR.d))))
    (H0 : Sep [Fct.blk g3 30 (pv6 h se (firstR (h.d es data)) id more0 off0 sd0).cells, rowB w0.heap.size sl cut, Fct.rest w0 None] w) :
    LoopVC (S := (Option Addr × Nat × Nat) × Int) (fun s_ w18 K => weirref13_Split6_L4194300 (Cut6 w0 ((parts a a mtu cut.length 0).map (piece6 (h.d es data) id), 0)) (mtu : Int) sl.A sl.n sl.k g3 (a : Int) s_.1.1 s_.1.2.1 s_.1.2.2 s_.2 w18 K) ((none, 0, 0), 0) w := by
  generalize hall : (parts a a mtu cut.length 0).map (piece6 (h.d es data) id) = all
  have hcn : sl.n = cut.length := (ownB_len H0 1 rfl).symm
  have hcs := hcl.1
  refine LoopVC.of (fun st w' => ∃ (p : Nat) (rs : List Ip6R) (more : Bool) (off : Int) (sd : Sl), st.2 = p ∧ p ≤ cut.length ∧ (p < cut.length → rs.map Ip6R.d ++ (parts a a mtu cut.length p).map (piece6 (h.d es data) id) = all) ∧ (p = cut.length → rs.map Ip6R.d = all) ∧
      rs.length = st.1.2.1 ∧ st.1.2.1 ≤ p ∧ (∀ r ∈ rs, Ip6Fine r) ∧ Sep (Fct.blk g3 30 (pv6 h se (firstR (h.d es data)) id more off sd).cells :: rowB w0.heap.size sl cut :: Fct.rest w0 None :: rowI6 w0.heap.size ⟨st.1.1, st.1.2.1, st.1.2.2⟩ rs :: Rows6 w0.heap.size rs) w') (fun st _ => ((cut.length : Int) - st.2).toNat)
    ⟨0, [], more0, off0, sd0, rfl, Nat.zero_le _, fun _ => hall, fun h => by omega, rfl, Nat.zero_le _, (fun r hr => by cases hr), H0.nil _ _ _⟩ ?_
  rintro ⟨⟨A1, n1, cc⟩, _⟩ w18 ⟨p, rs, more, off, sd, rfl, hp, hd1, hd2, hlen, hn1, hfr, H⟩
  simp only at hn1 hlen
  show weirref13_Split6_L4194300 _ (mtu : Int) sl.A sl.n sl.k g3 (a : Int) A1 n1 cc (p : Int) w18 _
  unfold weirref13_Split6_L4194300
  refine Br.dec (fun hlt => ?_) fun hge => ?_
  · have hpn : p < cut.length := by omega
    have hd1 := hd1 hpn
    rw [show IntKind.i64.wrap ((sl.n : Int) - (p : Int)) = ((cut.length - p : Nat) : Int) by rw [w64 (by omega) (by omega)]; omega]
    refine (take_spec (by omega) (by omega) hm).mono ?_
    rintro _ w19 ⟨hw19, rfl⟩
    subst w19
    refine ⟨_, rfl, ?_⟩
    have hroom : room a a mtu p = mtu - a := by unfold room; split <;> rfl
    generalize htk : takeS (cut.length - p) a mtu = k
    have hpart : p + k ≤ cut.length ∧ ((p + k = cut.length ∧ parts a a mtu cut.length p = [(p, k)]) ∨ (p + k < cut.length ∧ 0 < k ∧ parts a a mtu cut.length p = (p, k) :: parts a a mtu cut.length (p + k))) := by
      by_cases hfit : cut.length - p ≤ room a a mtu p
      · have hk : k = cut.length - p := by rw [← htk]; unfold takeS; rw [if_pos (by omega)]
        refine ⟨by omega, .inl ⟨by omega, ?_⟩⟩
        rw [parts_last hfit, hk]
      · have hk : k = room a a mtu p / 8 * 8 := by rw [← htk, hroom]; unfold takeS; rw [if_neg (by omega)]
        refine ⟨by omega, .inr ⟨by omega, by omega, ?_⟩⟩
        rw [parts_more ha ha hfit, hk]
    obtain ⟨hpk, hpc⟩ := hpart
    have e1 : IntKind.i64.wrap ((p : Int) + (k : Int)) = ((p + k : Nat) : Int) := by rw [w64 (by omega) (by omega)]; omega
    rw [e1]
    have hmo : decide (((p + k : Nat) : Int) < (sl.n : Int)) = decide (p + k < cut.length) := decide_eq_decide.2 (by omega)
    rw [hmo]
    refine SetVC.sep H 0 rfl (show 41 < 44 by decide) fun w20 H => SetVC.sep H 0 rfl (show 39 < 44 by decide) fun w21 H => ?_
    have hrow : BytesAt w21 sl cut := bytesAt_of (b := w0.heap.size) (H.own 1 rfl) hcl
    refine hrow.partW (p := p) (k := k) (by omega) rfl rfl fun sp hspw => SetVC.sep H 0 rfl (show 43 < 44 by decide) fun w22 H => ?_
    have hsp : BytesAt w22 sp ((cut.drop p).take k) := hspw w22 (bytesAt_of (b := w0.heap.size) (H.own 1 rfl) hcl)
    have H : Sep (Fct.blk g3 30 (pv6 h se (firstR (h.d es data)) id (decide (p + k < cut.length)) (p : Int) sp).cells :: rowB w0.heap.size sl cut :: Fct.rest w0 None :: rowI6 w0.heap.size ⟨A1, n1, cc⟩ rs :: Rows6 w0.heap.size rs) w22 := H
    have hA7 : Ip6At w22 (pv6 h se (firstR (h.d es data)) id (decide (p + k < cut.length)) (p : Int) sp) (es.take (keptS (es.map ExtR.d))) ((cut.drop p).take k) := ⟨hse.ext (H.restOf 2 rfl), hsp, hA.src, hA.dst⟩
    have hd7 : (pv6 h se (firstR (h.d es data)) id (decide (p + k < cut.length)) (p : Int) sp).d (es.take (keptS (es.map ExtR.d))) ((cut.drop p).take k) = piece6 (h.d es data) id (p, k) := by
      unfold pv6 Ip6V.d piece6
      rw [hcut]
      simp only [List.map_take]
      rfl
    refine Ip6V.of _ ⟨H.at 0 rfl, ?_⟩
    have hz22 := (H.restOf 2 rfl).size
    refine (clone6_spec hA7).mono ?_
    rintro _ w23 ⟨r, rfl, hrd, hrf, H23⟩
    rw [hd7] at hrd
    have H23 := (AllLe.append (AllLe.refl [Fct.rest w22 None]) (.cons (own_less hz22).1 (own_less hz22).2 (extFs_less hz22))).sep H23
    have H := H.mades H23
    refine onRet_ret (Ip6V.of r.v ⟨rfl, NewVC.sep H fun g4 w24 H => ?_⟩)
    have H := H.front
    have hz24 := (H.restOf 3 rfl).size
    refine appI6 H 4 rfl (Cells.blk0 (H.blk 0 rfl)) (show n1 ≤ 1000000000 by omega) (by omega) fun A2 c2 w25 H hc2 => ⟨⟨p + k, rs ++ [r], decide (p + k < cut.length), (p : Int), sp, rfl, hpk, ?_, ?_, by simp [hlen], ?_, ?_, ?_⟩, ?_⟩
    · intro hlt2
      rcases hpc with ⟨h1, _⟩ | ⟨_, _, h2⟩
      · omega
      · rw [← hd1, h2, List.map_append, List.map_cons, List.map_nil, hrd]; simp
    · intro he
      rcases hpc with ⟨_, h2⟩ | ⟨h1, _, _⟩
      · rw [← hd1, h2, List.map_append, List.map_cons, List.map_nil, hrd]; simp
      · omega
    · rcases hpc with ⟨h1, _⟩ | ⟨_, h1, _⟩
      · show n1 + 1 ≤ p + k; omega
      · show n1 + 1 ≤ p + k; omega
    · intro y hy
      rcases List.mem_append.1 hy with hy | hy
      · exact hfr y hy
      · simp at hy; subst hy; exact hrf
    · have H := H.tail
      simp only [rowI6, Rows6, List.map_append, List.flatten_append, List.map_cons, List.map_nil, List.flatten_cons, List.flatten_nil, List.append_nil, List.flatMap_append, List.flatMap_cons, List.flatMap_nil]
      exact H
    · show ((cut.length : Int) - ((p + k : Nat) : Int)).toNat < ((cut.length : Int) - (p : Int)).toNat
      rcases hpc with ⟨h1, _⟩ | ⟨_, h1, _⟩ <;> omega
  · have hpe : p = cut.length := by omega
    refine ⟨⟨A1, n1, cc⟩, rs, rfl, hd2 hpe, ⟨hlen, by show n1 ≤ 4000001; omega, hfr⟩, ?_⟩
    have H := H.tail.tail
    exact H.perm (.cons _ (.cons _ (perm_rows _ _ rs)))
end
end N6
end Go.Proofs.YthhgbpmihhljdaaGreatDoor
/- Chapter 13, the document's Split6. -/
namespace Go.Eng
open Go Go.RowKit
def headD (d : Ip6D) (id : Int) : Ip6D := { d with exts := d.exts.take (keptS d.exts), next := firstR d, frag := ⟨true, false, id, 0⟩, data := [] }
theorem head6_ok {d : Ip6D} {id : Int} (h : (ser6S d).2 = 0) (hf : d.frag.has = false) (hid : 0 ≤ id ∧ id ≤ 4294967295) : (ser6S (headD d id)).1.length = hd6 d := by
  obtain ⟨e1, e2, e3, e4, e5⟩ := split6_len h hf 44
  have hsl := ser6S_len d
  have hfr := firstR_range h
  have hhl := headersS_len (d.exts.take (keptS d.exts)) 44 true
  have hd : hd6 d = 48 + (headersS (d.exts.take (keptS d.exts)) 44 true).1.length := by unfold hd6; omega
  have hb : behindK (headD d id) = 44 := rfl
  have hex : (headD d id).exts = d.exts.take (keptS d.exts) := rfl
  have hfb : (fragB (headD d id)).length = 8 := rfl
  have hdt : (headD d id).data = [] := rfl
  have hbl : (bodyB (headD d id)).length = (headersS (d.exts.take (keptS d.exts)) 44 true).1.length + 8 := by
    unfold bodyB
    rw [List.length_append, List.length_append, hb, hex, hfb, hdt, List.length_nil]
  have hbad : ¬ fieldBad (headD d id) := by
    unfold fieldBad at e4 ⊢
    have : (headD d id).next = firstR d := rfl
    rw [this]
    intro hq
    apply e4
    rcases hq with hq | hq | hq | hq | hq | hq | hq | hq | hq | hq
    · exact .inl hq
    · exact .inr (.inl hq)
    · exact .inr (.inr (.inl hq))
    · exact .inr (.inr (.inr (.inl hq)))
    · exact .inr (.inr (.inr (.inr (.inl hq))))
    · exact .inr (.inr (.inr (.inr (.inr (.inl hq)))))
    · exact .inr (.inr (.inr (.inr (.inr (.inr (.inl hq))))))
    · exact .inr (.inr (.inr (.inr (.inr (.inr (.inr (.inl hq)))))))
    · omega
    · omega
  have hfe : fragE (headD d id) = 0 := by
    unfold fragE
    have hfg : (headD d id).frag = ⟨true, false, id, 0⟩ := rfl
    rw [hfg, hdt, List.length_nil]
    simp only
    rw [if_pos True.intro, if_neg]
    have hft : fitsS ⟨true, false, id, 0⟩ 0 = true := rfl
    rw [hft]
    intro hq
    rcases hq with hq | hq | hq | hq | hq | hq
    · omega
    · omega
    · omega
    · omega
    · omega
    · cases hq
  have key : ser6S (headD d id) = (head6 (headD d id) (bodyB (headD d id)).length ++ ((headD d id).src.bytes ++ ((headD d id).dst.bytes ++ bodyB (headD d id))), 0) := by
    unfold ser6S
    rw [if_neg hbad, hb, hex, if_neg (by omega), if_neg (by omega), if_neg (by omega)]
  rw [key]
  have h8 : ∀ n, (head6 (headD d id) n).length = 8 := fun _ => rfl
  have hs : (headD d id).src.bytes.length = 16 := rfl
  have ht : (headD d id).dst.bytes.length = 16 := rfl
  simp only [List.length_append, h8, hs, ht, hbl]
  omega
end Go.Eng
namespace Go.Proofs.YthhgbpmihhljdaaGreatDoor
namespace N6
open Go.Eng Go.RowKit
section
variable {w : World} {Γ : List Fct}
theorem cut6_one {w w9 : World} {g3 : Nat} {r : Ip6R} {Δ : List Fct} {d : Ip6D} (hrd : r.d = d) (hrf : Ip6Fine r) (hg : w.heap.size ≤ g3) (H : Sep (Fct.blk g3 30 r.v.cells :: Fct.rest w None :: (Δ ++ (rowB w.heap.size r.v.data r.data :: extFs w.heap.size r.v.exts r.exts))) w9) :
    Cut6 w ([d], 0) (.returned (.tuple #[.slice (some ⟨g3, 0, none⟩) 1 1, .int .i64 0])) w9 := by
  have H := H.blkRec 0 rfl (b := w.heap.size) (n := 1) (size := 44) hg rfl (by decide)
  refine ⟨⟨some ⟨g3, 0, none⟩, 1, 1⟩, [r], rfl, by simp [hrd], ⟨rfl, show 1 ≤ 4000001 by decide, fun y hy => by simp at hy; subst hy; exact hrf⟩, ?_⟩
  have H := H.sub (Γ' := rowI6 w.heap.size ⟨some ⟨g3, 0, none⟩, 1, 1⟩ [r] :: Fct.rest w None :: rowB w.heap.size r.v.data r.data :: extFs w.heap.size r.v.exts r.exts) (by
    simp only [rowI6, List.map_cons, List.map_nil, List.flatten_cons, List.flatten_nil, List.append_nil]
    exact .cons_cons _ (.cons_cons _ (List.sublist_append_right _ _)))
  have H := H.perm (.swap _ _ _)
  unfold ip6Fs
  simp only [List.map_cons, List.map_nil, List.flatMap_cons, List.flatMap_nil, List.append_nil, List.singleton_append]
  exact H
set_option maxHeartbeats 2000000 in
theorem refSplit6_spec {h : Ip6V} {es : List ExtR} {data : List Int} {mtu id : Int} (hA : Ip6At w h es data) : Calls Tryz.prog 4 #[h.val, .int .i64 mtu, .int .i64 id] w (Cut6 w (split6S (h.d es data) mtu id)) := by
  refine weirref13_Split6_of h mtu id w _ ?_
  unfold weirref13_Split6_VC
  refine NewVC.sep (Sep.start0 w) fun g1 w1 H => Ip6V.of h ⟨H.at 1 rfl, ?_⟩
  refine (refCheck6_spec (hA.ext (H.restOf 0 rfl))).mono ?_
  rintro _ w2 ⟨hE2, rfl⟩
  have H := H.ext hE2
  refine ⟨_, rfl, Br.dec (fun hne => Cut6.err (H.restOf 0 rfl) (by unfold split6S; rw [if_pos hne])) fun hc => ?_⟩
  have hc : (ser6S (h.d es data)).2 = 0 := by omega
  refine Br.dec (fun h1 => Cut6.err (H.restOf 0 rfl) (by unfold split6S; rw [if_neg (by omega), if_pos (by omega)])) fun h1 => ?_
  refine Br.dec (fun h2 => Cut6.err (H.restOf 0 rfl) (by unfold split6S; rw [if_neg (by omega), if_pos (by omega)])) fun h2 => ?_
  refine Br.dec (fun h3 => Cut6.err (H.restOf 0 rfl) (by unfold split6S; rw [if_neg (by omega), if_neg (by omega), if_pos (by omega)])) fun h3 => ?_
  refine Br.dec (fun h4 => Cut6.err (H.restOf 0 rfl) (by unfold split6S; rw [if_neg (by omega), if_neg (by omega), if_pos (by omega)])) fun h4 => ?_
  obtain ⟨m, rfl⟩ : ∃ m : Nat, mtu = m := ⟨mtu.toNat, by omega⟩
  refine Ip6V.of h ⟨H.at 1 rfl, ?_⟩
  refine (refSize6_spec (hA.ext (H.restOf 0 rfl))).mono ?_
  rintro _ w3 ⟨hE3, rfl⟩
  have H := H.ext hE3
  have hes : split6S (h.d es data) (m : Int) id = if ((ser6S (h.d es data)).1.length : Int) ≤ (m : Int) then ([h.d es data], 0) else if h.frag.has = true then ([], 131) else if (m : Int) < (hd6 (h.d es data) + 8 : Nat) then ([], 133)
      else ((parts (hd6 (h.d es data)) (hd6 (h.d es data)) m (rest6 (h.d es data)).length 0).map (piece6 (h.d es data) id), 0) := by
    unfold split6S
    rw [if_neg (by omega), if_neg (by omega), if_neg (by omega)]
    rfl
  refine ⟨_, rfl, Br.dec (fun hfit => ?_) fun hfit => ?_⟩
  · rw [if_pos hfit] at hes
    refine Ip6V.of h ⟨H.at 1 rfl, ?_⟩
    have hz3 := (H.restOf 0 rfl).size
    refine (clone6_spec (hA.ext (H.restOf 0 rfl))).mono ?_
    rintro _ w4 ⟨r, rfl, hrd, hrf, H4⟩
    have H4 := (AllLe.append (AllLe.refl [Fct.rest w3 None]) (.cons (own_less hz3).1 (own_less hz3).2 (extFs_less hz3))).sep H4
    have H := H.mades H4
    refine onRet_ret (Ip6V.of r.v ⟨rfl, NewVC.sep H fun g2 w5 H => ?_⟩)
    have H := H.front
    have hg := H.fresh 1 0 (by decide) rfl rfl
    rw [hes]
    exact cut6_one (Δ := [Fct.blk g1 30 h.cells]) hrd hrf hg H
  rw [if_neg hfit] at hes
  refine ⟨_, H.cell 1 rfl 38 rfl, ?_⟩
  cases hfr : h.frag.has with
  | true =>
    rw [if_pos hfr] at hes
    exact Br.t rfl (Cut6.err (H.restOf 0 rfl) hes)
  | false =>
    rw [if_neg (by rw [hfr]; decide)] at hes
    have hfr' : (h.d es data).frag.has = false := hfr
    obtain ⟨k1, k2, k3, k4, k5⟩ := split6_len hc hfr' 44
    have hsl := ser6S_len (h.d es data)
    have hk := keptS_le (es.map ExtR.d)
    rw [List.length_map, hA.exts.len] at hk
    have hXc := hA.exts.cap
    have hds := hA.data.small
    have hdl := hA.data.len
    have hee : (h.d es data).exts = es.map ExtR.d := rfl
    have hen : (h.d es data).next = h.next := rfl
    refine Br.f rfl ⟨_, _, _, H.cell 1 rfl 37 rfl, ?_⟩
    refine (refKept_spec (s := h.exts) (rs := es) (hA.exts.ext (H.restOf 0 rfl))).mono ?_
    rintro _ w6 ⟨hw6, rfl⟩
    subst w6
    refine ⟨_, rfl, DrawVC.sep H (fun w' => Blk w' g1 30 h.cells) fun w7 H => ⟨H.blk 1 rfl, _, _, _, fun w' hb => hb.cell 37, ⟨by omega, by omega, ?_⟩⟩⟩
    refine ⟨_, fun w' hb => hb.cell 42, ?_⟩
    rw [Int.toNat_natCast]
    have hz7 := (H.restOf 0 rfl).size
    refine (refPutChain_spec (s := ⟨if h.exts.k = keptS (es.map ExtR.d) then h.exts.A else h.exts.A.map (·.add (keptS (es.map ExtR.d) * 3)), h.exts.n - keptS (es.map ExtR.d), h.exts.k - keptS (es.map ExtR.d)⟩) (rs := es.drop (keptS (es.map ExtR.d))) (next := h.next)
      ((hA.exts.ext (H.restOf 0 rfl)).drop hk)).mono ?_
    have hpc : putChainS ((es.drop (keptS (es.map ExtR.d))).map ExtR.d) h.next = ((headersS ((h.d es data).exts.drop (keptS (h.d es data).exts)) (h.d es data).next false).1, 0) := by
      rw [hee, hen, List.map_drop]
      unfold putChainS
      rw [hee, hen] at k2
      rw [hen] at k5
      have : ¬ (h.next < 0 ∨ 255 < h.next) := fun x => k4 (by unfold fieldBad; rw [hen]; omega)
      rw [if_neg this, if_neg (by omega), if_pos k5]
    rw [hpc]
    rintro _ w8 ⟨PA, pc, rfl, H8⟩
    have H := (H.made (H8.lower 1 rfl hz7))
    refine ⟨_, _, _, _, rfl, H.blk 1 rfl, _, _, _, H.cell 1 rfl 43 rfl, ?_⟩
    have hz8 := (H.restOf 0 rfl).size
    have hhl := headersS_len ((h.d es data).exts.drop (keptS (h.d es data).exts)) (h.d es data).next false
    refine appB (m := h.data.n) (ys := data) H 2 rfl ((hA.data.ext (H.restOf 0 rfl)).cells) hdl (show (headersS ((h.d es data).exts.drop (keptS (h.d es data).exts)) (h.d es data).next false).1.length + h.data.n ≤ 140737488355328 by omega) (by omega) fun A2 c2 w9 H hc2 => ?_
    have hrest : (headersS ((h.d es data).exts.drop (keptS (h.d es data).exts)) (h.d es data).next false).1 ++ data = rest6 (h.d es data) := rfl
    rw [hrest] at H
    obtain ⟨sl, hsl'⟩ : ∃ sl : Sl, sl = ⟨A2, (headersS ((h.d es data).exts.drop (keptS (h.d es data).exts)) (h.d es data).next false).1.length + h.data.n, c2⟩ := ⟨_, rfl⟩
    have hrl : sl.n = (rest6 (h.d es data)).length := by rw [hsl', ← hrest, List.length_append, hdl]
    have H : Sep [Fct.rest w None, Fct.blk g1 30 h.cells, rowB w.heap.size sl (rest6 (h.d es data))] w9 := by rw [hsl']; exact H
    have hBts : Bts (rest6 (h.d es data)) := by
      rw [← hrest]
      refine Bts.append (headersS_bts fun x hx => ?_) hA.data.bts
      rw [hee] at hx
      obtain ⟨y, hy, rfl⟩ := List.mem_map.1 (List.mem_of_mem_drop hx)
      exact ⟨(hA.exts.data y hy).bts, fun o ho => by
        obtain ⟨z, hz, rfl⟩ := List.mem_map.1 ho
        exact ((hA.exts.opts y hy).each z hz).bts⟩
    refine Ip6V.of h ⟨H.at 1 rfl, NewVC.sep H fun g3 w10 H => ?_⟩
    have H := H.front
    refine Stores.sep H 0 rfl (Ip6V.one _) (Nat.le_refl _) (splice_all rfl) fun w11 H => ⟨_, _, _, H.cell 2 rfl 37 rfl, ⟨by omega, by omega, ?_⟩⟩
    rw [Int.toNat_natCast]
    refine SetVC.sep H 0 rfl (show 37 < 44 by decide) fun w12 H => ?_
    obtain ⟨se, hse⟩ : ∃ se : Sl, se = ⟨h.exts.A, keptS (es.map ExtR.d), h.exts.k⟩ := ⟨_, rfl⟩
    refine Stores.sep H 0 rfl (cs' := (pv6 h se h.next id false 0 h.data).cells) (by first | exact FragV.one _ | exact fun v hv => by simp at hv; rcases hv with rfl | rfl | rfl | rfl <;> rfl) (show 38 + 4 ≤ 44 by decide) (by rw [hse]; rfl) fun w13 H => ?_
    have hlen := hA.exts.len
    refine JoinVC.of (fun _ w' => Sep [Fct.blk g3 30 (pv6 h se (firstR (h.d es data)) id false 0 h.data).cells, Fct.rest w None, Fct.blk g1 30 h.cells, rowB w.heap.size sl (rest6 (h.d es data))] w') ?_ ?_
    · refine ⟨_, _, _, H.cell 2 rfl 37 rfl, Br.dec (fun hlt => ⟨_, _, _, H.cell 2 rfl 37 rfl, ?_⟩) fun hge => ?_⟩
      · refine (hA.exts.ext (H.restOf 1 rfl)).idx rfl (by omega) fun a r hr hcr _ _ => ⟨r.v.kind, by simpa [ExtV.cells, add_zero] using hcr.1, ?_⟩
        have hf1 : firstR (h.d es data) = r.v.kind := by
          unfold firstR
          rw [hee, ← List.map_drop]
          obtain ⟨hkl, hke⟩ := List.getElem?_eq_some_iff.1 hr
          rw [List.drop_eq_getElem_cons hkl, hke]
          rfl
        refine SetVC.sep H 0 rfl (show 42 < 44 by decide) fun w14 H => ?_
        rw [hf1]
        exact H
      · have hf1 : firstR (h.d es data) = h.next := by
          unfold firstR
          rw [hee, List.drop_of_length_le (by simp; omega)]
          rfl
        rw [hf1]
        exact H
    rintro _ w15 H
    show weirref13_Split6_J16383 _ (m : Int) A2 _ c2 g3 w15
    unfold weirref13_Split6_J16383
    refine SetVC.sep H 0 rfl (show 43 < 44 by decide) fun w16 H => ?_
    have H : Sep [Fct.blk g3 30 (pv6 h se (firstR (h.d es data)) id false 0 ⟨none, 0, 0⟩).cells, Fct.rest w None, Fct.blk g1 30 h.cells, rowB w.heap.size sl (rest6 (h.d es data))] w16 := H
    have hseA : ExtsAt w se (es.take (keptS (es.map ExtR.d))) := by rw [hse]; exact hA.exts.take hk
    refine Ip6V.of _ ⟨H.at 0 rfl, ?_⟩
    refine (refSize6_spec (h := pv6 h se (firstR (h.d es data)) id false 0 ⟨none, 0, 0⟩) (es := es.take (keptS (es.map ExtR.d))) (data := []) ⟨hseA.ext (H.restOf 1 rfl), BytesAt.nil _ _ _, hA.src, hA.dst⟩).mono ?_
    rintro _ w17 ⟨hE17, rfl⟩
    have H := H.ext hE17
    have hhead : (ser6S (Ip6V.d (pv6 h se (firstR (h.d es data)) id false 0 ⟨none, 0, 0⟩) (es.take (keptS (es.map ExtR.d))) [])).1.length = hd6 (h.d es data) := by
      rw [← head6_ok (id := id) hc hfr' ⟨by omega, by omega⟩]
      unfold pv6 Ip6V.d headD
      simp only [List.map_take]
    rw [hhead]
    have hd : hd6 (h.d es data) ≤ 65543 := by unfold hd6; omega
    have e2 : IntKind.i64.wrap (((hd6 (h.d es data) : Nat) : Int) + 8) = ((hd6 (h.d es data) + 8 : Nat) : Int) := by rw [w64 (by omega) (by omega)]; omega
    refine ⟨_, rfl, ?_⟩
    rw [e2]
    refine Br.dec (fun ht => Cut6.err (H.restOf 1 rfl) (by rw [hes, if_pos ht])) fun ht => ?_
    rw [if_neg ht] at hes
    rw [hes]
    have hpos : 0 < (rest6 (h.d es data)).length := by unfold hd6 at ht; omega
    have H := H.sub (Γ' := [Fct.blk g3 30 (pv6 h se (firstR (h.d es data)) id false 0 ⟨none, 0, 0⟩).cells, Fct.rest w None, rowB w.heap.size sl (rest6 (h.d es data))]) (.cons_cons _ (.cons_cons _ (.cons _ (List.Sublist.refl _))))
    have H := H.perm (.cons _ (.swap _ _ _))
    have hloop := refSplit6_loop (mtu := m) (a := hd6 (h.d es data)) (id := id) hA (by omega) (by omega) rfl hpos ⟨by omega, hBts⟩ hseA H
    rw [hsl'] at hloop
    exact hloop
end
end N6
end Go.Proofs.YthhgbpmihhljdaaGreatDoor
/- TopWholeOnce6, whole. -/
namespace Go.Proofs.YthhgbpmihhljdaaGreatDoor
namespace N6
open Go Go.Eng Go.RowKit
section
variable {w : World} {T : TabR}
/-- A datagram that is no fragment goes through. -/
theorem offer6_plain {h : Ip6V} {es : List ExtR} {d : List Int} (hA : Ip6At w h es d) (hK : Kn w) (hz : (ser6S (h.d es d)).2 = 0) (hf : h.frag.has = false) : Calls Tryz.prog 8 #[T.p, h.val] w fun e w' =>
    e = .returned (.tuple #[h.val, .int .i64 0, .int .i64 1, .int .i64 0]) ∧ Ext w w' := by
  refine reasm_Table_Offer6_of _ h w _ ?_
  unfold reasm_Table_Offer6_VC
  refine NewVC.sep (Sep.start0 w) fun g1 w1 H1 => NewVC.sep H1 fun g2 w2 H2 => ?_
  refine Ip6V.of h ⟨H2.at 1 rfl, (check6_spec (hA.ext (H2.restOf 0 rfl)) (hK.ext (H2.restOf 0 rfl))).mono ?_⟩
  rintro _ w3 ⟨hE, rfl⟩
  have H3 := H2.ext hE
  refine ⟨_, rfl, Br.f (decide_eq_false fun h => h hz) ⟨_, (H3.blk 1 rfl).cell 40, _, (H3.blk 1 rfl).cell 38, ?_⟩⟩
  rw [hf]
  exact Br.t rfl (Ip6V.of h ⟨H3.at 1 rfl, Stores.sep H3 2 rfl (Ip6V.one _) (Nat.le_refl _) (splice_all rfl) fun w4 H4 => Ip6V.of h ⟨H4.at 2 rfl, rfl, H4.restOf 0 rfl⟩⟩)
theorem rest6_bytes {h : Ip6V} {es : List ExtR} {data : List Int} (hA : Ip6At w h es data) : Bts (rest6 (h.d es data)) := by
  refine Bts.append (headersS_bts fun x hx => ?_) hA.data.bts
  obtain ⟨y, hy, rfl⟩ := List.mem_map.1 (List.mem_of_mem_drop hx)
  exact ⟨(hA.exts.data y hy).bts, fun o ho => by
    obtain ⟨z, hz, rfl⟩ := List.mem_map.1 ho
    exact ((hA.exts.opts y hy).each z hz).bts⟩
theorem at_start {d : Ip6D} {id : Int} {xs : List (Nat × Nat)} {g m : Nat} : AtT d id xs ⟨g, m, 256, 3, 0, []⟩ [] 0 where
  ok := new_ok (by decide) (by decide) (by decide) (by decide)
  max := rfl
  nodup := List.nodup_nil
  lt := fun _ h => by cases h
  none := fun _ _ h => by cases h
  some := fun h => absurd rfl h
  len := Nat.zero_le _
set_option maxHeartbeats 4000000 in
theorem whole_once_law {h : Ip6V} {es : List ExtR} {data : List Int} {mtu id : Int} {sord so : Sl} {zs : List Int} {ro : List R6} (hA : Ip6At w h es data) (hc : Cells w sord.A (zs.map (.int .i64))) (hl : zs.length = sord.n) (ho : L6At w so ro) (hK : Kn w) :
    Calls Tryz.prog 3 #[h.val, .int .i64 mtu, .int .i64 id, sord.val, so.val] w fun e w' => e = .returned (.bool true) ∧ Ext w w' := by
  refine weirtop_TopWholeOnce6_of h mtu id sord.A sord.n sord.k so.A so.n so.k w _ ?_
  unfold weirtop_TopWholeOnce6_VC
  refine NewVC.sep (Sep.start0 w) fun g1 w1 H1 => Ip6V.of h ⟨H1.at 1 rfl, (refSplit6_spec (hA.ext (H1.restOf 0 rfl))).mono ?_⟩
  rintro _ w2 ⟨s', rs', rfl, hd2, hf2, Hc⟩
  have H2 := H1.ext Hc.start1
  refine ⟨s'.A, s'.n, s'.k, _, rfl, Ip6V.of h ⟨H2.at 1 rfl, (refCheck6_spec (hA.ext (H2.restOf 0 rfl))).mono ?_⟩⟩
  rintro _ w3 ⟨hE3, rfl⟩
  have H3 := H2.ext hE3
  have skip : (Ending.returned (.bool true) = .returned (.bool true)) ∧ Ext w w3 := ⟨rfl, H3.restOf 0 rfl⟩
  refine ⟨_, rfl, Br.dec (fun _ => skip) fun hz => Br.dec (fun _ => skip) fun hno => Br.dec (fun _ => skip) fun hfew => ⟨_, (H3.blk 1 rfl).cell 38, ?_⟩⟩
  cases hhas : h.frag.has with
  | true => exact Br.t rfl skip
  | false =>
  refine Br.f rfl (Br.dec (fun _ => skip) fun hoth => Ip6V.of h ⟨H3.at 1 rfl, (split6_spec (hA.ext (H3.restOf 0 rfl)) (hK.ext (H3.restOf 0 rfl))).mono ?_⟩)
  intro e4 w4 hcut
  obtain ⟨sp, rs, rfl, hd4, hat4, hE4⟩ := hcut.at
  have H4 := H3.ext hE4
  have hz : (ser6S (h.d es data)).2 = 0 := Classical.byContradiction hz
  have hno : (split6S (h.d es data) mtu id).2 = 0 := Classical.byContradiction hno
  refine ⟨sp.A, sp.n, sp.k, _, rfl, (new_spec (by decide) (by decide) (by decide) (by decide)).mono ?_⟩
  rintro _ w5 ⟨g, m, rfl, H5⟩
  have hE45 : Ext w4 w5 := H5.restOf 0 rfl
  have hEw4 : Ext w w4 := H4.restOf 0 rfl
  have hrl : rs.length = (split6S (h.d es data) mtu id).1.length := by rw [← hd4, List.length_map]
  have hrl2 : rs'.length = (split6S (h.d es data) mtu id).1.length := by rw [← hd2, List.length_map]
  have hspn := hat4.len
  have hspn2 := hf2.len
  refine ⟨_, _, rfl, Br.f (decide_eq_false fun h => h hno) (Br.f rfl (Br.f rfl ?_))⟩
  obtain ⟨_, m1, m2, i1, i2, hcase⟩ := split6_fit hno
  rcases hcase with ⟨hfit, hs⟩ | ⟨hf, hnf, hh, hs, hfi, hne⟩
  · rw [hs] at hrl hd4
    have hr1 : rs.length = 1 := hrl
    obtain ⟨r, rfl⟩ : ∃ r, rs = [r] := List.length_eq_one_iff.1 hr1
    have hrd : r.v.d r.exts r.data = h.d es data := by have := List.head_eq_of_cons_eq hd4; exact this
    refine Br.f (decide_eq_false (by omega)) (Br.t (decide_eq_true (by omega)) ?_)
    have hat5 := hat4.ext hE45
    refine Ip6sAt.idx (i := 0) hat5 rfl fun a ha => Ip6V.of r.v ⟨ha, ?_⟩
    have hrA : Ip6At w5 r.v r.exts r.data := hat5.each r (List.mem_singleton.2 rfl)
    have hrf : r.v.frag.has = false := (congrArg (fun q : Ip6D => q.frag.has) hrd).trans hhas
    refine (offer6_plain (T := ⟨g, m, 256, 3, 0, []⟩) hrA (hK.ext (hEw4.trans hE45)) (by rw [hrd]; exact hz) hrf).mono ?_
    rintro _ w6 ⟨rfl, hE6⟩
    refine onRet_at (Ip6V.of r.v ⟨_, _, _, rfl, NewVC.blk fun g2 w7 hg2 hz7 hE7 hb7 => Stores.blk hb7 (Ip6V.one _) (Nat.le_refl _) fun w8 hz8 hm8 hb8 => ?_⟩)
    have hE68 : Ext w6 w8 := Mod.set hE7 hm8 (by omega)
    have hb8 : Blk w8 g2 30 r.v.cells := by
      have e1 : splice (Ip6V.z : Ip6V).cells.toArray.toList (0 + 0) r.v.cells = r.v.cells := splice_all rfl
      rw [e1] at hb8; exact hb8
    have hE48 : Ext w4 w8 := hE45.trans (hE6.trans hE68)
    have hg1 : Blk w8 g1 30 h.cells := (H4.blk 1 rfl).ext hE48
    refine Br.t rfl (Br.t rfl (Br.t rfl (Ip6V.of r.v ⟨CellsAt.blk hb8, Ip6V.of h ⟨CellsAt.blk hg1, ?_⟩⟩)))
    refine (same6_eq ((hat4.each r (List.mem_singleton.2 rfl)).ext hE48) (hA.ext (hEw4.trans hE48)) hrd).mono ?_
    rintro _ w9 ⟨rfl, hE9⟩
    exact ⟨_, rfl, rfl, hEw4.trans (hE48.trans hE9)⟩
  · have hd := pd_of hz hf m1 m2 ⟨i1, i2⟩ hnf hh hfi hne
    have htwo := hd.cut.two
    rw [hs] at hrl hrl2 hd4
    have hrl : rs.length = (parts (hd6 (h.d es data)) (hd6 (h.d es data)) mtu.toNat (rest6 (h.d es data)).length 0).length := by rw [hrl]; exact List.length_map _
    have hrl2 : rs'.length = (parts (hd6 (h.d es data)) (hd6 (h.d es data)) mtu.toNat (rest6 (h.d es data)).length 0).length := by rw [hrl2]; exact List.length_map _
    refine Br.f (decide_eq_false (by omega)) (Br.f (decide_eq_false (by omega)) ?_)
    refine (way_spec (n := sp.n) (by omega) (by omega) (hc.ext (hEw4.trans hE45)) hl).mono ?_
    rintro _ w10 ⟨sw, way, rfl, hw1, hw2, hwl, Hw⟩
    have H10 := ((H5.mades (Δ := [rowN sw way]) Hw).nil 0 3 1)
    have H10 : Sep (Γw w4 sw way ⟨none, 0, 0⟩ [] ++ tabFs ⟨g, m, 256, 3, 0, []⟩) w10 := by
      have key : ∀ (a b c : Fct) (L : List Fct), ([a, b, c] ++ L).Perm ((a :: L ++ [b]) ++ [c]) := fun a b c L => perm_cn fun c o h1 h2 h3 => by simp only [h1, h2, h3]; omega
      exact H10.perm (key _ _ _ _)
    refine ⟨sw.A, sw.n, sw.k, rfl, ?_⟩
    have G : Given w4 (h.d es data) id (parts (hd6 (h.d es data)) (hd6 (h.d es data)) mtu.toNat (rest6 (h.d es data)).length 0) h es data sp rs so ro way g1 :=
      { hd := rfl, hA := hA.ext hEw4, hK := hK.ext hEw4, hP := hd, hn := by omega, hps := hat4, hrs := hd4, ho := ho.ext' hEw4, hno := by omega, hg1 := H4.blk 1 rfl, hw1 := fun i hi => by have := hw1 i hi; omega, hw2 := fun i hi => hw2 i (by omega), hwl := hwl, hB := rest6_bytes hA }
    exact play_loop (T := ⟨g, m, 256, 3, 0, []⟩) G ⟨at_start, rfl, Int.le_refl _, H10⟩ fun w' hE => ⟨rfl, hEw4.trans hE⟩
end
end N6
end Go.Proofs.YthhgbpmihhljdaaGreatDoor
