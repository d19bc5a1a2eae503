/- Chapter 13 by value: where the parts stand, and what the pieces are. -/
import Derived.Test.YthhgbpmihhljdaaGreatDoorBas
import Derived.Test.YthhgbpmihhljdaaGreatDoorBaq
namespace Go.Eng
open Go Go.RowKit
def room (a b mtu p : Nat) : Nat := mtu - (if p = 0 then a else b)
/-- Where the parts of n bytes stand, and how long they are: behind a head of a bytes the first, of b bytes the others. -/
def pieces (a b mtu n : Nat) : Nat → Nat → List (Nat × Nat)
  | 0, _ => []
  | f + 1, p => if n - p ≤ room a b mtu p then [(p, n - p)] else (p, room a b mtu p / 8 * 8) :: pieces a b mtu n f (p + room a b mtu p / 8 * 8)
section
variable {a b mtu n : Nat}
theorem room_ge (ha : a + 8 ≤ mtu) (hb : b + 8 ≤ mtu) (p : Nat) : 8 ≤ room a b mtu p ∧ room a b mtu p ≤ mtu := by unfold room; split <;> omega
theorem pieces_fuel (ha : a + 8 ≤ mtu) (hb : b + 8 ≤ mtu) : ∀ f g p, n - p < f → n - p < g → pieces a b mtu n f p = pieces a b mtu n g p
  | 0, _, _, h, _ => by omega
  | _ + 1, 0, _, _, h => by omega
  | f + 1, g + 1, p, h, k => by
    have := room_ge ha hb p
    unfold pieces
    split
    · rfl
    · rw [pieces_fuel ha hb f g _ (by omega) (by omega)]
def parts (a b mtu n p : Nat) : List (Nat × Nat) := pieces a b mtu n (n - p + 1) p
theorem parts_last {p : Nat} (h : n - p ≤ room a b mtu p) : parts a b mtu n p = [(p, n - p)] := by unfold parts pieces; rw [if_pos h]
theorem parts_more (ha : a + 8 ≤ mtu) (hb : b + 8 ≤ mtu) {p : Nat} (h : ¬ n - p ≤ room a b mtu p) : parts a b mtu n p = (p, room a b mtu p / 8 * 8) :: parts a b mtu n (p + room a b mtu p / 8 * 8) := by
  have := room_ge ha hb p
  unfold parts
  conv => lhs; unfold pieces
  rw [if_neg h, pieces_fuel ha hb (n - p) _ _ (by omega) (Nat.lt_succ_self _)]
end
def hi (o : OptD) : Bool := decide (128 ≤ o.kind)
def hd4 (d : Ip4D) : Nat := 20 + (putOpts4 d.opts).1.length
def last43 : List ExtD → Nat
  | [] => 0
  | x :: r => if 0 < last43 r then last43 r + 1 else if x.kind = 43 then 1 else 0
/-- How many of the extension headers go with every piece. -/
def keptS (l : List ExtD) : Nat := if 0 < last43 l then last43 l else match l with
  | [] => 0
  | x :: _ => if x.kind = 0 then 1 else 0
theorem last43_le : ∀ l : List ExtD, last43 l ≤ l.length
  | [] => Nat.le_refl _
  | x :: r => by
    have := last43_le r
    unfold last43
    split
    · simp only [List.length_cons]; omega
    · split <;> simp
theorem keptS_le (l : List ExtD) : keptS l ≤ l.length := by
  have := last43_le l
  unfold keptS
  split
  · exact this
  · split
    · exact Nat.zero_le _
    · split <;> simp
def hl (l : List ExtD) : Nat := (l.map fun x => 2 + (bodyS x).1.length).sum
theorem hl_append (a b : List ExtD) : hl (a ++ b) = hl a + hl b := by unfold hl; simp
def hdrOk (l : List ExtD) (top : Bool) (i : Nat) : Prop := ∀ j x, j < i → l[j]? = some x → ¬ (x.kind = 0 ∧ ¬ (top = true ∧ j = 0)) ∧ (bodyS x).2 = 0
theorem hdrF_ok {l : List ExtD} {next : Int} {top : Bool} : ∀ {i : Nat}, i ≤ l.length → (hdrF l next top i).2 = 0 → hdrOk l top i ∧ (hdrF l next top i).1.length = hl (l.take i)
  | 0, _, _ => ⟨fun j x h => by omega, by simp [hdrF, hl]⟩
  | i + 1, h, he => by
    have hx : l[i]? = some l[i] := List.getElem?_eq_getElem (by omega)
    have h0 : (hdrF l next top i).2 = 0 := Classical.byContradiction fun hne => by rw [hdrF_stop hne _ (Nat.le_succ i)] at he; exact hne he
    obtain ⟨ih1, ih2⟩ := hdrF_ok (Nat.le_of_succ_le h) h0
    rw [hdrF_step h0 hx] at he ⊢
    split at he
    · cases he
    · rename_i h1
      split at he
      · rename_i h2; exact absurd he h2
      · rename_i h2
        rw [if_neg h1, if_neg h2]
        refine ⟨fun j x hj hjx => ?_, ?_⟩
        · by_cases e : j = i
          · subst e; rw [hx] at hjx; cases hjx; exact ⟨h1, by omega⟩
          · exact ih1 j x (by omega) hjx
        · rw [List.take_succ_eq_append_getElem (by omega), hl_append]
          simp only [List.length_append, List.length_cons, ih2, hl, List.map_cons, List.map_nil, List.sum_cons, List.sum_nil]
          omega
theorem hdrF_of {l : List ExtD} {next : Int} {top : Bool} : ∀ {i : Nat}, i ≤ l.length → hdrOk l top i → (hdrF l next top i).2 = 0
  | 0, _, _ => rfl
  | i + 1, h, ho => by
    have hx : l[i]? = some l[i] := List.getElem?_eq_getElem (by omega)
    have h0 := hdrF_of (next := next) (Nat.le_of_succ_le h) fun j x hj => ho j x (by omega)
    have := ho i _ (Nat.lt_succ_self i) hx
    rw [hdrF_step h0 hx, if_neg this.1, if_neg (by omega)]
theorem headersS_ok {l : List ExtD} {next : Int} {top : Bool} (h : (headersS l next top).2 = 0) : l.length ≤ 8 ∧ hdrOk l top l.length ∧ (headersS l next top).1.length = hl l := by
  unfold headersS at h ⊢
  split at h
  · cases h
  · rename_i h1
    rw [if_neg h1]
    obtain ⟨h2, h3⟩ := hdrF_ok (Nat.le_refl _) h
    rw [List.take_length] at h3
    exact ⟨by omega, h2, h3⟩
theorem headersS_of {l : List ExtD} {next : Int} {top : Bool} (h8 : l.length ≤ 8) (h : hdrOk l top l.length) : (headersS l next top).2 = 0 := by
  unfold headersS
  rw [if_neg (by omega)]
  exact hdrF_of (Nat.le_refl _) h
/-- Headers that may be, parted where the kept ones end. -/
theorem headersS_kept {l : List ExtD} {next nx n2 : Int} (h : (headersS l next true).2 = 0) : (headersS (l.take (keptS l)) nx true).2 = 0 ∧ (headersS (l.drop (keptS l)) n2 false).2 = 0 ∧
    (headersS l next true).1.length = (headersS (l.take (keptS l)) nx true).1.length + (headersS (l.drop (keptS l)) n2 false).1.length := by
  obtain ⟨h8, ho, hlen⟩ := headersS_ok h
  have hk := keptS_le l
  have h1 : (headersS (l.take (keptS l)) nx true).2 = 0 := headersS_of (by rw [List.length_take]; omega) fun j x hj hx => by
    rw [List.length_take] at hj
    refine ho j x (by omega) ?_
    rw [List.getElem?_take] at hx
    split at hx
    · exact hx
    · cases hx
  have h2 : (headersS (l.drop (keptS l)) n2 false).2 = 0 := headersS_of (by rw [List.length_drop]; omega) fun j x hj hx => by
    rw [List.length_drop] at hj
    rw [List.getElem?_drop] at hx
    have hq := ho (keptS l + j) x (by omega) hx
    refine ⟨fun hz => hq.1 ⟨hz.1, fun ht => ?_⟩, hq.2⟩
    have hk0 : keptS l = 0 := by omega
    have hj0 : j = 0 := by omega
    subst hj0
    rw [hk0] at hx
    unfold keptS at hk0
    split at hk0
    · omega
    · cases l with
      | nil => simp at hx
      | cons y r =>
        simp at hx
        subst hx
        simp only at hk0
        rw [if_pos hz.1] at hk0
        cases hk0
  refine ⟨h1, h2, ?_⟩
  rw [hlen, (headersS_ok h1).2.2, (headersS_ok h2).2.2, ← hl_append, List.take_append_drop]
def rest6 (d : Ip6D) : List Int := (headersS (d.exts.drop (keptS d.exts)) d.next false).1 ++ d.data
def hd6 (d : Ip6D) : Nat := (ser6S d).1.length - (rest6 d).length + 8
def firstR (d : Ip6D) : Int := match d.exts.drop (keptS d.exts) with
  | x :: _ => x.kind
  | [] => d.next
theorem split6_len {d : Ip6D} (h : (ser6S d).2 = 0) (hf : d.frag.has = false) (nx : Int) : (headersS (d.exts.take (keptS d.exts)) nx true).2 = 0 ∧ (headersS (d.exts.drop (keptS d.exts)) d.next false).2 = 0 ∧
    (ser6S d).1.length = 40 + (headersS (d.exts.take (keptS d.exts)) nx true).1.length + (rest6 d).length ∧ ¬ fieldBad d ∧ upperS d.next = true := by
  rcases ser6S_cases d with ⟨h0, _⟩ | ⟨_, h1, h2, h3, h4, h5⟩
  · exact absurd h h0
  · obtain ⟨k1, k2, k3⟩ := headersS_kept (l := d.exts) (next := behindK d) (nx := nx) (n2 := d.next) h2
    refine ⟨k1, k2, ?_, h1, ?_⟩
    · rw [h5]
      have e1 : fragB d = [] := by unfold fragB; rw [if_neg (by rw [hf]; decide)]
      unfold rest6 bodyB
      rw [e1]
      simp only [List.length_append, List.nil_append]
      have : ∀ n, (head6 d n).length = 8 := fun _ => rfl
      have : d.src.bytes.length = 16 := rfl
      have : d.dst.bytes.length = 16 := rfl
      have e2 : (headersS d.exts (behindK d) true).1.length = (headersS (d.exts.take (keptS d.exts)) nx true).1.length + (headersS (d.exts.drop (keptS d.exts)) d.next false).1.length := k3
      rw [e2]
      simp only [*]
      omega
    · unfold fragE at h3
      rw [if_neg (by rw [hf]; decide)] at h3
      split at h3
      · cases h3
      · split at h3
        · assumption
        · cases h3
def piece6 (d : Ip6D) (id : Int) (x : Nat × Nat) : Ip6D :=
  { d with exts := d.exts.take (keptS d.exts), next := firstR d, frag := ⟨true, decide (x.1 + x.2 < (rest6 d).length), id, x.1⟩, data := ((rest6 d).drop x.1).take x.2 }
def split6S (d : Ip6D) (mtu id : Int) : List Ip6D × Int :=
  if (ser6S d).2 ≠ 0 then ([], (ser6S d).2) else if mtu < 1280 ∨ 65535 < mtu then ([], 132) else if id < 0 ∨ 4294967295 < id then ([], 1)
  else if ((ser6S d).1.length : Int) ≤ mtu then ([d], 0) else if d.frag.has = true then ([], 131) else if mtu < (hd6 d + 8 : Nat) then ([], 133)
  else ((parts (hd6 d) (hd6 d) mtu.toNat (rest6 d).length 0).map (piece6 d id), 0)
end Go.Eng
/- Chapter 7, writing: options, both programs. -/
namespace Go.Proofs.YthhgbpmihhljdaaGreatDoor
namespace N6
open Go.Eng Go.RowKit
/-- What a call that makes bytes hands back: the bytes in new memory, and an error. -/
def Made (w : World) (r : List Int × Int) (e : Ending) (w' : World) : Prop :=
  ∃ A c, e = .returned (.tuple #[.slice A r.1.length c, .int .i64 r.2]) ∧ Sep [Fct.rest w None, ownB w.heap.size (.slice A r.1.length c) r.1.length r.1] w'
section
variable {w : World} {Γ : List Fct} {b n c m : Nat} {A : Option Addr} {xs ys : List Int}
theorem Made.err {w' : World} {k : Int} {r : List Int × Int} (h : Ext w w') (hr : r = ([], k)) : Made w r (.returned (.tuple #[.slice none 0 0, .int .i64 k])) w' := by
  subst hr
  exact ⟨none, 0, rfl, ((Sep.start0 w).ext h).nil _ _ _⟩
theorem Made.ok {w' : World} {out : List Int} {A : Option Addr} {c : Nat} {r : List Int × Int} (hr : r = (out, 0)) (H : Sep [Fct.rest w None, ownB w.heap.size (.slice A n c) n out] w') : Made w r (.returned (.tuple #[.slice A n c, .int .i64 0])) w' := by
  subst hr
  have hl := ownB_len H 1 rfl
  subst hl
  exact ⟨A, c, rfl, H⟩
theorem tmod_nat (a k : Nat) : Int.tmod (a : Int) (k : Int) = ((a % k : Nat) : Int) := by
  rw [Int.tmod_eq_emod_of_nonneg (by omega)]; omega
/-- Where an option may not be. -/
theorem optF_bad {ds : List OptD} {i : Nat} {out : List Int} {o : OptD} (h : optF ds i = some out) (ho : ds[i]? = some o) (hb : optBytes (prevZ ds i) o = none) : putOptsS ds = ([], 75) := by
  refine putOptsS_none (i := i + 1) ?_ ?_
  · rw [optF_step h ho, hb]
  · have := (List.getElem?_eq_some_iff.1 ho).1; omega
set_option maxHeartbeats 1000000 in
theorem putOptions_spec {s : Sl} {rs : List OptR} (hO : OptsAt w s rs) : Calls Tryz.prog 87 #[.slice s.A s.n s.k] w (Made w (putOptsS (rs.map OptR.d))) := by
  refine ip6_putOptions_of s.A s.n s.k w _ ?_
  unfold ip6_putOptions_VC
  have hsmall := hO.small
  refine LoopVC.of (fun st w' => ∃ (i : Nat) (out : List Int), st.2 = i ∧ i ≤ s.n ∧ optF (rs.map OptR.d) i = some out ∧ out.length ≤ 2050 * i ∧ Sep [Fct.rest w None, ownB w.heap.size (.slice st.1.1 st.1.2.1 st.1.2.2) st.1.2.1 out] w') (fun st _ => ((s.n : Int) - st.2).toNat)
    ⟨0, [], rfl, Nat.zero_le _, rfl, Nat.zero_le _, (Sep.start0 w).nil _ _ _⟩ ?_
  rintro ⟨⟨A1, n1, c1⟩, _⟩ w1 ⟨i, out, rfl, hi, hf, hlen, H⟩
  simp only at H
  show ip6_putOptions_L58 _ s.A s.n A1 n1 c1 (i : Int) w1 _
  unfold ip6_putOptions_L58
  have hn1 := ownB_len H 1 rfl
  refine Br.dec (fun hlt => ?_) fun hge => ?_
  · have hlt : i < s.n := by omega
    refine (hO.ext (H.restOf 0 rfl)).idx rfl hlt fun a r hr hc hby => ?_
    have hrm : r ∈ rs := List.mem_of_getElem? hr
    have hB := hO.each r hrm
    have hds := hB.small
    have hdl := hB.len
    have hrd : (rs.map OptR.d)[i]? = some r.d := by rw [List.getElem?_map, hr]; rfl
    refine OptV.of r.v ⟨hc, ?_⟩
    refine NewVC.sep H fun g1 w2 H => ?_
    refine Stores.sep H 2 rfl r.v.one (Nat.le_refl 2) (splice_all rfl) fun w3 H => ?_
    have bad : optBytes (prevZ (rs.map OptR.d) i) r.d = none → Made w (putOptsS (rs.map OptR.d)) (.returned (.tuple #[.slice none 0 0, .int .i64 75])) w3 := fun hb => Made.err (H.restOf 0 rfl) (optF_bad hf hrd hb)
    refine JoinVC.of (fun st w' => w3 = w' ∧ st.1 = (A1, n1, c1) ∧ r.v.kind = 0 ∧ r.data ≠ [] ∧ prevZ (rs.map OptR.d) i = false) ?_ ?_
    · refine JoinVC.of (fun st w' => w3 = w' ∧ st = decide (r.v.kind < 0 ∨ 255 < r.v.kind ∨ r.v.kind = 1 ∨ (r.v.kind ≠ 0 ∧ 255 < r.v.data.n))) ?_ ?_
      · refine ⟨_, H.cell 2 rfl 0 rfl, Br.dec (fun h => ⟨rfl, ?_⟩) fun h0 => ⟨_, H.cell 2 rfl 0 rfl, Br.dec (fun h => ⟨rfl, ?_⟩) fun h1 => ⟨_, H.cell 2 rfl 0 rfl, Br.dec (fun h => ⟨rfl, ?_⟩) fun h2 => ⟨_, H.cell 2 rfl 0 rfl, Br.dec (fun h3 => ⟨_, _, _, H.cell 2 rfl 1 rfl, rfl, ?_⟩) fun h3 => ⟨rfl, ?_⟩⟩⟩⟩⟩
        · rw [decide_eq_true (.inl h)]
        · rw [decide_eq_true (.inr (.inl h))]
        · rw [decide_eq_true (.inr (.inr (.inl h)))]
        · by_cases h4 : 255 < r.v.data.n
          · rw [decide_eq_true (by omega), decide_eq_true (.inr (.inr (.inr ⟨h3, h4⟩)))]
          · rw [decide_eq_false (by omega), decide_eq_false (by omega)]
        · rw [decide_eq_false (by omega)]
      rintro _ _ ⟨rfl, rfl⟩
      unfold ip6_putOptions_J14948
      refine Br.dec (fun hbad => bad ?_) fun hok => ⟨_, H.cell 2 rfl 0 rfl, Br.dec (fun hk => ?_) fun hk => ?_⟩
      · unfold optBytes
        by_cases hk : r.v.kind = 0
        · exact absurd hk (by omega)
        · rw [if_neg (show ¬ r.d.kind = 0 from hk), if_pos (by show r.v.kind < 2 ∨ 255 < r.v.kind ∨ 255 < r.data.length; omega)]
      · refine DrawVC.sep H (fun w' => Blk w' g1 127 r.v.cells) fun w4 H => ⟨H.blk 2 rfl, ?_⟩
        refine ⟨_, fun w' h => h.cell 0, _, _, _, fun w' h => h.cell 1, _, _, _, fun w' h => h.cell 1, ?_⟩
        rw [wu8 (n := r.v.kind) (by omega) (by omega), wu8 (n := (r.v.data.n : Int)) (by omega) (by omega)]
        refine NewVC.sep H fun g2 w5 H => ⟨H.blk 2 rfl, ?_⟩
        refine appB H 1 rfl (m := 2) (ys := [r.v.kind, (r.v.data.n : Int)]) (by simpa using Cells.of_blk (H.blk 3 rfl) 0) rfl (by omega) (H.restOf 0 rfl).size fun A2 c2 w6 H _ => ⟨H.blk 2 rfl, ?_⟩
        refine appB H 1 rfl (ys := r.data) (hB.ext (H.restOf 0 rfl)).cells hdl (by omega) (H.restOf 0 rfl).size fun A3 c3 w7 H _ => ⟨H.blk 2 rfl, ?_⟩
        rw [w64 (by omega) (by omega)]
        refine ⟨⟨i + 1, (out ++ [r.v.kind, (r.v.data.n : Int)]) ++ r.data, by show (i : Int) + 1 = _; omega, by omega, ?_, by simp; omega, H.take 2⟩, by show ((s.n : Int) - ((i : Int) + 1)).toNat < ((s.n : Int) - (i : Int)).toNat; omega⟩
        rw [optF_step hf hrd]
        unfold optBytes
        rw [if_neg (show ¬ r.d.kind = 0 from hk), if_neg (by show ¬ (r.v.kind < 2 ∨ 255 < r.v.kind ∨ 255 < r.data.length); omega)]
        simp [hdl, OptR.d]
      · have hk : r.v.kind = 0 := by omega
        refine ⟨_, _, _, H.cell 2 rfl 1 rfl, Br.dec (fun h0 => bad ?_) fun h0 => Br.dec (fun hpos => ?_) fun hpos => ?_⟩
        · unfold optBytes
          rw [if_pos (show r.d.kind = 0 from hk), if_pos (.inl (List.eq_nil_of_length_eq_zero (by show r.data.length = 0; rw [hdl]; omega)))]
        · rw [w64 (by omega) (by omega), show ((i : Int) - 1) = ((i - 1 : Nat) : Int) by omega]
          refine (hO.ext (H.restOf 0 rfl)).idx (i := i - 1) rfl (by omega) fun a1 p hp hpc _ => ?_
          have hpz : prevZ (rs.map OptR.d) i = decide (p.v.kind = 0) := by
            obtain ⟨j, rfl⟩ : ∃ j, i = j + 1 := ⟨i - 1, by omega⟩
            show (match (rs.map OptR.d)[j]? with
              | some o => decide (o.kind = 0)
              | none => false) = _
            rw [List.getElem?_map, show rs[j]? = some p from hp]
            rfl
          refine ⟨p.v.kind, by simpa [add_zero] using hpc.1, Br.dec (fun hz => bad ?_) fun hz => ⟨rfl, rfl, hk, ?_, ?_⟩⟩
          · unfold optBytes
            rw [if_pos (show r.d.kind = 0 from hk), if_pos (.inr (.inl (by rw [hpz, decide_eq_true hz])))]
          · intro e; rw [e] at hdl; simp at hdl; omega
          · rw [hpz, decide_eq_false hz]
        · refine ⟨rfl, rfl, hk, ?_, ?_⟩
          · intro e; rw [e] at hdl; simp at hdl; omega
          · have : i = 0 := by omega
            subst this; rfl
    rintro ⟨st, t1, t2, t3, t4⟩ _ ⟨rfl, e1, hk, hne, hpz⟩
    simp only at e1
    subst e1
    show ip6_putOptions_J3737 _ (i : Int) _ g1 A1 n1 c1 t1 t2 t3 t4 w3
    unfold ip6_putOptions_J3737
    refine ⟨_, _, _, H.cell 2 rfl 1 rfl, ?_⟩
    refine LoopVC.of (fun st w' => w3 = w' ∧ ∃ q : Nat, st = (q : Int) ∧ q ≤ r.v.data.n ∧ ∀ x ∈ r.data.take q, x = 0) (fun st _ => ((r.v.data.n : Int) - st).toNat) ⟨rfl, 0, rfl, Nat.zero_le _, by simp⟩ ?_
    rintro _ _ ⟨rfl, q, rfl, hq, hz⟩
    unfold ip6_putOptions_L59802
    refine Br.dec (fun hlt2 => ?_) fun hge2 => ?_
    · refine (hB.ext (H.restOf 0 rfl)).idx rfl (by omega) fun a2 x hx _ _ hxc => ⟨_, hxc, Br.dec (fun hx0 => bad ?_) fun hx0 => ?_⟩
      · unfold optBytes
        rw [if_pos (show r.d.kind = 0 from hk), if_pos (.inr (.inr fun hall => hx0 (hall x (List.mem_of_getElem? hx))))]
      · rw [w64 (by omega) (by omega)]
        refine ⟨⟨rfl, q + 1, by omega, by omega, ?_⟩, by omega⟩
        intro y hy
        rw [List.take_add_one, hx] at hy
        rcases List.mem_append.1 hy with hy | hy
        · exact hz y hy
        · simp at hy; omega
    · have hall : AllZ r.data := by
        rw [List.take_of_length_le (by omega)] at hz; exact hz
      have hob : optBytes (prevZ (rs.map OptR.d) i) r.d = some (padS r.v.data.n) := by
        unfold optBytes
        rw [if_pos (show r.d.kind = 0 from hk), if_neg (fun h => by
          rcases h with h | h | h
          · exact hne h
          · rw [hpz] at h; cases h
          · exact h hall)]
        show some (padS r.data.length) = _
        rw [hdl]
      have hf1 : optF (rs.map OptR.d) (i + 1) = some (out ++ padS r.v.data.n) := by rw [optF_step hf hrd, hob]
      refine ⟨_, _, _, H.cell 2 rfl 1 rfl, Br.dec (fun hbig => Made.err (H.restOf 0 rfl) (putOptsS_long hf1 (by simp [hO.len]; omega) (by rw [List.length_append, padS_len]; omega))) fun hsm => ⟨_, _, _, H.cell 2 rfl 1 rfl, ?_⟩⟩
      refine (padding_spec (k := r.v.data.n) (H.own 1 rfl) (H.restOf 0 rfl).size (by omega)).mono ?_
      rintro _ w5 ⟨A2, c2, rfl, H5⟩
      have H := H.call 1 rfl (fun k hk => hk) H5
      refine ⟨_, _, _, rfl, ?_⟩
      rw [w64 (by omega) (by omega)]
      refine ⟨⟨i + 1, out ++ padS r.v.data.n, by show (i : Int) + 1 = _; omega, by omega, hf1, by simp [padS_len]; omega, H.take 2⟩, by show ((s.n : Int) - ((i : Int) + 1)).toNat < ((s.n : Int) - (i : Int)).toNat; omega⟩
  · have hin : i = s.n := by omega
    subst hin
    have hl : (rs.map OptR.d).length = s.n := by simp [hO.len]
    have e8 : Int.tmod (n1 : Int) 8 = ((n1 % 8 : Nat) : Int) := tmod_nat n1 8
    rw [e8]
    refine Br.dec (fun h6 => Made.err (H.restOf 0 rfl) ?_) fun h6 => Br.dec (fun hb => Made.err (H.restOf 0 rfl) ?_) fun hb => Made.ok (out := out) ?_ H
    · unfold putOptsS; rw [hl, hf]; simp only; rw [if_pos (.inl (by omega))]
    · unfold putOptsS; rw [hl, hf]; simp only; rw [if_pos (.inr (by omega))]
    · unfold putOptsS; rw [hl, hf]; simp only; rw [if_neg (by omega)]
end
end N6
end Go.Proofs.YthhgbpmihhljdaaGreatDoor
/- Chapter 7, writing: options, the document's. -/
namespace Go.Proofs.YthhgbpmihhljdaaGreatDoor
namespace N6
open Go.Eng Go.RowKit
section
variable {w : World} {Γ : List Fct} {b n c m : Nat} {A : Option Addr} {xs ys : List Int}
theorem run_spec {s : Sl} {l : List Int} (hB : BytesAt w s l) : Calls Tryz.prog 104 #[.slice s.A s.n s.k] w fun e w' => w = w' ∧ e = .returned (.bool (decide (AllZ l ∧ l ≠ []))) := by
  refine weirref7_run_of s.A s.n s.k w _ ?_
  unfold weirref7_run_VC
  have hs := hB.small
  have hl := hB.len
  refine LoopVC.of (fun st w' => w = w' ∧ ∃ q : Nat, st = (q : Int) ∧ q ≤ s.n ∧ ∀ x ∈ l.take q, x = 0) (fun st _ => ((s.n : Int) - st).toNat) ⟨rfl, 0, rfl, Nat.zero_le _, by simp⟩ ?_
  rintro _ _ ⟨rfl, q, rfl, hq, hz⟩
  unfold weirref7_run_L26
  refine Br.dec (fun hlt => ?_) fun hge => ⟨rfl, ?_⟩
  · refine hB.idx rfl (by omega) fun a x hx _ _ hxc => ⟨_, hxc, Br.dec (fun hx0 => ⟨rfl, ?_⟩) fun hx0 => ?_⟩
    · rw [decide_eq_false (fun h => hx0 (h.1 x (List.mem_of_getElem? hx)))]
    · rw [w64 (by omega) (by omega)]
      refine ⟨⟨rfl, q + 1, by omega, by omega, ?_⟩, by omega⟩
      intro y hy
      rw [List.take_add_one, hx] at hy
      rcases List.mem_append.1 hy with hy | hy
      · exact hz y hy
      · simp at hy; omega
  · have hall : AllZ l := by rw [List.take_of_length_le (by omega)] at hz; exact hz
    by_cases h0 : s.n = 0
    · rw [decide_eq_false (by omega), decide_eq_false (fun h => h.2 (List.eq_nil_of_length_eq_zero (by omega)))]
    · rw [decide_eq_true (by omega), decide_eq_true ⟨hall, fun e => by rw [e] at hl; simp at hl; omega⟩]
set_option maxHeartbeats 1000000 in
theorem fill_spec {k : Nat} (ho : w.ownsRow b 5 1 (.slice A n c) n (xs.map (.int .u8))) (hb : b ≤ w.heap.size) (hn : n + k ≤ 100000000000000) :
    Calls Tryz.prog 105 #[.slice A n c, .int .i64 k] w fun e w' => ∃ A2 c2, e = .returned (.slice A2 (n + k) c2) ∧
      Sep [Fct.rest w (fun j => (Value.slice A n c).ownBlock = some j), ownB b (.slice A2 (n + k) c2) (n + k) (xs ++ padS k)] w' := by
  refine weirref7_fill_of A n c k w _ ?_
  unfold weirref7_fill_VC
  refine LoopVC.of (fun s w' => ∃ (m : Nat) (ys : List Int), s.2 = m ∧ s.1.2.1 + m = n + k ∧ ys ++ padS m = xs ++ padS k ∧ Sep [Fct.rest w (fun j => (Value.slice A n c).ownBlock = some j), ownB b (.slice s.1.1 s.1.2.1 s.1.2.2) s.1.2.1 ys] w') (fun s _ => s.2.toNat)
    ⟨k, xs, rfl, rfl, rfl, Sep.begin ho (fun _ e => e) fun j hj => (ho.lt j hj).2⟩ ?_
  rintro ⟨⟨A1, n1, c1⟩, _⟩ w1 ⟨m, ys, rfl, hnm, he, H⟩
  simp only at hnm H
  show weirref7_fill_L12 _ A1 n1 c1 (m : Int) w1 _
  unfold weirref7_fill_L12
  have hsz := (H.restOf 0 rfl).size
  refine Br.dec (fun h1 => ?_) fun h1 => Br.dec (fun h2 => ?_) fun h2 => ?_
  · refine JoinVC.of (fun s w' => w1 = w' ∧ s = ((min m 257 : Nat) : Int)) (Br.dec (fun h => ⟨rfl, by omega⟩) fun h => ⟨rfl, by omega⟩) ?_
    rintro _ _ ⟨rfl, rfl⟩
    unfold weirref7_fill_J197
    have e1 : IntKind.i64.wrap (((min m 257 : Nat) : Int) - 2) = ((min m 257 - 2 : Nat) : Int) := by rw [w64 (by omega) (by omega)]; omega
    rw [e1, wu8 (by omega) (by omega)]
    refine NewVC.sep H fun g1 w2 H => ?_
    refine appB H 1 rfl (m := 2) (ys := [1, ((min m 257 - 2 : Nat) : Int)]) (by simpa using Cells.of_blk (H.blk 2 rfl) 0) rfl (by omega) (by have := (H.restOf 0 rfl).size; omega) fun A2 c2 w3 H _ => ?_
    have H := H.take 2
    refine LoopVC.of (fun s w' => ∃ q : Nat, s.2 = (q : Int) ∧ 2 ≤ q ∧ q ≤ min m 257 ∧ s.1.2.1 = n1 + q ∧ Sep [Fct.rest w (fun j => (Value.slice A n c).ownBlock = some j), ownB b (.slice s.1.1 s.1.2.1 s.1.2.2) s.1.2.1 ((ys ++ [1, ((min m 257 - 2 : Nat) : Int)]) ++ List.replicate (q - 2) 0)] w') (fun s _ => (((min m 257 : Nat) : Int) - s.2).toNat)
      ⟨2, rfl, Nat.le_refl _, by omega, rfl, by simpa using H⟩ ?_
    rintro ⟨⟨A4, n4, c4⟩, _⟩ w4 ⟨q, rfl, hq2, hqm, hn4, H⟩
    simp only at hn4 H
    subst hn4
    show weirref7_fill_L6330 (m : Int) _ ((min m 257 : Nat) : Int) A4 (n1 + q) c4 (q : Int) w4 _
    unfold weirref7_fill_L6330
    refine Br.dec (fun hlt => ?_) fun hge => ?_
    · refine NewVC.sep H fun g2 w5 H => ?_
      refine appB H 1 rfl (m := 1) (ys := [0]) (by simpa using Cells.of_blk (H.blk 2 rfl) 0) rfl (by omega) (by have := (H.restOf 0 rfl).size; omega) fun A5 c5 w6 H _ => ?_
      rw [w64 (by omega) (by omega)]
      have e : List.replicate (q - 2) (0 : Int) ++ [0] = List.replicate (q + 1 - 2) 0 := by
        rw [show q + 1 - 2 = (q - 2) + 1 by omega, List.replicate_succ']
      refine ⟨⟨q + 1, by show (q : Int) + 1 = _; omega, by omega, by omega, rfl, ?_⟩, by show ((((min m 257 : Nat) : Int)) - ((q : Int) + 1)).toNat < ((((min m 257 : Nat) : Int)) - (q : Int)).toNat; omega⟩
      rw [← e, ← List.append_assoc]
      exact H.take 2
    · have hqe : q = min m 257 := by omega
      have e2 : IntKind.i64.wrap ((m : Int) - ((min m 257 : Nat) : Int)) = ((m - min m 257 : Nat) : Int) := by rw [w64 (by omega) (by omega)]; omega
      rw [e2]
      refine ⟨⟨m - min m 257, _, rfl, by show n1 + q + (m - min m 257) = n + k; omega, ?_, H⟩, by show (((m - min m 257 : Nat) : Int)).toNat < ((m : Int)).toNat; omega⟩
      rw [← he, padS_step (n := m) (by omega), hqe]
      simp
  · have : m = 1 := by omega
    subst this
    refine NewVC.sep H fun g1 w2 H => ?_
    refine appB H 1 rfl (m := 1) (ys := [0]) (by simpa using Cells.of_blk (H.blk 2 rfl) 0) rfl (by omega) (by have := (H.restOf 0 rfl).size; omega) fun A2 c2 w3 H _ => ?_
    rw [padS_one] at he
    rw [← he, ← hnm]
    exact ⟨A2, c2, rfl, H.take 2⟩
  · have : m = 0 := by omega
    subst this
    rw [padS_zero, List.append_nil] at he
    rw [← he, ← hnm]
    exact ⟨A1, c1, rfl, H⟩
theorem prevZ_map {rs : List OptR} {i : Nat} {p : OptR} (h0 : 0 < i) (hp : rs[i - 1]? = some p) : prevZ (rs.map OptR.d) i = decide (p.v.kind = 0) := by
  obtain ⟨j, rfl⟩ : ∃ j, i = j + 1 := ⟨i - 1, by omega⟩
  show (match (rs.map OptR.d)[j]? with
    | some o => decide (o.kind = 0)
    | none => false) = _
  rw [List.getElem?_map, show rs[j]? = some p from hp]
  rfl
set_option maxHeartbeats 1000000 in
theorem refPutOptions_spec {s : Sl} {rs : List OptR} (hO : OptsAt w s rs) : Calls Tryz.prog 81 #[.slice s.A s.n s.k] w (Made w (putOptsS (rs.map OptR.d))) := by
  refine weirref7_PutOptions_of s.A s.n s.k w _ ?_
  unfold weirref7_PutOptions_VC
  have hsmall := hO.small
  refine LoopVC.of (fun st w' => ∃ (i : Nat) (out : List Int), st.2 = i ∧ i ≤ s.n ∧ optF (rs.map OptR.d) i = some out ∧ out.length ≤ 4000002 * i ∧ Sep [Fct.rest w None, ownB w.heap.size (.slice st.1.1 st.1.2.1 st.1.2.2) st.1.2.1 out] w') (fun st _ => ((s.n : Int) - st.2).toNat)
    ⟨0, [], rfl, Nat.zero_le _, rfl, Nat.zero_le _, (Sep.start0 w).nil _ _ _⟩ ?_
  rintro ⟨⟨A1, n1, c1⟩, _⟩ w1 ⟨i, out, rfl, hi, hf, hlen, H⟩
  simp only at H
  show weirref7_PutOptions_L58 _ s.A s.n A1 n1 c1 (i : Int) w1 _
  unfold weirref7_PutOptions_L58
  have hn1 := ownB_len H 1 rfl
  refine Br.dec (fun hlt => ?_) fun hge => ?_
  · have hlt : i < s.n := by omega
    refine (hO.ext (H.restOf 0 rfl)).idx rfl hlt fun a r hr hc hby => ?_
    have hrm : r ∈ rs := List.mem_of_getElem? hr
    have hB := hO.each r hrm
    have hds := hB.small
    have hdl := hB.len
    have hrd : (rs.map OptR.d)[i]? = some r.d := by rw [List.getElem?_map, hr]; rfl
    refine OptV.of r.v ⟨hc, ?_⟩
    refine NewVC.sep H fun g1 w2 H => ?_
    refine Stores.sep H 2 rfl r.v.one (Nat.le_refl 2) (splice_all rfl) fun w3 H => ?_
    have bad : ∀ {w'}, Sep [Fct.rest w None, ownB w.heap.size (.slice A1 n1 c1) n1 out, Fct.blk g1 127 r.v.cells] w' → optBytes (prevZ (rs.map OptR.d) i) r.d = none → Made w (putOptsS (rs.map OptR.d)) (.returned (.tuple #[.slice none 0 0, .int .i64 75])) w' := fun H hb => Made.err (H.restOf 0 rfl) (optF_bad hf hrd hb)
    refine ⟨_, H.cell 2 rfl 0 rfl, Br.dec (fun hk => ?_) fun hk => ?_⟩
    · refine JoinVC.of (fun _ w' => Sep [Fct.rest w None, ownB w.heap.size (.slice A1 n1 c1) n1 out, Fct.blk g1 127 r.v.cells] w' ∧ AllZ r.data ∧ r.data ≠ [] ∧ prevZ (rs.map OptR.d) i = false) ?_ ?_
      · refine ⟨_, _, _, H.cell 2 rfl 1 rfl, ?_⟩
        refine (run_spec (hB.ext (H.restOf 0 rfl))).mono ?_
        rintro _ _ ⟨rfl, rfl⟩
        refine ⟨_, rfl, ?_⟩
        by_cases hrun : AllZ r.data ∧ r.data ≠ []
        · rw [decide_eq_true hrun]
          refine Br.dec (fun hpos => ?_) fun hpos => ⟨H, hrun.1, hrun.2, ?_⟩
          · rw [w64 (by omega) (by omega), show ((i : Int) - 1) = ((i - 1 : Nat) : Int) by omega]
            refine (hO.ext (H.restOf 0 rfl)).idx (i := i - 1) rfl (by omega) fun a1 p hp hpc _ => ?_
            have hpz := prevZ_map (by omega) hp
            refine ⟨p.v.kind, by simpa [add_zero] using hpc.1, Br.dec (fun hz => bad H ?_) fun hz => ⟨H, hrun.1, hrun.2, ?_⟩⟩
            · unfold optBytes
              rw [if_pos (show r.d.kind = 0 from hk), if_pos (.inr (.inl (by rw [hpz, decide_eq_true hz])))]
            · rw [hpz, decide_eq_false hz]
          · have : i = 0 := by omega
            subst this; rfl
        · rw [decide_eq_false hrun]
          refine bad H ?_
          unfold optBytes
          rw [if_pos (show r.d.kind = 0 from hk), if_pos (by
            by_cases h0 : r.data = []
            · exact .inl h0
            · exact .inr (.inr fun hz => hrun ⟨hz, h0⟩))]
      rintro ⟨t1, t2, t3, t4⟩ w4 ⟨H, hall, hne, hpz⟩
      show weirref7_PutOptions_J14922 _ A1 n1 c1 (i : Int) _ g1 t1 t2 t3 t4 w4
      unfold weirref7_PutOptions_J14922
      refine ⟨_, _, _, H.cell 2 rfl 1 rfl, ?_⟩
      refine (fill_spec (k := r.v.data.n) (H.own 1 rfl) (H.restOf 0 rfl).size (by omega)).mono ?_
      rintro _ w5 ⟨A2, c2, rfl, H5⟩
      have H := H.call 1 rfl (fun k hk => hk) H5
      refine ⟨_, _, _, rfl, ?_⟩
      rw [w64 (by omega) (by omega)]
      refine ⟨⟨i + 1, out ++ padS r.v.data.n, by show (i : Int) + 1 = _; omega, by omega, ?_, by simp [padS_len]; omega, H.take 2⟩, by show ((s.n : Int) - ((i : Int) + 1)).toNat < ((s.n : Int) - (i : Int)).toNat; omega⟩
      rw [optF_step hf hrd]
      unfold optBytes
      rw [if_pos (show r.d.kind = 0 from hk), if_neg (fun h => by
          rcases h with h | h | h
          · exact hne h
          · rw [hpz] at h; cases h
          · exact h hall)]
      show some (out ++ padS r.data.length) = _
      rw [hdl]
    · refine ⟨_, H.cell 2 rfl 0 rfl, Br.dec (fun h2 => bad H ?_) fun h2 => ⟨_, H.cell 2 rfl 0 rfl, Br.dec (fun h3 => bad H ?_) fun h3 => ⟨_, _, _, H.cell 2 rfl 1 rfl, Br.dec (fun h4 => bad H ?_) fun h4 => ?_⟩⟩⟩
      · unfold optBytes
        rw [if_neg (show ¬ r.d.kind = 0 from hk), if_pos (.inl h2)]
      · unfold optBytes
        rw [if_neg (show ¬ r.d.kind = 0 from hk), if_pos (.inr (.inl h3))]
      · unfold optBytes
        rw [if_neg (show ¬ r.d.kind = 0 from hk), if_pos (.inr (.inr (by show 255 < r.data.length; omega)))]
      refine ⟨_, H.cell 2 rfl 0 rfl, _, _, _, H.cell 2 rfl 1 rfl, ?_⟩
      rw [wu8 (n := r.v.kind) (by omega) (by omega), wu8 (n := (r.v.data.n : Int)) (by omega) (by omega)]
      refine NewVC.sep H fun g2 w5 H => ?_
      refine appB H 1 rfl (m := 2) (ys := [r.v.kind, (r.v.data.n : Int)]) (by simpa using Cells.of_blk (H.blk 3 rfl) 0) rfl (by omega) (H.restOf 0 rfl).size fun A2 c2 w6 H _ => ⟨_, _, _, H.cell 2 rfl 1 rfl, ?_⟩
      refine appB H 1 rfl (ys := r.data) (hB.ext (H.restOf 0 rfl)).cells hdl (by omega) (H.restOf 0 rfl).size fun A3 c3 w7 H _ => ?_
      rw [w64 (by omega) (by omega)]
      refine ⟨⟨i + 1, (out ++ [r.v.kind, (r.v.data.n : Int)]) ++ r.data, by show (i : Int) + 1 = _; omega, by omega, ?_, by simp; omega, H.take 2⟩, by show ((s.n : Int) - ((i : Int) + 1)).toNat < ((s.n : Int) - (i : Int)).toNat; omega⟩
      rw [optF_step hf hrd]
      unfold optBytes
      rw [if_neg (show ¬ r.d.kind = 0 from hk), if_neg (by show ¬ (r.v.kind < 2 ∨ 255 < r.v.kind ∨ 255 < r.data.length); omega)]
      simp [hdl, OptR.d]
  · have hin : i = s.n := by omega
    subst hin
    have hl : (rs.map OptR.d).length = s.n := by simp [hO.len]
    have e8 : Int.tmod (n1 : Int) 8 = ((n1 % 8 : Nat) : Int) := tmod_nat n1 8
    rw [e8]
    refine Br.dec (fun h6 => Made.err (H.restOf 0 rfl) ?_) fun h6 => Br.dec (fun hb => Made.err (H.restOf 0 rfl) ?_) fun hb => Made.ok (out := out) ?_ H
    · unfold putOptsS; rw [hl, hf]; simp only; rw [if_pos (.inl (by omega))]
    · unfold putOptsS; rw [hl, hf]; simp only; rw [if_pos (.inr (by omega))]
    · unfold putOptsS; rw [hl, hf]; simp only; rw [if_neg (by omega)]
end
end N6
end Go.Proofs.YthhgbpmihhljdaaGreatDoor
