/- TopWholeOnce6 by value: the pieces of a datagram; the context of its fragments. -/
import Derived.Test.YthhgbpmihhljdaaGreatDoorBba
import Derived.Test.YthhgbpmihhljdaaGreatDoorBbi
import Derived.Test.YthhgbpmihhljdaaGreatDoorBan
import Derived.Test.YthhgbpmihhljdaaGreatDoorBax
namespace Go.Proofs.YthhgbpmihhljdaaGreatDoor
namespace N6
open Go Go.Eng Go.RowKit
theorem few_of : ∀ (n : Nat) (l : List Nat), l.Nodup → (∀ i ∈ l, i < n) → l.length ≤ n
  | 0, l, _, h => by
    cases l with
    | nil => exact Nat.le_refl _
    | cons a l => have := h a (List.mem_cons_self ..); omega
  | n + 1, l, hd, h => by
    by_cases hn : n ∈ l
    · have h1 := few_of n (l.erase n) (hd.erase n) fun i hi => by
        have h2 := (List.Nodup.mem_erase_iff hd).1 hi
        have := h i h2.2
        have := h2.1
        omega
      have h2 := List.length_erase_of_mem hn
      omega
    · have := few_of n l hd fun i hi => by
        have h1 := h i hi
        have h2 : i ≠ n := fun e => hn (e ▸ hi)
        omega
      omega
theorem all_of {n : Nat} {l : List Nat} (hd : l.Nodup) (h : ∀ i ∈ l, i < n) : l.length = n ↔ ∀ i, i < n → i ∈ l := by
  constructor
  · intro hl i hi
    refine Classical.byContradiction fun hn => ?_
    have := few_of n (i :: l) (List.nodup_cons.2 ⟨hn, hd⟩) fun k hk => by
      rcases List.mem_cons.1 hk with rfl | hk
      · exact hi
      · exact h k hk
    simp at this
    omega
  · intro ha
    have h1 := few_of n l hd h
    have h2 : n ≤ l.length := by
      have : ∀ (m : Nat) (l : List Nat), (∀ i, i < m → i ∈ l) → m ≤ l.length := by
        intro m
        induction m with
        | zero => intro l _; exact Nat.zero_le _
        | succ m ih =>
          intro l hm
          have h1 := hm m (by omega)
          have h2 := ih (l.erase m) fun i hi => (List.mem_erase_of_ne (by omega)).2 (hm i (by omega))
          have h3 := List.length_erase_of_mem h1
          have h4 := List.length_pos_of_mem h1
          omega
      exact this n l ha
    omega
theorem fit_cut {a b mtu n : Nat} : ∀ {l : List (Nat × Nat)} {p : Nat}, Fit a b mtu n p l → l ≠ [] → (∀ (i : Nat) (x : Nat × Nat), l[i]? = some x → x.1 % 8 = 0 ∧ x.1 + x.2 ≤ n ∧ (i + 1 < l.length → 0 < x.2 ∧ x.2 % 8 = 0 ∧ x.1 + x.2 < n) ∧ (i + 1 = l.length → x.1 + x.2 = n ∧ (0 < x.1 → 0 < x.2))) ∧
    (∀ (i : Nat) (x y : Nat × Nat), l[i]? = some x → l[i + 1]? = some y → y.1 = x.1 + x.2) ∧ ∀ x : Nat × Nat, l[0]? = some x → x.1 = p
  | [], _, _, h => absurd rfl h
  | x :: l, p, h, _ => by
    obtain ⟨h1, h2, h3, h4, h5, h6, h7, h8⟩ := h
    have first : ∀ y : Nat × Nat, (x :: l)[0]? = some y → y.1 = p := fun y hy => by simp at hy; rw [← hy]; exact h1
    by_cases hl : l = []
    · subst hl
      refine ⟨fun i y hy => ?_, fun i y z hy hz => by simp at hz, first⟩
      cases i with
      | succ i => simp at hy
      | zero =>
        simp at hy; subst hy
        have := h6 rfl
        exact ⟨by omega, by omega, fun h => by simp at h, fun _ => ⟨by omega, fun h => by have := h3 (by omega); omega⟩⟩
    · obtain ⟨g1, g2, g3⟩ := fit_cut h8 hl
      refine ⟨fun i y hy => ?_, fun i y z hy hz => ?_, first⟩
      · cases i with
        | zero =>
          simp at hy; subst hy
          have := h7 hl
          exact ⟨by omega, by omega, fun _ => ⟨this.1, this.2.1, by omega⟩, fun h => by cases l with | nil => exact absurd rfl hl | cons _ _ => simp at h⟩
        | succ i =>
          have hy : l[i]? = some y := by simpa using hy
          obtain ⟨q1, q2, q3, q4⟩ := g1 i y hy
          exact ⟨q1, q2, fun h => q3 (by simpa using h), fun h => q4 (by simpa using h)⟩
      · have hz : l[i]? = some z := by simpa using hz
        cases i with
        | zero =>
          simp at hy; subst hy
          rw [g3 z hz, h1]
        | succ i => exact g2 i y z (by simpa using hy) hz
/-- A datagram and its pieces. -/
structure Pd (d : Ip6D) (id : Int) (xs : List (Nat × Nat)) : Prop where
  ok : (ser6S d).2 = 0
  frag : d.frag = FragV.z
  cut : Cut (rest6 d).length xs
  most : (rest6 d).length ≤ 65495
  each : ∀ (i : Nat) (x : Nat × Nat), xs[i]? = some x → (ser6S (piece6 d id x)).2 = 0
  chain : chained (firstR d) (rest6 d) = (d.exts.drop (keptS d.exts), d.next, d.data, 0)
theorem frag_z {d : Ip6D} (h : (ser6S d).2 = 0) (hf : d.frag.has = false) : d.frag = FragV.z := by
  rcases ser6S_cases d with ⟨h0, _⟩ | ⟨_, _, _, h3, _⟩
  · exact absurd h h0
  · unfold fragE at h3
    rw [if_neg (by rw [hf]; decide)] at h3
    split at h3
    · cases h3
    · rename_i hn
      obtain ⟨a, b, c, e, hfr⟩ : ∃ a b c e, d.frag = ⟨a, b, c, e⟩ := ⟨_, _, _, _, rfl⟩
      rw [hfr] at hf hn ⊢
      simp only [not_or] at hn
      obtain ⟨n1, n2, n3⟩ := hn
      have hf : a = false := hf
      have n1 : b = false := by simpa using n1
      have n2 : c = 0 := Classical.byContradiction n2
      have n3 : e = 0 := Classical.byContradiction n3
      subst hf; subst n1; subst n2; subst n3; rfl
/-- The pieces of a datagram that does not fit. -/
theorem pd_of {d : Ip6D} {mtu id : Int} (h : (ser6S d).2 = 0) (hf : d.frag.has = false) (hm1 : 1280 ≤ mtu) (hm2 : mtu ≤ 65535) (hid : 0 ≤ id ∧ id ≤ 4294967295) (hl : ¬ ((ser6S d).1.length : Int) ≤ mtu) (hh : hd6 d + 8 ≤ mtu.toNat) {xs : List (Nat × Nat)}
    (hx : Fit (hd6 d) (hd6 d) mtu.toNat (rest6 d).length 0 xs) (hn : xs ≠ []) : Pd d id xs := by
  have htwo := two6 h hf hl hm1 hh hx hn
  obtain ⟨g1, g2, g3⟩ := fit_cut hx hn
  have hw := whole6 h hf
  have hsl := split6_len h hf 0
  have hlen : (ser6S d).1.length ≤ 65535 := by
    rcases ser6S_cases d with ⟨h0, _⟩ | ⟨_, _, _, _, h4, h5⟩
    · exact absurd h h0
    · rw [h5]
      simp only [List.length_append]
      have : ∀ n, (head6 d n).length = 8 := fun _ => rfl
      have : d.src.bytes.length = 16 := rfl
      have : d.dst.bytes.length = 16 := rfl
      simp only [*]
      omega
  have hstep : ∀ (i : Nat) (x y : Nat × Nat), xs[i]? = some x → xs[i + 1]? = some y → y.1 = x.1 + x.2 := g2
  refine ⟨h, frag_z h hf, ⟨fun i x hi => ?_, fun i x hi hlt => ⟨((g1 i x hi).2.2.1 hlt).2.1, ((g1 i x hi).2.2.1 hlt).2.2⟩, fun i x hi hl => ((g1 i x hi).2.2.2 hl).1, g2, g3, htwo⟩, by omega, fun i x hi => (piece6_ok h hf hid (by omega) hh hx hi).1, hw.2.2⟩
  obtain ⟨q1, q2, q3, q4⟩ := g1 i x hi
  refine ⟨?_, q1, q2⟩
  have hlt := (List.getElem?_eq_some_iff.1 hi).1
  by_cases hl : i + 1 < xs.length
  · exact (q3 hl).1
  · refine (q4 (by omega)).2 ?_
    obtain ⟨k, rfl⟩ : ∃ k, i = k + 1 := ⟨i - 1, by omega⟩
    obtain ⟨y, hy⟩ : ∃ y, xs[k]? = some y := ⟨_, List.getElem?_eq_getElem (by omega)⟩
    have h1 := g2 k y x hy hi
    have h2 := ((g1 k y hy).2.2.1 (by omega)).1
    omega
section
variable {d : Ip6D} {id : Int} {xs : List (Nat × Nat)}
theorem Pd.join (h : Pd d id xs) {x : Nat × Nat} : joinD (piece6 d id x) (rest6 d) = d ∧ joinOk (piece6 d id x) (rest6 d) = true := by
  have e1 : (piece6 d id x).next = firstR d := rfl
  have e2 : joinD (piece6 d id x) (rest6 d) = d := by
    unfold joinD
    rw [e1, h.chain]
    show ({ d with exts := d.exts.take (keptS d.exts) ++ d.exts.drop (keptS d.exts), frag := FragV.z, next := d.next, data := d.data } : Ip6D) = d
    rw [List.take_append_drop, ← h.frag]
  refine ⟨e2, ?_⟩
  unfold joinOk
  rw [e2, e1, h.chain]
  exact decide_eq_true ⟨rfl, h.ok⟩
end
end N6
end Go.Proofs.YthhgbpmihhljdaaGreatDoor
/- TopWholeOnce6 by value: what each offer of a piece, or of another's, does to the table. -/
namespace Go.Proofs.YthhgbpmihhljdaaGreatDoor
namespace N6
open Go Go.Eng Go.RowKit
def keyD (d : Ip6D) (id : Int) : KeyV := ⟨d.src, d.dst, -1, id⟩
/-- The context of the datagram's fragments. -/
structure Cx (d : Ip6D) (id : Int) (xs : List (Nat × Nat)) (c : CtxR) (seen : List Nat) : Prop where
  key : c.v.key = keyD d id
  live : seen.length < xs.length → c.v.state = 0 ∧ c.v.frags = seen.length ∧ (∃ r, c.hole = some r ∧ Hi (rest6 d).length xs (rest6 d) r.s seen) ∧ (0 ∈ seen → c.v.first = true ∧ ∃ x, xs[0]? = some x ∧ c.v.h6.d c.es c.d6 = piece6 d id x) ∧ (0 ∉ seen → c.v.first = false)
  done : seen.length = xs.length → c.v.state = 1
structure AtT (d : Ip6D) (id : Int) (xs : List (Nat × Nat)) (T : TabR) (seen : List Nat) (m : Nat) : Prop where
  ok : TabOk T
  max : T.max = 256
  nodup : seen.Nodup
  lt : ∀ i ∈ seen, i < xs.length
  none : seen = [] → ∀ c ∈ T.cs, c.v.key ≠ keyD d id
  some : seen ≠ [] → ∃ c ∈ T.cs, Cx d id xs c seen
  len : T.cs.length ≤ m + (if seen = [] then 0 else 1)
section
variable {d : Ip6D} {id : Int} {xs : List (Nat × Nat)} {T T' : TabR} {seen : List Nat} {m j : Nat} {x : Nat × Nat}
theorem AtT.room (h : AtT d id xs T seen m) (hm : m ≤ 200) : (T.cs.length : Int) < T.max := by
  have h1 := h.len
  rw [h.max]
  split at h1 <;> omega
theorem AtT.other (h : AtT d id xs T seen m) (hm : m ≤ 200) {k : KeyV} (hs : Step T k T') (hk : k ≠ keyD d id) : AtT d id xs T' seen (m + 1) := by
  obtain ⟨o1, o2, o3, o4, o5, _⟩ := hs.ok h.ok
  have hlen := h.len
  have hroom := h.room hm
  cases hs with
  | same => exact ⟨o1, h.max, h.nodup, h.lt, h.none, h.some, by omega⟩
  | upd i c c' hi hck _ h1 _ _ =>
    refine ⟨o1, h.max, h.nodup, h.lt, fun he y hy => ?_, fun hne => ?_, ?_⟩
    · rcases List.mem_or_eq_of_mem_set hy with hy | rfl
      · exact h.none he y hy
      · rw [h1, hck]; exact hk
    · obtain ⟨c0, hc0, hx⟩ := h.some hne
      refine ⟨c0, ?_, hx⟩
      have h2 := (erase_perm hi).subset hc0
      rcases List.mem_cons.1 h2 with rfl | h2
      · exact absurd (hck.symm.trans hx.key) hk
      · exact (set_perm (y := c') hi).symm.subset (List.mem_cons_of_mem _ h2)
    · show (T.cs.set i c').length ≤ _
      rw [List.length_set]; omega
  | join T1 c' hR hno _ h1 _ _ =>
    have e1 : T1 = T := (hR.same h.ok).2.2.2.2.2.2.2.2 hroom
    subst e1
    refine ⟨o1, h.max, h.nodup, h.lt, fun he y hy => ?_, fun hne => ?_, ?_⟩
    · rcases List.mem_append.1 hy with hy | hy
      · exact h.none he y hy
      · rw [List.mem_singleton.1 hy, h1]; exact hk
    · obtain ⟨c0, hc0, hx⟩ := h.some hne
      exact ⟨c0, List.mem_append_left _ hc0, hx⟩
    · show (T1.cs ++ [c']).length ≤ _
      rw [List.length_append, List.length_singleton]; omega
theorem Cut.zero {N : Nat} (hC : Cut N xs) (hx : xs[j]? = some x) (h0 : x.1 = 0) : j = 0 := by
  refine Classical.byContradiction fun hj => ?_
  have htwo := hC.two
  obtain ⟨y, hy⟩ : ∃ y, xs[0]? = some y := ⟨_, List.getElem?_eq_getElem (by omega)⟩
  have h1 := hC.before (j - 1) 0 y x hy (by rw [← hx]; congr 1; omega)
  have := (hC.pos 0 y hy).1
  omega
set_option maxHeartbeats 1000000 in
theorem tail_piece (hP : Pd d id xs) {T0 : TabR} {jc : Nat} {c : CtxR} {r : HolR} {h : Ip6V} {es : List ExtR} {data : List Int} {n o e : Int} {od : Option Ip6D} (hx : xs[j]? = some x) (hd : h.d es data = piece6 d id x)
    (hkey : c.v.key = keyD d id) (hole : c.hole = some r) (hi : Hi (rest6 d).length xs (rest6 d) r.s (seen ++ [j])) (hnd : (seen ++ [j]).Nodup) (hlt : ∀ i ∈ seen ++ [j], i < xs.length) (hfr : c.v.frags = seen.length + 1) (hst : c.v.state = 0)
    (hf1 : 0 ∈ seen → c.v.first = true ∧ ∃ x, xs[0]? = some x ∧ c.v.h6.d c.es c.d6 = piece6 d id x) (hf0 : 0 ∉ seen → c.v.first = false) (ht : Tail6' T0 jc c r h es data id T' n o e od) :
    e = 0 ∧ (seen.length + 1 = xs.length ∧ o = 1 ∧ n = id ∧ od = some d ∨ seen.length + 1 < xs.length ∧ o = 2) ∧ ∃ c', T' = T0.upd jc c' ∧ Cx d id xs c' (seen ++ [j]) := by
  have hfo : h.frag.off = x.1 := congrArg (fun q : Ip6D => q.frag.off) hd
  have hle := few_of _ _ hnd hlt
  have hln : (seen ++ [j]).length = seen.length + 1 := by simp
  have hall := all_of hnd hlt
  have hwh := hi.whole hP.cut
  have hmem : ∀ i, i ∈ seen ++ [j] ↔ i ∈ seen ∨ i = j := fun i => by simp
  have hjn : j ∉ seen := fun hj => by
    have := (List.nodup_append.1 hnd).2.2 j hj j (by simp)
    exact this rfl
  have first : ∀ {c1 : CtxR}, First6 h es data c c1 → (0 ∈ seen ++ [j] → c1.v.first = true ∧ ∃ x, xs[0]? = some x ∧ c1.v.h6.d c1.es c1.d6 = piece6 d id x) ∧ (0 ∉ seen ++ [j] → c1.v.first = false) := by
    intro c1 h1
    cases h1 with
    | yes se sd es' hoff hfst hes _ _ =>
      have hj0 : j = 0 := hP.cut.zero hx (by omega)
      subst hj0
      refine ⟨fun _ => ⟨rfl, x, hx, ?_⟩, fun hn => absurd ((hmem 0).2 (.inr rfl)) hn⟩
      rw [← hd]
      show (Ip6V.with_ h se sd).d es' data = h.d es data
      unfold Ip6V.d Ip6V.with_
      rw [hes]
    | no hne =>
      have hj0 : j ≠ 0 := fun hj => by
        subst hj
        have := hP.cut.first x hx
        exact hne ⟨by omega, hf0 hjn⟩
      refine ⟨fun h0 => ?_, fun h0 => hf0 fun hh => h0 ((hmem 0).2 (.inl hh))⟩
      rcases (hmem 0).1 h0 with h0 | h0
      · exact hf1 h0
      · exact absurd h0.symm hj0
  have htwo := hP.cut.two
  have join : ∀ {c1 : CtxR}, First6 h es data c c1 → (0 ≤ r.s.fin ∧ r.s.gaps = []) → joinD (c1.v.h6.d c1.es c1.d6) (allB r) = d ∧ joinOk (c1.v.h6.d c1.es c1.d6) (allB r) = true ∧ (seen ++ [j]).length = xs.length := by
    intro c1 h1 hw
    have ha := hwh.1 hw
    obtain ⟨_, x0, hx0, e0⟩ := (first h1).1 (ha 0 (by omega))
    have e1 : allB r = rest6 d := hi.bytes hP.cut rfl ha
    rw [e0, e1]
    exact ⟨(hP.join).1, (hP.join).2, hall.2 ha⟩
  cases ht with
  | part c1 h1 hnw =>
    obtain ⟨s1, s2, s3, s4, s5, s6, _⟩ := h1.same
    have hne : (seen ++ [j]).length ≠ xs.length := fun h => hnw (hwh.2 (hall.1 h))
    refine ⟨rfl, .inr ⟨by omega, rfl⟩, c1, rfl, ⟨s2.trans hkey, fun _ => ⟨s6.trans hst, by rw [s5, hfr, hln]; rfl, ⟨r, s1.trans hole, hi⟩, (first h1).1, (first h1).2⟩, fun h => absurd h hne⟩⟩
  | spoil c1 h1 hw hjo =>
    rw [(join h1 hw).2.1] at hjo
    cases hjo
  | whole c1 h1 hw hjo =>
    obtain ⟨s1, s2, s3, s4, s5, s6, _⟩ := h1.same
    obtain ⟨j1, _, j3⟩ := join h1 hw
    refine ⟨rfl, .inl ⟨by omega, rfl, rfl, by rw [j1]⟩, _, rfl, ⟨s2.trans hkey, fun h => by omega, fun _ => rfl⟩⟩
theorem one_key {l : List CtxR} (hp : l.Pairwise fun a b => a.v.key ≠ b.v.key) {a b : CtxR} (ha : a ∈ l) (hb : b ∈ l) (he : a.v.key = b.v.key) : a = b := by
  induction l with
  | nil => cases ha
  | cons c l ih =>
    have h := List.pairwise_cons.1 hp
    rcases List.mem_cons.1 ha with e1 | h1
    · rcases List.mem_cons.1 hb with e2 | h2
      · rw [e1, e2]
      · exact absurd (e1 ▸ he) (h.1 b h2)
    · rcases List.mem_cons.1 hb with e2 | h2
      · exact absurd (e2 ▸ he.symm) (h.1 a h1)
      · exact ih h.2 h1 h2
set_option maxHeartbeats 2000000 in
theorem piece_step (hP : Pd d id xs) (hn : xs.length ≤ 1024) (hB : Bts (rest6 d)) (hA : AtT d id xs T seen m) (hm : m ≤ 200) {h : Ip6V} {es : List ExtR} {data : List Int} {n o e : Int} {od : Option Ip6D} (hx : xs[j]? = some x) (hd : h.d es data = piece6 d id x)
    (hok : TabOk T') (ho : Out6 T h es data T' n o e od) (hmax : T'.max = T.max) :
    (seen.length = xs.length ∧ o = 0 ∧ e = 125 ∧ AtT d id xs T' seen m) ∨ (seen.length < xs.length ∧ j ∈ seen ∧ o = 0 ∧ e = 121 ∧ AtT d id xs T' seen m) ∨
    (seen.length < xs.length ∧ j ∉ seen ∧ e = 0 ∧ (seen.length + 1 = xs.length ∧ o = 1 ∧ n = id ∧ od = some d ∨ seen.length + 1 < xs.length ∧ o = 2) ∧ AtT d id xs T' (seen ++ [j]) m) := by
  have hfo : h.frag.off = x.1 := congrArg (fun q : Ip6D => q.frag.off) hd
  have hfm : h.frag.more = mor (rest6 d).length x := congrArg (fun q : Ip6D => q.frag.more) hd
  have hfi : h.frag.id = id := congrArg (fun q : Ip6D => q.frag.id) hd
  have hfh : h.frag.has = true := congrArg (fun q : Ip6D => q.frag.has) hd
  have hsr : h.src = d.src := congrArg (fun q : Ip6D => q.src) hd
  have hds : h.dst = d.dst := congrArg (fun q : Ip6D => q.dst) hd
  have hda : data = dat (rest6 d) x := congrArg (fun q : Ip6D => q.data) hd
  have hkey : key6 h = keyD d id := by unfold key6 keyD; rw [hsr, hds, hfi]
  have hz : (ser6S (h.d es data)).2 = 0 := by rw [hd]; exact hP.each j x hx
  have hC := hP.cut
  have htwo := hC.two
  have hjl := (List.getElem?_eq_some_iff.1 hx).1
  have hpx := hC.pos j x hx
  have hdl : data.length = x.2 := by rw [hda]; exact dat_len rfl hpx.2.2
  have hno : ¬ (h.frag.off = 0 ∧ h.frag.more = false) := by
    rintro ⟨h1, h2⟩
    have hj0 := hC.zero hx (by omega)
    rw [hfm, hC.mor hx] at h2
    have := of_decide_eq_false h2
    omega
  have hmaxT : T'.max = 256 := hmax.trans hA.max
  have hle := few_of _ _ hA.nodup hA.lt
  have hroom := hA.room hm
  have refd : ∀ {s : HolS}, Hi (rest6 d).length xs (rest6 d) s seen → refusedS s h.frag.off data.length h.frag.more = 0 := fun hi => by rw [hfo, hdl, hfm]; exact hi.refused hC hP.most hx
  have nosame : ∀ {s : HolS}, Hi (rest6 d).length xs (rest6 d) s seen → j ∉ seen → (fitS s h.frag.off data h.frag.more).same = false ∧ ¬ 0 < (fitS s h.frag.off data h.frag.more).old ∧ Hi (rest6 d).length xs (rest6 d) (putS s h.frag.off data h.frag.more) (seen ++ [j]) := fun hi hj => by
    rw [hfo, hfm, hda]; exact hi.new hC hP.most rfl hB hx hj
  have again : ∀ {s : HolS}, Hi (rest6 d).length xs (rest6 d) s seen → j ∈ seen → (fitS s h.frag.off data h.frag.more).same = true ∧ Hi (rest6 d).length xs (rest6 d) (putS s h.frag.off data h.frag.more) seen := fun hi hj => by
    rw [hfo, hfm, hda]; exact hi.again hC hP.most rfl hB hx hj
  have snd : ∀ j, j ∉ seen → (seen ++ [j]).Nodup := fun j hj => List.nodup_append.2 ⟨hA.nodup, by simp, fun a ha b hb => by rw [List.mem_singleton.1 hb]; rintro rfl; exact hj ha⟩
  have slt : ∀ i ∈ seen ++ [j], i < xs.length := fun i hi => by
    rcases List.mem_append.1 hi with hi | hi
    · exact hA.lt i hi
    · rw [List.mem_singleton.1 hi]; exact hjl
  have mk : ∀ {T0 : TabR} {i : Nat} {c c' : CtxR} {s : List Nat}, s ≠ [] → TabOk (T0.upd i c') → (T0.upd i c').max = 256 → T0.cs[i]? = some c → T0.cs.length ≤ m + 1 → s.Nodup → (∀ i ∈ s, i < xs.length) → Cx d id xs c' s → AtT d id xs (T0.upd i c') s m := by
    intro T0 i c c' s hne hok hmx hi hl hnd hlt hc
    refine ⟨hok, hmx, hnd, hlt, fun he => absurd he hne, fun _ => ⟨c', List.mem_of_getElem? (upd_at hi), hc⟩, ?_⟩
    show (T0.cs.set i c').length ≤ _
    rw [List.length_set, if_neg hne]; exact hl
  by_cases hs0 : seen = []
  · have hnk := hA.none hs0
    rw [← hkey] at hnk
    have no : ∀ {i : Nat} {c : CtxR}, T.cs[i]? = some c → c.v.key = key6 h → False := fun hi hk => hnk _ (List.mem_of_getElem? hi) hk
    have hi0 : Hi (rest6 d).length xs (rest6 d) (HolS.start 65495) seen := by rw [hs0]; exact Hi.start
    have hjn : j ∉ seen := by rw [hs0]; simp
    have hl0 : T.cs.length ≤ m := by have := hA.len; rw [if_pos hs0] at this; omega
    cases ho with
    | bad hb => exact absurd hz hb
    | plain _ hb => rw [hfh] at hb; cases hb
    | atomBad _ _ h1 h2 _ => exact absurd ⟨h1, h2⟩ hno
    | atom _ _ h1 h2 _ => exact absurd ⟨h1, h2⟩ hno
    | unready i c hi hk _ => exact (no hi hk).elim
    | refused i c r r' hop _ _ => exact (no hop.at_ hop.key).elim
    | same i c r r' hop _ _ _ _ => exact (no hop.at_ hop.key).elim
    | overlap i c r r' hop _ _ _ => exact (no hop.at_ hop.key).elim
    | held i c r r' T' n o e od hop _ _ _ _ _ _ => exact (no hop.at_ hop.key).elim
    | nrefused _ hb => exact absurd (refd hi0) hb
    | nfull _ _ hb => exact absurd hroom hb
    | nheld T1 g r' T' n o e od _ _ hs' hro hR ht =>
      have e1 : T1 = T := (hR.same hA.ok).2.2.2.2.2.2.2.2 hroom
      subst e1
      have hnew := (nosame hi0 hjn).2.2
      rw [← hs'] at hnew
      rw [hfi] at ht
      obtain ⟨q1, q2, c', rfl, q4⟩ := tail_piece hP (seen := seen) hx hd (c := joinC T1 (newC g (key6 h) T1.ticks r')) hkey rfl hnew (snd j hjn) slt (by rw [hs0]; rfl) rfl (fun h0 => by rw [hs0] at h0; cases h0) (fun _ => rfl) ht
      refine .inr (.inr ⟨by rw [hs0]; show 0 < _; omega, hjn, q1, q2, ?_⟩)
      refine mk (c := joinC T1 (newC g (key6 h) T1.ticks r')) (by simp) hok hmaxT ?_ ?_ (snd j hjn) slt q4
      · show (T1.cs ++ [_])[T1.cs.length]? = _
        rw [List.getElem?_append_right (Nat.le_refl _)]
        simp [joinC]
      · show (T1.cs ++ [_]).length ≤ _
        rw [List.length_append, List.length_singleton]; omega
  · obtain ⟨c0, hc0, hX⟩ := hA.some hs0
    have hl0 : T.cs.length ≤ m + 1 := by have := hA.len; rw [if_neg hs0] at this; omega
    have hnk : ¬ ∀ c ∈ T.cs, c.v.key ≠ key6 h := fun hh => hh c0 hc0 (hX.key.trans hkey.symm)
    have isC : ∀ {i : Nat} {c : CtxR}, T.cs[i]? = some c → c.v.key = key6 h → c = c0 := fun hi hk => one_key hA.ok.keys (List.mem_of_getElem? hi) hc0 (hk.trans (hkey.trans hX.key.symm))
    have hpos : 0 < seen.length := List.length_pos_iff.2 hs0
    by_cases hfull : seen.length = xs.length
    · have hst := hX.done hfull
      have hrd : ∀ w : Int, readyS c0.v 125 w = 125 := fun w => by unfold readyS; rw [if_pos hst]
      have noO : ∀ {i : Nat} {c : CtxR} {r r' : HolR}, Open T (key6 h) 125 c.v.why i c r r' → False := fun hop => by
        have := hop.rdy
        rw [isC hop.at_ hop.key, hrd] at this
        cases this
      cases ho with
      | bad hb => exact absurd hz hb
      | plain _ hb => rw [hfh] at hb; cases hb
      | atomBad _ _ h1 h2 _ => exact absurd ⟨h1, h2⟩ hno
      | atom _ _ h1 h2 _ => exact absurd ⟨h1, h2⟩ hno
      | unready i c hi hk _ => 
        have := isC hi hk
        subst this
        exact .inl ⟨hfull, rfl, hrd _, hA⟩
      | refused i c r r' hop _ _ => exact (noO hop).elim
      | same i c r r' hop _ _ _ _ => exact (noO hop).elim
      | overlap i c r r' hop _ _ _ => exact (noO hop).elim
      | held i c r r' T' n o e od hop _ _ _ _ _ _ => exact (noO hop).elim
      | nrefused hb _ => exact absurd hb hnk
      | nfull hb _ _ => exact absurd hb hnk
      | nheld T1 g r' T' n o e od hb _ _ _ _ _ => exact absurd hb hnk
    · have hlt : seen.length < xs.length := by omega
      obtain ⟨l1, l2, ⟨r0, l3, l4⟩, l5, l6⟩ := hX.live hlt
      have hrd : readyS c0.v 125 c0.v.why = 0 := by unfold readyS; rw [l1, l2, if_neg (by decide), if_neg (by decide), if_neg (by omega)]
      have isR : ∀ {i : Nat} {c : CtxR} {r r' : HolR}, Open T (key6 h) 125 c.v.why i c r r' → c = c0 ∧ r = r0 := fun hop => by
        have hc := isC hop.at_ hop.key
        subst hc
        exact ⟨rfl, Option.some.inj (hop.hole.symm.trans l3)⟩
      cases ho with
      | bad hb => exact absurd hz hb
      | plain _ hb => rw [hfh] at hb; cases hb
      | atomBad _ _ h1 h2 _ => exact absurd ⟨h1, h2⟩ hno
      | atom _ _ h1 h2 _ => exact absurd ⟨h1, h2⟩ hno
      | unready i c hi hk hb => 
        have := isC hi hk
        subst this
        exact absurd hrd hb
      | refused i c r r' hop _ hb =>
        obtain ⟨rfl, rfl⟩ := isR hop
        exact absurd (refd l4) hb
      | same i c r r' hop _ hs' hro hsm =>
        obtain ⟨rfl, rfl⟩ := isR hop
        have hj : j ∈ seen := Classical.byContradiction fun hj => by rw [(nosame l4 hj).1] at hsm; cases hsm
        have hag := (again l4 hj).2
        rw [← hs'] at hag
        exact .inr (.inl ⟨hlt, hj, rfl, rfl, mk hs0 hok hmaxT hop.at_ hl0 hA.nodup hA.lt ⟨hX.key, fun _ => ⟨l1, l2, ⟨r', rfl, hag⟩, l5, l6⟩, fun h => absurd h hfull⟩⟩)
      | overlap i c r r' hop _ hsm hold =>
        obtain ⟨rfl, rfl⟩ := isR hop
        by_cases hj : j ∈ seen
        · rw [(again l4 hj).1] at hsm; cases hsm
        · exact absurd hold (nosame l4 hj).2.1
      | held i c r r' T' n o e od hop _ hs' hro hsm hold ht =>
        obtain ⟨rfl, rfl⟩ := isR hop
        have hj : j ∉ seen := fun hj => by rw [(again l4 hj).1] at hsm; cases hsm
        have hnew := (nosame l4 hj).2.2
        rw [← hs'] at hnew
        rw [hfi] at ht
        obtain ⟨q1, q2, c', rfl, q4⟩ := tail_piece hP (seen := seen) hx hd (c := holdC c r') hX.key rfl hnew (snd j hj) slt (by show c.v.frags + 1 = _; rw [l2]) l1 l5 l6 ht
        refine .inr (.inr ⟨hlt, hj, q1, q2, ?_⟩)
        exact mk (T0 := T.upd i (holdC c r')) (c := holdC c r') (by simp) hok hmaxT (upd_at hop.at_) (by show (T.cs.set i _).length ≤ _; rw [List.length_set]; exact hl0) (snd j hj) slt q4
      | nrefused hb _ => exact absurd hb hnk
      | nfull hb _ _ => exact absurd hb hnk
      | nheld T1 g r' T' n o e od hb _ _ _ _ _ => exact absurd hb hnk
end
end N6
end Go.Proofs.YthhgbpmihhljdaaGreatDoor
/- TopWholeOnce6: what is the same; numbers brought in; lists of numbers. -/
namespace Go.Proofs.YthhgbpmihhljdaaGreatDoor
namespace N6
open Go Go.Eng Go.RowKit
theorem tI : TypeIs Tryz.prog 3 (.int .i64 0) 1 8 := .of (by kernel_rfl)
abbrev rowN (s : Sl) (l : List Nat) : Fct := Fct.own 0 3 1 s.val s.n (l.map fun i : Nat => (.int .i64 (i : Int) : Value))
theorem cells_nat {w : World} {A : Option Addr} {l : List Nat} (h : Cells w A (l.map fun i : Nat => (.int .i64 (i : Int) : Value))) : Cells w A ((l.map fun i : Nat => (i : Int)).map (.int .i64)) := by
  rw [List.map_map]; exact h
section
variable {w : World} {Γ : List Fct} {s t : Sl}
theorem appN (H : Sep Γ w) (i : Nat) {n c : Nat} {A A' : Option Addr} {l : List Nat} {x : Nat} {c' : Nat} (hi : Γ[i]? = some (rowN ⟨A, n, c⟩ l)) (hs : Cells w A' [.int .i64 (x : Int)]) (hn : n ≤ 1000000)
    {F : Option Addr → Nat → Nat → World → Prop} (h : ∀ A2 c2 w', Sep (Γ.set i (rowN ⟨A2, n + 1, c2⟩ (l ++ [x]))) w' → F A2 (n + 1) c2 w') :
    AppVC Tryz.prog #[31, 31] 31 (.slice A n c) (.slice A' 1 c') w F :=
  AppVC.sep H i Tryz.underlying31 tI rfl (by decide) hi hs rfl (fun u hu => by simp at hu; subst hu; rfl) (by omega) (by decide) (Nat.zero_le _) fun A2 c2 w' H _ => h A2 c2 w' (by
    have : rowN ⟨A2, n + 1, c2⟩ (l ++ [x]) = Fct.own 0 3 1 (.slice A2 (n + 1) c2) (n + 1) ((l.map fun i : Nat => (.int .i64 (i : Int) : Value)) ++ [.int .i64 (x : Int)]) := by
      show Fct.own 0 _ 1 _ _ ((l ++ [x]).map _) = _
      rw [List.map_append]; rfl
    rw [this]; exact H)
theorem rowN_len {l : List Nat} (ho : w.ownsRow 0 3 1 s.val s.n (l.map fun i : Nat => (.int .i64 (i : Int) : Value))) : l.length = s.n := by
  have := ho.1
  simpa using this
theorem sameB_spec {xs ys : List Int} (hx : BytesAt w s xs) (hy : BytesAt w t ys) : Calls Tryz.prog 34 #[s.val, t.val] w fun e w' => w' = w ∧ e = .returned (.bool (decide (xs = ys))) := by
  refine weirtop_sameBytes_of s.A s.n s.k t.A t.n t.k w _ ?_
  unfold weirtop_sameBytes_VC
  rw [← hx.len, ← hy.len]
  refine StrVC.of hx.cells (StrVC.of hy.cells ⟨rfl, ?_⟩)
  rw [str_eq xs ys hx.bts hy.bts]
set_option maxHeartbeats 1000000 in
theorem sameO_eq {ra rb : List OptR} (ha : OptsAt w s ra) (hb : OptsAt w t rb) (he : ra.map OptR.d = rb.map OptR.d) : Calls Tryz.prog 35 #[s.val, t.val] w fun e w' => e = .returned (.bool true) ∧ Ext w w' := by
  refine weirtop_sameOpts_of s.A s.n s.k t.A t.n t.k w _ ?_
  unfold weirtop_sameOpts_VC
  have la := ha.len
  have lb := hb.len
  have hs := ha.small
  have hl : ra.length = rb.length := by have := congrArg List.length he; simpa using this
  refine Br.f (decide_eq_false (by omega)) ?_
  refine LoopVC.of (fun st w' => ∃ i : Nat, st = (i : Int) ∧ i ≤ s.n ∧ Ext w w') (fun st _ => ((s.n : Int) - st).toNat) ⟨0, rfl, Nat.zero_le _, Mod.refl _ _⟩ ?_
  rintro _ w1 ⟨i, rfl, hi, hE⟩
  unfold weirtop_sameOpts_L58
  refine Br.dec (fun hlt => ?_) fun hge => ⟨rfl, hE⟩
  have hra : ra[i]? = some ra[i] := List.getElem?_eq_getElem (by omega)
  have hrb : rb[i]? = some rb[i] := List.getElem?_eq_getElem (by omega)
  have hda : (ra.map OptR.d)[i]? = some ra[i].d := by rw [List.getElem?_map, hra]; rfl
  have hdb : (rb.map OptR.d)[i]? = some rb[i].d := by rw [List.getElem?_map, hrb]; rfl
  have hed : ra[i].d = rb[i].d := by rw [he, hdb] at hda; exact (Option.some.inj hda).symm
  refine DrawVC.of (fun w' => OptsAt w' s ra ∧ OptsAt w' t rb) fun w2 hE2 _ => ⟨⟨ha.ext (hE.trans hE2), hb.ext (hE.trans hE2)⟩, ?_⟩
  have hE := hE.trans hE2
  have hS2 : OptsAt w2 s ra ∧ OptsAt w2 t rb := ⟨ha.ext hE, hb.ext hE⟩
  refine OptsAt.idxD (S := fun w' => OptsAt w' s ra ∧ OptsAt w' t rb) hS2 (fun w' h => h.1) hra fun a hca => ⟨_, fun w' h => c0 (hca w' h), ?_⟩
  refine OptsAt.idxD (S := fun w' => OptsAt w' s ra ∧ OptsAt w' t rb) hS2 (fun w' h => h.2) hrb fun b hcb => ⟨_, fun w' h => c0 (hcb w' h), ?_⟩
  refine Br.f (decide_eq_false fun h => h (congrArg OptD.kind hed)) ?_
  refine OptsAt.idxD (S := fun w' => OptsAt w' s ra ∧ OptsAt w' t rb) hS2 (fun w' h => h.1) hra fun a hca => ⟨_, _, _, fun w' h => c1 (hca w' h), ?_⟩
  refine OptsAt.idxD (S := fun w' => OptsAt w' s ra ∧ OptsAt w' t rb) hS2 (fun w' h => h.2) hrb fun b hcb => ⟨_, _, _, fun w' h => c1 (hcb w' h), ?_⟩
  refine (sameB_spec (s := ra[i].v.data) (t := rb[i].v.data) ((ha.each _ (List.getElem_mem _)).ext hE) ((hb.each _ (List.getElem_mem _)).ext hE)).mono ?_
  rintro _ w3 ⟨rfl, rfl⟩
  refine ⟨_, rfl, hS2, ?_⟩
  have hdd : ra[i].data = rb[i].data := congrArg OptD.data hed
  rw [decide_eq_true hdd]
  refine Br.f rfl ?_
  rw [w64 (by omega) (by omega)]
  exact ⟨⟨i + 1, by omega, by omega, hE⟩, by omega⟩
set_option maxHeartbeats 2000000 in
theorem same6_eq {a b : Ip6V} {oa ob : List ExtR} {da db : List Int} (ha : Ip6At w a oa da) (hb : Ip6At w b ob db) (he : a.d oa da = b.d ob db) : Calls Tryz.prog 9 #[a.val, b.val] w fun e w' => e = .returned (.bool true) ∧ Ext w w' := by
  refine weirtop_same6_of a b w _ ?_
  unfold weirtop_same6_VC
  obtain ⟨k1, k2, k3, k4, k5, k6, k7, k8, k9⟩ := ip6_key.1 he
  have la := ha.exts.len
  have lb := hb.exts.len
  have hs := ha.exts.small
  have hl : oa.length = ob.length := by have := congrArg List.length k6; simpa using this
  refine NewVC.sep (Sep.start0 w) fun g1 w1 H => NewVC.sep H fun g2 w2 H => ?_
  refine ⟨_, H.cell 1 rfl 0 rfl, _, H.cell 2 rfl 0 rfl, Br.f (decide_eq_false fun h => h k1) ?_⟩
  refine ⟨_, H.cell 1 rfl 1 rfl, _, H.cell 2 rfl 1 rfl, Br.f (decide_eq_false fun h => h k2) ?_⟩
  refine ⟨_, H.cell 1 rfl 2 rfl, _, H.cell 2 rfl 2 rfl, Br.f (decide_eq_false fun h => h k3) ?_⟩
  refine IPV.of a.src ⟨ip6_src (H.blk 1 rfl), IPV.of b.src ⟨ip6_src (H.blk 2 rfl), ipv_br (fun h => absurd k4 h) fun _ => ?_⟩⟩
  refine IPV.of a.dst ⟨ip6_dst (H.blk 1 rfl), IPV.of b.dst ⟨ip6_dst (H.blk 2 rfl), ipv_br (fun h => absurd k5 h) fun _ => ?_⟩⟩
  refine FragV.of a.frag ⟨ip6_frg (H.blk 1 rfl), FragV.of b.frag ⟨ip6_frg (H.blk 2 rfl), frag_br (fun h => absurd k7 h) fun _ => ?_⟩⟩
  refine ⟨_, H.cell 1 rfl 42 rfl, _, H.cell 2 rfl 42 rfl, Br.f (decide_eq_false fun h => h k8) ?_⟩
  refine ⟨_, a.exts.n, _, H.cell 1 rfl 37 rfl, _, b.exts.n, _, H.cell 2 rfl 37 rfl, Br.f (decide_eq_false (by omega)) ?_⟩
  refine ⟨_, _, _, H.cell 1 rfl 43 rfl, _, _, _, H.cell 2 rfl 43 rfl, ?_⟩
  refine (sameB_spec (s := a.data) (t := b.data) (ha.data.ext (H.restOf 0 rfl)) (hb.data.ext (H.restOf 0 rfl))).mono ?_
  rintro _ w3 ⟨rfl, rfl⟩
  rw [decide_eq_true k9]
  refine ⟨_, rfl, Br.f rfl ?_⟩
  refine LoopVC.of (fun st w' => ∃ i : Nat, st = (i : Int) ∧ i ≤ a.exts.n ∧ Sep [Fct.rest w None, Fct.blk g1 30 a.cells, Fct.blk g2 30 b.cells] w') (fun st _ => ((a.exts.n : Int) - st).toNat) ⟨0, rfl, Nat.zero_le _, H⟩ ?_
  rintro _ w4 ⟨i, rfl, hi, H⟩
  unfold weirtop_same6_L58
  refine ⟨_, a.exts.n, _, H.cell 1 rfl 37 rfl, Br.dec (fun hlt => ?_) fun hge => ⟨rfl, H.restOf 0 rfl⟩⟩
  have hra : oa[i]? = some oa[i] := List.getElem?_eq_getElem (by omega)
  have hrb : ob[i]? = some ob[i] := List.getElem?_eq_getElem (by omega)
  have hda : (oa.map ExtR.d)[i]? = some oa[i].d := by rw [List.getElem?_map, hra]; rfl
  have hdb : (ob.map ExtR.d)[i]? = some ob[i].d := by rw [List.getElem?_map, hrb]; rfl
  have hed : oa[i].d = ob[i].d := by rw [k6, hdb] at hda; exact (Option.some.inj hda).symm
  obtain ⟨S, hS⟩ : ∃ S : World → Prop, S = fun w' => (Blk w' g1 30 a.cells ∧ Blk w' g2 30 b.cells) ∧ ExtsAt w' a.exts oa ∧ ExtsAt w' b.exts ob := ⟨_, rfl⟩
  have mkS : ∀ {w' : World}, Sep [Fct.rest w None, Fct.blk g1 30 a.cells, Fct.blk g2 30 b.cells] w' → S w' := fun H => by rw [hS]; exact ⟨⟨H.blk 1 rfl, H.blk 2 rfl⟩, ha.exts.ext (H.restOf 0 rfl), hb.exts.ext (H.restOf 0 rfl)⟩
  have s1 : ∀ w', S w' → Blk w' g1 30 a.cells := fun w' h => by rw [hS] at h; exact h.1.1
  have s2 : ∀ w', S w' → Blk w' g2 30 b.cells := fun w' h => by rw [hS] at h; exact h.1.2
  have s3 : ∀ w', S w' → ExtsAt w' a.exts oa := fun w' h => by rw [hS] at h; exact h.2.1
  have s4 : ∀ w', S w' → ExtsAt w' b.exts ob := fun w' h => by rw [hS] at h; exact h.2.2
  refine DrawVC.sep H S fun w5 H => ⟨mkS H, ?_⟩
  refine ⟨a.exts.A, a.exts.n, _, fun w' h => (s1 w' h).cell 37, ExtsAt.idxD (mkS H) s3 hra fun x hca => ⟨_, fun w' h => c0 (hca w' h), ?_⟩⟩
  refine ⟨b.exts.A, b.exts.n, _, fun w' h => (s2 w' h).cell 37, ExtsAt.idxD (mkS H) s4 hrb fun x hcb => ⟨_, fun w' h => c0 (hcb w' h), Br.f (decide_eq_false fun h => h (congrArg ExtD.kind hed)) ?_⟩⟩
  refine ⟨a.exts.A, a.exts.n, _, fun w' h => (s1 w' h).cell 37, ExtsAt.idxD (mkS H) s3 hra fun x hca => ⟨_, _, _, fun w' h => c1 (hca w' h), ?_⟩⟩
  refine ⟨b.exts.A, b.exts.n, _, fun w' h => (s2 w' h).cell 37, ExtsAt.idxD (mkS H) s4 hrb fun x hcb => ⟨_, _, _, fun w' h => c1 (hcb w' h), ?_⟩⟩
  refine (sameO_eq (s := oa[i].v.opts) (t := ob[i].v.opts) ((ha.exts.opts _ (List.getElem_mem _)).ext (H.restOf 0 rfl)) ((hb.exts.opts _ (List.getElem_mem _)).ext (H.restOf 0 rfl)) (congrArg ExtD.opts hed)).mono ?_
  rintro _ w6 ⟨rfl, hE⟩
  have H := H.ext hE
  refine ⟨_, rfl, mkS H, Br.f rfl ?_⟩
  refine ⟨a.exts.A, a.exts.n, _, fun w' h => (s1 w' h).cell 37, ExtsAt.idxD (mkS H) s3 hra fun x hca => ⟨_, _, _, fun w' h => c2 (hca w' h), ?_⟩⟩
  refine ⟨b.exts.A, b.exts.n, _, fun w' h => (s2 w' h).cell 37, ExtsAt.idxD (mkS H) s4 hrb fun x hcb => ⟨_, _, _, fun w' h => c2 (hcb w' h), ?_⟩⟩
  refine (sameB_spec (s := oa[i].v.data) (t := ob[i].v.data) ((ha.exts.data _ (List.getElem_mem _)).ext (H.restOf 0 rfl)) ((hb.exts.data _ (List.getElem_mem _)).ext (H.restOf 0 rfl))).mono ?_
  rintro _ w7 ⟨rfl, rfl⟩
  refine ⟨_, rfl, mkS H, ?_⟩
  have hdd : oa[i].data = ob[i].data := congrArg ExtD.data hed
  rw [decide_eq_true hdd]
  refine Br.f rfl ?_
  rw [w64 (by omega) (by omega)]
  exact ⟨⟨i + 1, by omega, by omega, H⟩, by omega⟩
theorem mod_spec {n m : Int} (hm : 1 ≤ m) (hm2 : m ≤ 1000000) : Calls Tryz.prog 36 #[.int .i64 n, .int .i64 m] w fun e w' => w' = w ∧ ∃ k : Nat, e = .returned (.int .i64 (k : Int)) ∧ (k : Int) < m := by
  refine weirtop_mod_of n m w _ ?_
  unfold weirtop_mod_VC
  have h1 := Int.tmod_lt_of_pos n (show (0 : Int) < m by omega)
  have h2 : -m < Int.tmod n m := Int.lt_tmod_of_pos n (show (0 : Int) < m by omega)
  refine ⟨by omega, Br.dec (fun hn => ⟨rfl, (Int.tmod n m + m).toNat, ?_, by omega⟩) fun hn => ⟨rfl, (Int.tmod n m).toNat, ?_, by omega⟩⟩
  · rw [w64 (by omega) (by omega), Int.toNat_of_nonneg (by omega)]
  · rw [Int.toNat_of_nonneg (by omega)]
theorem among_spec {l : List Nat} {x : Nat} (hc : Cells w s.A ((l.map fun i : Nat => (i : Int)).map (.int .i64))) (hl : l.length = s.n) (hs : s.n ≤ 1000000) : Calls Tryz.prog 37 #[s.val, .int .i64 (x : Int)] w fun e w' => w' = w ∧ e = .returned (.bool (decide (x ∈ l))) := by
  refine weirtop_among_of s.A s.n s.k x w _ ?_
  unfold weirtop_among_VC
  refine LoopVC.of (fun st w' => ∃ i : Nat, st = (i : Int) ∧ i ≤ s.n ∧ w' = w ∧ x ∉ l.take i) (fun st _ => ((s.n : Int) - st).toNat) ⟨0, rfl, Nat.zero_le _, rfl, by simp⟩ ?_
  rintro _ _ ⟨i, rfl, hi, rfl, hn⟩
  unfold weirtop_among_L26
  refine Br.dec (fun hlt => ?_) fun hge => ?_
  · obtain ⟨y, hy⟩ : ∃ y, l[i]? = some y := ⟨_, List.getElem?_eq_getElem (by omega)⟩
    have e : (l.map fun i : Nat => (i : Int)).getD (i : Int).toNat 0 = (y : Int) := by rw [Int.toNat_natCast, List.getD_eq_getElem?_getD, List.getElem?_map, hy]; rfl
    refine IdxVC.int hc (by omega) (by omega) (by rw [List.length_map]; exact hl) fun a ha => ⟨_, ha, ?_⟩
    rw [e]
    refine Br.dec (fun he => ?_) fun he => ?_
    · have : y = x := by omega
      subst this
      exact ⟨rfl, by rw [decide_eq_true (List.mem_of_getElem? hy)]⟩
    · rw [w64 (by omega) (by omega)]
      refine ⟨⟨i + 1, by omega, by omega, rfl, ?_⟩, by omega⟩
      rw [List.take_add_one, hy]
      intro hm
      rcases List.mem_append.1 hm with hm | hm
      · exact hn hm
      · simp at hm; omega
  · have : l.take i = l := List.take_of_length_le (by omega)
    rw [this] at hn
    exact ⟨rfl, by rw [decide_eq_false hn]⟩
/-- What must come of a piece. -/
def comesS (seen : List Nat) (n j : Nat) : Int × Int := if seen.length = n then (0, 125) else if j ∈ seen then (0, 121) else if seen.length + 1 = n then (1, 0) else (2, 0)
theorem comes_spec {seen : List Nat} {n j : Nat} (hc : Cells w s.A ((seen.map fun i : Nat => (i : Int)).map (.int .i64))) (hl : seen.length = s.n) (hs : s.n ≤ 1000000) : Calls Tryz.prog 11 #[s.val, .int .i64 (n : Int), .int .i64 (j : Int)] w fun e w' => w' = w ∧
    e = .returned (.tuple #[.int .i64 (comesS seen n j).1, .int .i64 (comesS seen n j).2]) := by
  refine weirtop_comes_of s.A s.n s.k n j w _ ?_
  unfold weirtop_comes_VC comesS
  refine Br.dec (fun h => ⟨rfl, by rw [if_pos (by omega)]⟩) fun h => ?_
  rw [if_neg (show ¬ seen.length = n by omega)]
  refine (among_spec (x := j) hc hl hs).mono ?_
  rintro _ w1 ⟨rfl, rfl⟩
  refine ⟨_, rfl, Br.dec (fun hm => ⟨rfl, by rw [if_pos hm]⟩) fun hm => ?_⟩
  rw [if_neg hm, w64 (by omega) (by omega)]
  exact Br.dec (fun h1 => ⟨rfl, by rw [if_pos (by omega)]⟩) fun h1 => ⟨rfl, by rw [if_neg (by omega)]⟩
end
end N6
end Go.Proofs.YthhgbpmihhljdaaGreatDoor
/- TopWholeOnce6: the way through the pieces. -/
namespace Go.Proofs.YthhgbpmihhljdaaGreatDoor
namespace N6
open Go Go.Eng Go.RowKit
section
variable {w : World} {so : Sl} {zs : List Int} {n : Nat}
set_option maxRecDepth 100000 in
set_option maxHeartbeats 1000000 in
theorem way_spec (hn : 1 ≤ n) (hn2 : n ≤ 1024) (hc : Cells w so.A (zs.map (.int .i64))) (hl : zs.length = so.n) : Calls Tryz.prog 10 #[.int .i64 (n : Int), so.val] w fun e w' => ∃ (s : Sl) (way : List Nat), e = .returned s.val ∧
    (∀ i ∈ way, i < n) ∧ (∀ i, i < n → i ∈ way) ∧ way.length ≤ 1300 ∧ Sep [Fct.rest w None, rowN s way] w' := by
  refine weirtop_walk_of n so.A so.n so.k w _ ?_
  unfold weirtop_walk_VC
  refine JoinVC.of (fun st w' => ∃ way : List Nat, (∀ i ∈ way, i < n) ∧ way.length ≤ 200 ∧ Sep [Fct.rest w None, rowN ⟨st.1, st.2.1, st.2.2⟩ way] w') ?_ ?_
  · refine LoopVC.of (fun st w' => ∃ (i : Nat) (way : List Nat), st.2 = i ∧ way.length = i ∧ i ≤ 200 ∧ (∀ k ∈ way, k < n) ∧ Sep [Fct.rest w None, rowN ⟨st.1.1, st.1.2.1, st.1.2.2⟩ way] w') (fun st _ => (200 - st.2).toNat)
      ⟨0, [], rfl, rfl, by omega, (fun k hk => by cases hk), (Sep.start0 w).nil 0 3 1⟩ ?_
    rintro ⟨⟨A1, n1, c1⟩, _⟩ w1 ⟨i, way, rfl, hwl, hi, hw, H⟩
    unfold weirtop_walk_L58
    have hn1 : n1 = way.length := by have := rowN_len (s := ⟨A1, n1, c1⟩) (H.own 1 rfl); have this : way.length = n1 := this; omega
    have fin : ∃ way : List Nat, (∀ i ∈ way, i < n) ∧ way.length ≤ 200 ∧ Sep [Fct.rest w None, rowN ⟨A1, n1, c1⟩ way] w1 := ⟨way, hw, by omega, H⟩
    refine Br.dec (fun hlt => Br.dec (fun h2 => ?_) fun _ => fin) fun _ => fin
    refine IdxVC.int (hc.ext (H.restOf 0 rfl)) (Int.natCast_nonneg _) hlt hl fun a ha => ⟨_, ha, ?_⟩
    refine (mod_spec (by omega) (by omega)).mono ?_
    rintro _ _ ⟨rfl, k, rfl, hk⟩
    refine ⟨_, rfl, NewVC.sep H fun g1 w2 H2 => ?_⟩
    have H2 := H2.front
    refine appN (x := k) H2 2 rfl (Cells.blk0 (H2.blk 0 rfl)) (show n1 ≤ 1000000 by omega) fun A2 c2 w3 H3 => ?_
    have H3 := H3.tail
    have h2 : (i : Int) < 200 := h2
    rw [w64 (by omega) (by omega)]
    refine ⟨⟨i + 1, way ++ [k], by simp, by simp; omega, by omega, fun j hj => ?_, H3⟩, by first | omega | (simp only; omega)⟩
    rcases List.mem_append.1 hj with hj | hj
    · exact hw j hj
    · rw [List.mem_singleton.1 hj]; omega
  · rintro ⟨A1, n1, c1⟩ w1 ⟨way, hw, hwl, H⟩
    unfold weirtop_walk_J7
    rw [w64 (by omega) (by omega)]
    refine LoopVC.of (fun st w' => ∃ (c : Nat) (way : List Nat), st.2 = (c : Int) - 1 ∧ c ≤ n ∧ (∀ k ∈ way, k < n) ∧ (∀ k, c ≤ k → k < n → k ∈ way) ∧ way.length ≤ 200 + (n - c) ∧ Sep [Fct.rest w None, rowN ⟨st.1.1, st.1.2.1, st.1.2.2⟩ way] w') (fun st _ => (st.2 + 1).toNat)
      ⟨n, way, rfl, Nat.le_refl _, hw, (fun k h1 h2 => by omega), by omega, H⟩ ?_
    rintro ⟨⟨A2, n2, c2⟩, _⟩ w2 ⟨c, way, rfl, hcn, hw, hall, hwl, H⟩
    unfold weirtop_walk_L122
    have hn2' : way.length = n2 := rowN_len (s := ⟨A2, n2, c2⟩) (H.own 1 rfl)
    refine Br.dec (fun h0 => ?_) fun h0 => ?_
    · obtain ⟨k, rfl⟩ : ∃ k, c = k + 1 := ⟨c - 1, by have h0 : (0 : Int) ≤ (c : Int) - 1 := h0; omega⟩
      have e : ((k + 1 : Nat) : Int) - 1 = (k : Int) := by omega
      simp only [e]
      have hcells := cells_nat (own_cells (A := A2) (c := c2) (H.own 1 rfl))
      refine (among_spec (s := ⟨A2, n2, c2⟩) (x := k) hcells hn2' (by show n2 ≤ 1000000; omega)).mono ?_
      rintro _ _ ⟨rfl, rfl⟩
      have hw1 : IntKind.i64.wrap ((k : Int) - 1) = (k : Int) - 1 := w64 (by omega) (by omega)
      refine ⟨_, rfl, ?_⟩
      by_cases hm : k ∈ way
      · rw [decide_eq_true hm]
        refine Br.f rfl ?_
        rw [hw1]
        refine ⟨⟨k, way, rfl, by omega, hw, fun j h1 h2 => ?_, by omega, H⟩, by first | omega | (simp only; omega)⟩
        by_cases hj : j = k
        · rw [hj]; exact hm
        · exact hall j (by omega) h2
      · rw [decide_eq_false hm]
        refine Br.t rfl (NewVC.sep H fun g1 w3 H3 => ?_)
        have H3 := H3.front
        refine appN (x := k) H3 2 rfl (Cells.blk0 (H3.blk 0 rfl)) (show n2 ≤ 1000000 by omega) fun A3 c3 w4 H4 => ?_
        have H4 := H4.tail
        rw [hw1]
        refine ⟨⟨k, way ++ [k], rfl, by omega, fun j hj => ?_, fun j h1 h2 => ?_, by simp; omega, H4⟩, by first | omega | (simp only; omega)⟩
        · rcases List.mem_append.1 hj with hj | hj
          · exact hw j hj
          · rw [List.mem_singleton.1 hj]; omega
        · by_cases hj : j = k
          · rw [hj]; simp
          · exact List.mem_append_left _ (hall j (by omega) h2)
    · exact ⟨⟨A2, n2, c2⟩, way, rfl, hw, fun k hk => hall k (by have h0 : ¬ (0 : Int) ≤ (c : Int) - 1 := h0; omega) hk, by omega, H⟩
end
theorem cells_sub {w : World} {a : Addr} (pre xs post : List Value) (h : CellsAt w a 0 (pre ++ (xs ++ post))) : CellsAt w (a.add pre.length) 0 xs := by
  refine CellsAt.of _ 0 fun j v hv => ?_
  have hj := (List.getElem?_eq_some_iff.1 hv).1
  have := cellsAt_get h (pre.length + j) v (by rw [List.getElem?_append_right (by omega), show pre.length + j - pre.length = j by omega, List.getElem?_append_left hj]; exact hv)
  rw [add_add]
  rw [Nat.zero_add] at this ⊢
  exact this
end N6
end Go.Proofs.YthhgbpmihhljdaaGreatDoor
