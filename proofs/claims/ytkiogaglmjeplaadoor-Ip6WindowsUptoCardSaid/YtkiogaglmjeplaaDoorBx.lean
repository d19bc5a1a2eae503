/- Chapter 7 by value: what is read may be, and is written in as many bytes; a chain that was put is read as it was; one hop. -/
import Derived.Test.YtkiogaglmjeplaaDoorBh
import Derived.Test.YtkiogaglmjeplaaDoorBm
import Derived.Test.YtkiogaglmjeplaaDoorBw
namespace Go.Eng
open Go Go.RowKit
theorem ser6S_of {d : Ip6D} (h1 : ¬ fieldBad d) (h2 : (headersS d.exts (behindK d) true).2 = 0) (h3 : fragE d = 0) (h4 : 40 + (bodyB d).length ≤ 65535) :
    ser6S d = (head6 d (bodyB d).length ++ (d.src.bytes ++ (d.dst.bytes ++ bodyB d)), 0) := by
  unfold ser6S
  rw [if_neg h1, if_neg (by omega), if_neg (by omega), if_neg (by omega)]
theorem ser6S_size {d : Ip6D} (h : (ser6S d).2 = 0) : (ser6S d).1.length = 40 + (bodyB d).length := by
  obtain ⟨_, _, _, h⟩ := parseS_back h
  exact h.2
theorem parseS_ok {l : List Int} {t : Tail6} (h : parseS l = .ok t) : l.length ≤ 65535 ∧ 40 ≤ l.length ∧ 40 + lenP l ≤ l.length ∧ walkS (bpart l 40 (lenP l)) (l.getD 6 0) false = .ok t := by
  unfold parseS at h
  split at h
  · cases h
  · split at h
    · cases h
    · split at h
      · cases h
      · split at h
        · cases h
        · exact ⟨by omega, by omega, by omega, h⟩
/-- What is read may be, and is written in as many bytes as its header said. -/
theorem ser_of_parse {l : List Int} (hB : Bts l) {t : Tail6} (h : parseS l = .ok t) : (ser6S (t.d l)).2 = 0 ∧ (ser6S (t.d l)).1.length = 40 + lenP l := by
  obtain ⟨h1, h2, h3, hw⟩ := parseS_ok h
  obtain ⟨L, hL⟩ : ∃ L, L = bpart l 40 (lenP l) := ⟨_, rfl⟩
  have hLl : L.length = lenP l := by rw [hL]; exact bpart_len h3
  have hLB : Bts L := by rw [hL]; exact (hB.drop _).take _
  rw [← hL] at hw
  have b0 := getD_byte hB 0
  have b1 := getD_byte hB 1
  have b2 := getD_byte hB 2
  have b3 := getD_byte hB 3
  have b6 := getD_byte hB 6
  have b7 := getD_byte hB 7
  obtain ⟨d, hd⟩ : ∃ d, d = t.d l := ⟨_, rfl⟩
  have e1 : d.cls = l.getD 0 0 % 16 * 16 + l.getD 1 0 / 16 := by rw [hd]; rfl
  have e2 : d.flow = (l.getD 1 0 % 16 * 256 + l.getD 2 0) * 256 + l.getD 3 0 := by rw [hd]; rfl
  have e3 : d.hop = l.getD 7 0 := by rw [hd]; rfl
  have e4 : d.src.v = 6 := by rw [hd]; rfl
  have e5 : d.dst.v = 6 := by rw [hd]; rfl
  have e6 : d.exts = t.exts.map (EP.d L) := by rw [hd, hL]; rfl
  have e7 : d.frag = t.frag := by rw [hd]; rfl
  have e8 : d.next = t.next := by rw [hd]; rfl
  have e9 : d.data = L.drop t.p := by rw [hd, hL]; rfl
  rw [← hd]
  have key : 0 ≤ t.next ∧ t.next ≤ 255 ∧ ∃ p', (headersS d.exts (behindK d) true).2 = 0 ∧ (headersS d.exts (behindK d) true).1.length = p' ∧ fragE d = 0 ∧ p' + (fragB d).length + d.data.length = lenP l := by
    unfold walkS at hw
    rw [Bool.not_false] at hw
    cases hh : hdrsS L true (l.getD 6 0) 0 0 with
    | error e => rw [hh] at hw; cases hw
    | ok r =>
      obtain ⟨es, k', p'⟩ := r
      obtain ⟨i1, i2, i3, i4, i5, i6⟩ := hdrsS_inside hLB 8 0 _ 0 es k' p' (by omega) (Nat.zero_le _) hh
      have i6 := i6 b6
      rw [hh] at hw
      simp only at hw
      by_cases h44 : k' = 44
      · rw [if_pos h44, if_neg (by decide)] at hw
        split at hw
        · cases hw
        rename_i h8
        split at hw
        · cases hw
        rename_i hft
        injection hw with hw
        have hex : t.exts = es := by rw [← hw]
        have hfr : t.frag = fragAt L p' := by rw [← hw]
        have hnx : t.next = L.getD p' 0 := by rw [← hw]
        have htp : t.p = p' + 8 := by rw [← hw]
        rw [hex] at e6; rw [hfr] at e7; rw [hnx] at e8; rw [htp] at e9
        have bn := getD_byte hLB p'
        have hwr := hdrsS_wr hLB hh (behindK d)
        rw [← e6] at hwr
        have c2 := getD_byte hLB (p' + 2)
        have c3 := getD_byte hLB (p' + 3)
        have c4 := getD_byte hLB (p' + 4)
        have c5 := getD_byte hLB (p' + 5)
        have c6 := getD_byte hLB (p' + 6)
        have c7 := getD_byte hLB (p' + 7)
        have hdl : d.data.length = L.length - (p' + 8) := by rw [e9, List.length_drop]
        refine ⟨by omega, by omega, p', hwr.1, hwr.2, ?_, ?_⟩
        · unfold fragE
          have hhas : d.frag.has = true := by rw [e7]; rfl
          rw [if_pos hhas, hdl, e7, if_neg]
          have hft2 : fitsS (fragAt L p') (L.length - (p' + 8)) = true := by simpa using hft
          unfold fragAt at hft2 ⊢
          simp only
          rw [hft2]
          intro hq
          rcases hq with hq | hq | hq | hq | hq | hq
          · omega
          · omega
          · omega
          · omega
          · omega
          · cases hq
        · have hfb : (fragB d).length = 8 := by unfold fragB; rw [if_pos (by rw [e7]; rfl)]; rfl
          rw [hfb, hdl]; omega
      · rw [if_neg h44] at hw
        injection hw with hw
        have hex : t.exts = es := by rw [← hw]
        have hfr : t.frag = FragV.z := by rw [← hw]
        have hnx : t.next = k' := by rw [← hw]
        have htp : t.p = p' := by rw [← hw]
        rw [hex] at e6; rw [hfr] at e7; rw [hnx] at e8; rw [htp] at e9
        have hwr := hdrsS_wr hLB hh (behindK d)
        rw [← e6] at hwr
        have hdl : d.data.length = L.length - p' := by rw [e9, List.length_drop]
        refine ⟨by omega, by omega, p', hwr.1, hwr.2, ?_, ?_⟩
        · unfold fragE
          rw [e7, if_neg (by decide), if_neg (by unfold FragV.z; simp), e8, if_pos (upperS_of i4 h44)]
        · have hfb : fragB d = [] := by unfold fragB; rw [if_neg (by rw [e7]; decide)]
          rw [hfb, hdl, List.length_nil]; omega
  obtain ⟨n1, n2, p', k1, k2, k3, k4⟩ := key
  have hbl : (bodyB d).length = lenP l := by
    unfold bodyB
    simp only [List.length_append]
    omega
  have hok : (ser6S d).2 = 0 := by
    rw [ser6S_of ?_ k1 k3 (by omega)]
    unfold fieldBad
    rw [e1, e2, e3, e4, e5, e8]
    omega
  exact ⟨hok, by rw [ser6S_size hok, hbl]⟩
theorem canon_ok {l : List Int} (hB : Bts l) {t : Tail6} (h : parseS l = .ok t) : canonS l = decide (l = (ser6S (t.d l)).1) := by
  unfold canonS
  rw [h]
  simp only
  refine decide_eq_decide.2 ⟨fun q => q.2.symm, fun q => ⟨(ser_of_parse hB h).1, q.symm⟩⟩
theorem parsed_ok {l : List Int} {t : Tail6} (h : parseS l = .ok t) : parsed l = (t.d l, 0) := by unfold parsed; rw [h]
theorem parsed_err {l : List Int} {e : Int} (h : parseS l = .error e) : parsed l = (emptyD, e) := by unfold parsed; rw [h]
theorem canon_err {l : List Int} {e : Int} (h : parseS l = .error e) : canonS l = false := by unfold canonS; rw [h]
/-! ### Chain of PutChain -/
theorem putChainS_ok {l : List ExtD} {next : Int} (h : (putChainS l next).2 = 0) : (0 ≤ next ∧ next ≤ 255) ∧ (headersS l next false).2 = 0 ∧ upperS next = true ∧ (putChainS l next).1 = (headersS l next false).1 := by
  unfold putChainS at h ⊢
  split at h
  · exact absurd h (by decide)
  · rename_i h1
    split at h
    · rename_i h2; exact absurd h h2
    · rename_i h2
      split at h
      · rename_i h3
        rw [if_neg h1, if_neg h2, if_pos h3]
        exact ⟨by omega, by omega, h3, rfl⟩
      · exact absurd h (by decide)
theorem putChainS_err {l : List ExtD} {next : Int} (h : (putChainS l next).2 ≠ 0) : (putChainS l next).1 = [] := by
  unfold putChainS at h ⊢
  split
  · rfl
  · split
    · rfl
    · split
      · rename_i h1 h2 h3; rw [if_neg h1, if_neg h2, if_pos h3] at h; exact absurd rfl h
      · rfl
theorem firstE_range {l : List ExtD} {next : Int} {top : Bool} (hn : 0 ≤ next ∧ next ≤ 255) (h : (headersS l next top).2 = 0) : 0 ≤ firstE next l ∧ firstE next l ≤ 255 := by
  cases l with
  | nil => exact hn
  | cons x l =>
    have := bodyS_isH ((headersS_ok h).2.1 0 x (by simp) rfl).2
    unfold isH at this
    show 0 ≤ x.kind ∧ x.kind ≤ 255
    omega
theorem chain_back {l : List ExtD} {next : Int} {D : List Int} (h : (putChainS l next).2 = 0) (hl : ((putChainS l next).1 ++ D).length ≤ 65535) : chained (firstE next l) ((putChainS l next).1 ++ D) = (l, next, D, 0) := by
  obtain ⟨hn, hh, hu, hb⟩ := putChainS_ok h
  obtain ⟨h8, hok, _⟩ := headersS_ok hh
  have hB := headersS_B hh
  rw [hb, hB] at hl ⊢
  obtain ⟨es, e1, e2⟩ := hdrB_read (b := hdrB next l ++ D) (top := false) (upperS_isH hu).1 hn l 0 0 D (by omega) (fun j x hj => by
    have hjl : j < l.length := (List.getElem?_eq_some_iff.1 hj).1
    have := hok j x hjl hj
    simpa using this) rfl (Nat.zero_le _)
  have hr := firstE_range (top := false) hn hh
  unfold chained chainS walkS
  rw [if_neg (by omega), if_neg (by omega), Bool.not_true, e1]
  simp only
  rw [if_neg (upperS_isH hu).2]
  simp only [e2, Nat.zero_add, List.drop_left]
theorem links_ser {d : Ip6D} (hf : d.frag = FragV.z) (hb : ¬ fieldBad d) (h : (putChainS d.exts d.next).2 = 0) (hl : 40 + ((putChainS d.exts d.next).1 ++ d.data).length ≤ 65535) :
    ser6S d = (head6 d ((putChainS d.exts d.next).1 ++ d.data).length ++ (d.src.bytes ++ (d.dst.bytes ++ ((putChainS d.exts d.next).1 ++ d.data))), 0) ∧ firstK d = firstE d.next d.exts := by
  obtain ⟨hn, hh, hu, hpb⟩ := putChainS_ok h
  obtain ⟨h8, hok, _⟩ := headersS_ok hh
  have hbk : behindK d = d.next := by unfold behindK; rw [hf, if_neg (by decide)]
  have h2 : (headersS d.exts (behindK d) true).2 = 0 := headersS_of h8 fun j x hj hx => by
    have := hok j x hj hx
    exact ⟨fun q => this.1 ⟨q.1, fun t => by cases t.1⟩, this.2⟩
  have hB1 := headersS_B hh
  have hB2 := headersS_B h2
  have hfb : fragB d = [] := by unfold fragB; rw [hf, if_neg (by decide)]
  have hbody : bodyB d = (putChainS d.exts d.next).1 ++ d.data := by
    unfold bodyB; rw [hB2, hbk, hfb, List.nil_append, hpb, hB1]
  have hfe : fragE d = 0 := by
    unfold fragE
    rw [hf, if_neg (by decide), if_neg (by unfold FragV.z; simp), if_pos hu]
  refine ⟨?_, ?_⟩
  · rw [ser6S_of hb h2 hfe (by rw [hbody]; exact hl), hbody]
  · unfold firstK firstE
    rw [hbk]
    cases d.exts <;> rfl
theorem len40 (d : Ip6D) (n : Nat) (X : List Int) : (head6 d n ++ (d.src.bytes ++ (d.dst.bytes ++ X))).length = 40 + X.length := by
  have h8 : (head6 d n).length = 8 := rfl
  have h16 : d.src.bytes.length = 16 := rfl
  have h17 : d.dst.bytes.length = 16 := rfl
  rw [List.length_append, List.length_append, List.length_append, h8, h16, h17]
  omega
/-! ### One hop -/
theorem getD_set7 {l : List Int} {x : Int} {j : Nat} (h : j ≠ 7) : (l.set 7 x).getD j 0 = l.getD j 0 := by
  rw [List.getD_eq_getElem?_getD, List.getElem?_set_ne (fun e => h e.symm), ← List.getD_eq_getElem?_getD]
theorem bpart_set7 {l : List Int} {x : Int} {p n : Nat} (h : 8 ≤ p) : bpart (l.set 7 x) p n = bpart l p n := by
  unfold bpart
  rw [List.drop_set, if_pos (by omega)]
theorem lenP_set7 {l : List Int} {x : Int} : lenP (l.set 7 x) = lenP l := by
  unfold lenP; rw [getD_set7 (by decide), getD_set7 (by decide)]
theorem parseS_set7 {l : List Int} {x : Int} : parseS (l.set 7 x) = parseS l := by
  unfold parseS
  rw [List.length_set, getD_set7 (by decide), getD_set7 (by decide), lenP_set7, bpart_set7 (by decide)]
theorem d_set7 {l : List Int} {x : Int} (t : Tail6) (h : 7 < l.length) : t.d (l.set 7 x) = { t.d l with hop := x } := by
  unfold Tail6.d
  rw [getD_set7 (by decide), getD_set7 (by decide), getD_set7 (by decide), getD_set7 (by decide), lenP_set7, bpart_set7 (by decide), bpart_set7 (by decide), bpart_set7 (by decide)]
  congr 1
  rw [List.getD_eq_getElem?_getD, List.getElem?_set_self h]; rfl
theorem parseS_ne {l : List Int} {er : Int} (hp : parseS l = .error er) : er ≠ 0 := by
  unfold parseS at hp
  split at hp
  · cases hp; decide
  · split at hp
    · cases hp; decide
    · split at hp
      · cases hp; decide
      · split at hp
        · cases hp; decide
        · unfold walkS at hp
          split at hp
          · rename_i e he
            cases hp
            exact hdrsS_ne he
          · split at hp
            · split at hp
              · cases hp; decide
              · split at hp
                · cases hp; decide
                · split at hp
                  · cases hp; decide
                  · cases hp
            · cases hp
theorem parsed_set7 {l : List Int} {x : Int} (h : (parsed l).2 = 0) (hl : 7 < l.length) : parsed (l.set 7 x) = ({ (parsed l).1 with hop := x }, 0) := by
  cases hp : parseS l with
  | error e =>
    rw [parsed_err hp] at h
    exact absurd h (parseS_ne hp)
  | ok t =>
    rw [parsed_ok hp, parsed_ok (parseS_set7.trans hp), d_set7 t hl]
theorem ser_hop {d : Ip6D} (h : (ser6S d).2 = 0) {x : Int} (hx : 0 ≤ x ∧ x ≤ 255) : ser6S { d with hop := x } = ((ser6S d).1.set 7 x, 0) := by
  rcases ser6S_cases d with ⟨h1, _⟩ | ⟨_, hf, hh, hfr, hl, e⟩
  · exact absurd h h1
  · have h' : ¬ fieldBad { d with hop := x } := by
      unfold fieldBad at hf ⊢
      simp only
      omega
    rw [ser6S_of (d := { d with hop := x }) h' hh hfr hl, e]
    rfl
theorem ser_seven {d : Ip6D} (h : (ser6S d).2 = 0) : (ser6S d).1.getD 7 0 = d.hop ∧ 40 ≤ (ser6S d).1.length := by
  rcases ser6S_cases d with ⟨h1, _⟩ | ⟨_, hf, hh, hfr, hl, e⟩
  · exact absurd h h1
  · have := ser6S_size h
    rw [e]
    refine ⟨rfl, by rw [← e]; omega⟩
theorem set7_eq {a b : List Int} {x : Int} (h : a.set 7 x = b.set 7 x) (h7 : a.getD 7 0 = b.getD 7 0) : a = b := by
  have hl : a.length = b.length := by have := congrArg List.length h; simpa using this
  apply List.ext_getElem?
  intro j
  by_cases hj : j = 7
  · subst hj
    rw [List.getD_eq_getElem?_getD, List.getD_eq_getElem?_getD] at h7
    rcases Nat.lt_or_ge 7 a.length with hlt | hge
    · rw [List.getElem?_eq_getElem hlt, List.getElem?_eq_getElem (by omega)] at h7 ⊢
      simpa using h7
    · rw [List.getElem?_eq_none hge, List.getElem?_eq_none (by omega)]
  · have : (a.set 7 x)[j]? = (b.set 7 x)[j]? := by rw [h]
    rw [List.getElem?_set_ne (fun e => hj e.symm), List.getElem?_set_ne (fun e => hj e.symm)] at this
    exact this
theorem canon_set7 {l : List Int} (hB : Bts l) {t : Tail6} (h : parseS l = .ok t) {x : Int} (hx : 0 ≤ x ∧ x ≤ 255) (h7 : 7 < l.length) : canonS (l.set 7 x) = canonS l := by
  have hB' : Bts (l.set 7 x) := by
    intro y hy
    rcases List.mem_or_eq_of_mem_set hy with hy | hy
    · exact hB y hy
    · subst hy; omega
  have hp' : parseS (l.set 7 x) = .ok t := parseS_set7.trans h
  rw [canon_ok hB' hp', canon_ok hB h, d_set7 t h7]
  obtain ⟨hs, _⟩ := ser_of_parse hB h
  rw [ser_hop hs hx]
  obtain ⟨h70, h40⟩ := ser_seven hs
  refine decide_eq_decide.2 ⟨fun q => set7_eq q ?_, fun q => by rw [← q]⟩
  rw [h70]; rfl
theorem set_set7 {l : List Int} {x y : Int} : (l.set 7 x).set 7 y = l.set 7 y := List.set_set ..
theorem getD_set7_self {l : List Int} {x : Int} (h : 7 < l.length) : (l.set 7 x).getD 7 0 = x := by
  rw [List.getD_eq_getElem?_getD, List.getElem?_set_self h]; rfl
theorem set7_self {l : List Int} (h : 7 < l.length) : l.set 7 (l.getD 7 0) = l := by
  rw [List.getD_eq_getElem?_getD, List.getElem?_eq_getElem h]
  simp
end Go.Eng
/- Chapter 7's laws: Ip6Canon, Ip6Links. -/
namespace Go.Proofs.YtkiogaglmjeplaaDoor
namespace N6
open Go.Eng Go.RowKit
section
variable {w : World} {s : Sl} {l : List Int}
set_option maxHeartbeats 4000000 in
theorem canon6_law (hB : BytesAt w s l) (hK : Kn w) : Calls Tryd.prog 9 #[s.val] w fun e w' => e = .returned (.bool true) ∧ Ext w w' := by
  refine weirlaw7_Ip6Canon_of s.A s.n s.k w _ ?_
  unfold weirlaw7_Ip6Canon_VC
  have hl := hB.len
  have hs := hB.small
  refine (parse_at hB hK).mono ?_
  rintro _ w1 ⟨h, xs, data, rfl, hd, hA, hE1⟩
  refine onRet_is (Ip6V.of h ⟨_, rfl, NewVC.sep (Sep.start0 w1) fun g1 w2 K => Stores.sep K 1 rfl (Ip6V.one h) (Nat.le_refl _) (splice_all rfl) fun w3 K => ?_⟩)
  have hE3 := hE1.trans (K.restOf 0 rfl)
  have hg1 := K.blk 1 rfl
  have hA := hA.ext (K.restOf 0 rfl)
  clear K
  refine num7_spec.mono ?_
  rintro _ w4 ⟨hw4, rfl⟩
  subst w4
  cases hp : parseS l with
  | error er =>
    have hne := parseS_ne hp
    rw [parsed_err hp] at hd ⊢
    refine ⟨_, rfl, Br.yes hne ?_⟩
    refine (started7_spec (hK.ext hE3)).mono ?_
    rintro _ w5 ⟨hE5, rfl⟩
    have hE5' := hE3.trans hE5
    refine ⟨_, rfl, Br.t rfl (Ip6V.of h ⟨CellsAt.blk (hg1.ext hE5), ?_⟩)⟩
    refine (same6_spec (hA.ext hE5) (Ip6At.z _)).mono ?_
    rintro _ w6 ⟨x, rfl, hx, hE6⟩
    have hxt := hx.2 hd
    subst hxt
    refine ⟨_, rfl, Br.t rfl ?_⟩
    refine (canonical_spec (hB.ext (hE5'.trans hE6)) (hK.ext (hE5'.trans hE6))).mono ?_
    rintro _ w7 ⟨hE7, rfl⟩
    refine ⟨_, rfl, ?_, (hE5'.trans hE6).trans hE7⟩
    rw [canon_err hp]; rfl
  | ok t =>
    obtain ⟨p1, p2, p3, hw⟩ := parseS_ok hp
    obtain ⟨hs0, hsl⟩ := ser_of_parse hB.bts hp
    rw [parsed_ok hp] at hd ⊢
    refine ⟨_, rfl, Br.no (fun h => h rfl) (Ip6V.of h ⟨CellsAt.blk hg1, ?_⟩)⟩
    refine (ser_at hA (hK.ext hE3)).mono ?_
    rw [hd]
    rintro _ w8 ⟨sc, rfl, hsc, hE8⟩
    have hE8' := hE3.trans hE8
    refine ⟨_, _, _, _, rfl, DrawVC.of (fun w' => Blk w' g1 30 h.cells ∧ BytesAt w' s l) fun w9 hE9 _ => ?_⟩
    have hE9' := hE8'.trans hE9
    have hg1 := hg1.ext (hE8.trans hE9)
    have hA := hA.ext (hE8.trans hE9)
    have hsc := hsc.ext hE9
    have hS : Blk w9 g1 30 h.cells ∧ BytesAt w9 s l := ⟨hg1, hB.ext hE9'⟩
    refine ⟨hS, ?_⟩
    refine num7_spec.mono ?_
    rintro _ w10 ⟨hw10, rfl⟩
    subst w10
    refine ⟨_, rfl, hS, Br.no (fun h => h hs0) (Ip6V.of h ⟨fun w' hb => CellsAt.blk hb.1, ?_⟩)⟩
    refine (check6_spec hA (hK.ext hE9')).mono ?_
    rw [hd]
    rintro _ w11 ⟨hE11, rfl⟩
    have hE11' := hE9'.trans hE11
    have hS : Blk w11 g1 30 h.cells ∧ BytesAt w11 s l := ⟨hg1.ext hE11, hB.ext hE11'⟩
    refine ⟨_, rfl, hS, ?_⟩
    refine num7_spec.mono ?_
    rintro _ w12 ⟨hw12, rfl⟩
    subst w12
    have hg1 := hg1.ext hE11
    have hA := hA.ext hE11
    have hsc := hsc.ext hE11
    have hscl := hsc.len
    rw [hsl] at hscl
    have b4 := getD_byte hB.bts 4
    have b5 := getD_byte hB.bts 5
    refine ⟨_, rfl, hS, Br.no (fun h => h hs0) (Br.no (by omega) ?_)⟩
    refine IdxVC.draw (k := .u8) (xs := l) (w := w11) (S := fun w' => Blk w' g1 30 h.cells ∧ BytesAt w' s l) hS (fun w' h => h.2.cells) (by decide) (by omega) hl fun a ha => ⟨_, ha, ?_⟩
    refine IdxVC.draw (k := .u8) (xs := l) (w := w11) (S := fun w' => Blk w' g1 30 h.cells ∧ BytesAt w' s l) hS (fun w' h => h.2.cells) (by decide) (by omega) hl fun a1 ha1 => ⟨_, ha1, ?_⟩
    have e4 : l.getD (4 : Int).toNat 0 = l.getD 4 0 := rfl
    have e5 : l.getD (5 : Int).toNat 0 = l.getD 5 0 := rfl
    have hLP : ((lenP l : Nat) : Int) = l.getD 4 0 * 256 + l.getD 5 0 := by unfold lenP; omega
    rw [e4, e5, w64 (n := l.getD 4 0) (by omega) (by omega), w64 (n := 256 * l.getD 4 0) (by omega) (by omega), w64 (n := 40 + 256 * l.getD 4 0) (by omega) (by omega), w64 (n := l.getD 5 0) (by omega) (by omega), w64 (by omega) (by omega)]
    refine Br.no (by omega) (Br.no (by omega) ?_)
    have hp2 := parse_at hsc (hK.ext hE11')
    rw [parsed_back hs0] at hp2
    refine hp2.mono ?_
    rintro _ w13 ⟨h2, xs2, data2, rfl, hd2, hA2, hE13⟩
    refine onRet_is (Ip6V.of h2 ⟨_, rfl, NewVC.sep (Sep.start0 w13) fun g2 w14 K => Stores.sep K 1 rfl (Ip6V.one h2) (Nat.le_refl _) (splice_all rfl) fun w15 K => ?_⟩)
    have hE15 := hE13.trans (K.restOf 0 rfl)
    have hg2 := K.blk 1 rfl
    have hA2 := hA2.ext (K.restOf 0 rfl)
    have hE15' := hE11'.trans hE15
    have hg1 := hg1.ext hE15
    have hA := hA.ext hE15
    have hsc := hsc.ext hE15
    clear K
    refine num7_spec.mono ?_
    rintro _ w16 ⟨hw16, rfl⟩
    subst w16
    refine ⟨_, rfl, Br.no (fun h => h rfl) (Ip6V.of h2 ⟨CellsAt.blk hg2, Ip6V.of h ⟨CellsAt.blk hg1, ?_⟩⟩)⟩
    refine (same6_spec hA2 hA).mono ?_
    rintro _ w17 ⟨x, rfl, hx, hE17⟩
    have hxt := hx.2 (hd2.trans hd.symm)
    subst hxt
    have hE17' := hE15'.trans hE17
    refine ⟨_, rfl, Br.f rfl ?_⟩
    refine (canonical_spec (hsc.ext hE17) (hK.ext hE17')).mono ?_
    rw [canonS_back hs0]
    rintro _ w18 ⟨hE18, rfl⟩
    have hE18' := hE17'.trans hE18
    refine ⟨_, rfl, Br.f rfl ?_⟩
    refine (started7_spec (hK.ext hE18')).mono ?_
    rintro _ w19 ⟨hE19, rfl⟩
    have hE19' := hE18'.trans hE19
    refine ⟨_, rfl, Br.t rfl ?_⟩
    refine (canonical_spec (hB.ext hE19') (hK.ext hE19')).mono ?_
    rintro _ w20 ⟨hE20, rfl⟩
    have hE20' := hE19'.trans hE20
    refine ⟨_, rfl, ?_⟩
    refine (alike7_spec (hB.ext hE20') (((hsc.ext hE17).ext hE18).ext (hE19.trans hE20))).mono ?_
    rintro _ w21 ⟨hw21, rfl⟩
    subst w21
    refine ⟨_, rfl, ?_, hE20'⟩
    rw [canon_ok hB.bts hp]
    congr 2
    exact beq_self_eq_true _
set_option maxHeartbeats 4000000 in
theorem links6_law {rs : List ExtR} {next : Int} {sd : Sl} {D : List Int} (hX : ExtsAt w s rs) (hD : BytesAt w sd D) (hdn : sd.n ≤ 1048576) (hK : Kn w) :
    Calls Tryd.prog 6 #[s.val, .int .i64 next, sd.val] w fun e w' => e = .returned (.bool true) ∧ Ext w w' := by
  refine weirlaw7_Ip6Links_of s.A s.n s.k next sd.A sd.n sd.k w _ ?_
  unfold weirlaw7_Ip6Links_VC
  have hxl := hX.len
  have hxs := hX.small
  refine (put_at (next := next) hX hK).mono ?_
  rintro _ w1 ⟨sb, rfl, hsb, hE1⟩
  have hsbl := hsb.len
  refine ⟨_, _, _, _, rfl, ?_⟩
  refine num7_spec.mono ?_
  rintro _ w2 ⟨hw2, rfl⟩
  subst w2
  obtain ⟨ls, hls⟩ : ∃ ls, ls = rs.map ExtR.d := ⟨_, rfl⟩
  rw [← hls] at hsb hsbl ⊢
  refine ⟨_, rfl, Br.dec (fun he => ?_) fun he => ?_⟩
  · refine (started7_spec (hK.ext hE1)).mono ?_
    rintro _ w3 ⟨hE3, rfl⟩
    refine ⟨_, rfl, Br.t rfl ⟨?_, hE1.trans hE3⟩⟩
    rw [putChainS_err he] at hsbl
    have : sb.n = 0 := hsbl.symm
    rw [this]; rfl
  have he : (putChainS ls next).2 = 0 := Classical.not_not.1 he
  refine JoinVC.of (fun st w' => w' = w1 ∧ st = firstE next ls) ?_ ?_
  · refine Br.dec (fun hpos => ?_) fun hz => ⟨rfl, ?_⟩
    · have h0 : rs[0]? = some rs[0] := List.getElem?_eq_getElem (by omega)
      refine (hX.ext hE1).idx (i := 0) rfl (by omega) fun a r hr hc _ _ => ⟨_, c0 hc, rfl, ?_⟩
      rw [hls]
      cases rs with
      | nil => simp at hr
      | cons x l => simp at hr; subst hr; rfl
    · have : rs = [] := List.eq_nil_of_length_eq_zero (by omega)
      rw [hls, this]; rfl
  rintro _ w4 ⟨hw4, rfl⟩
  subst w4
  unfold weirlaw7_Ip6Links_J31
  have hcl := putChainS_len ls next
  have hDl := hD.len
  obtain ⟨B, hBe⟩ : ∃ B, B = (putChainS ls next).1 := ⟨_, rfl⟩
  rw [← hBe] at hsb hsbl hcl
  refine appB (m := sb.n) (xs := []) (ys := B) ((Sep.start0 w1).nil _ _ _) 1 rfl hsb.cells hsbl (by omega) (Nat.le_refl _) fun A2 c2 w5 H _ => ?_
  rw [Nat.zero_add] at H ⊢
  refine appB (m := sd.n) (ys := D) H 1 rfl (hD.ext (hE1.trans (H.restOf 0 rfl))).cells hDl (by omega) (H.restOf 0 rfl).size fun A3 c3 w6 H _ => ?_
  have hE6 := hE1.trans (H.restOf 0 rfl)
  obtain ⟨sw, hsw⟩ : ∃ sw : Sl, sw = ⟨A3, sb.n + sd.n, c3⟩ := ⟨_, rfl⟩
  have hW : BytesAt w6 sw (B ++ D) := by
    rw [hsw]
    exact bytesAt_of (s := ⟨A3, sb.n + sd.n, c3⟩) (b := w1.heap.size) (l := [] ++ B ++ D) (H.own 1 rfl) ⟨by show sb.n + sd.n ≤ 4000000; omega, hsb.bts.append hD.bts⟩
  have hwn : sw.n = sb.n + sd.n := by rw [hsw]
  have hWl : (B ++ D).length = sb.n + sd.n := by rw [List.length_append]; omega
  refine Br.dec (fun hbig => ?_) fun hok => ?_
  · refine (started7_spec (hK.ext hE6)).mono ?_
    rintro _ w7 ⟨hE7, rfl⟩
    exact ⟨_, rfl, rfl, hE6.trans hE7⟩
  have hch := chain_back (D := D) he (by rw [← hBe]; omega)
  rw [← hBe] at hch
  have hcc := chain_at (next := firstE next ls) hW (hK.ext hE6)
  rw [hch, hsw] at hcc
  refine hcc.mono ?_
  rintro _ w8 ⟨se, sx, xs, dx, rfl, hxd, hdd, hXA, hDA, hE8⟩
  have hE8' := hE6.trans hE8
  refine ⟨_, _, _, _, _, _, _, _, rfl, ?_⟩
  refine num7_spec.mono ?_
  rintro _ w9 ⟨hw9, rfl⟩
  subst w9
  refine ⟨_, rfl, Br.no (fun h => h rfl) ?_⟩
  refine (sameExts7_spec hXA (hX.ext hE8')).mono ?_
  rintro _ w10 ⟨x, rfl, hx, hE10⟩
  have hxt := hx.2 (hxd.trans hls)
  subst hxt
  have hE10' := hE8'.trans hE10
  refine ⟨_, rfl, Br.f rfl (Br.no (fun h => h rfl) ?_)⟩
  refine (alike7_spec (hDA.ext hE10) (hD.ext hE10')).mono ?_
  rintro _ w11 ⟨hw11, rfl⟩
  subst w11
  rw [decide_eq_true hdd]
  refine ⟨_, rfl, Br.f rfl ?_⟩
  refine plain_spec.mono ?_
  rintro _ w12 ⟨g, sp, rfl, hg, hsp, hE12⟩
  have hE12' := hE10'.trans hE12
  obtain ⟨h3, hh3⟩ : ∃ h3 : Ip6V, h3 = { plainV g with exts := s, next := next, data := sd } := ⟨_, rfl⟩
  refine onRet_is (Ip6V.of (plainV g) ⟨_, _, _, rfl, NewVC.sep (Sep.start0 w12) fun g1 w13 K => Stores.sep K 1 rfl (Ip6V.one _) (Nat.le_refl _) (splice_all rfl) fun w14 K => SetVC.sep K 1 rfl (show 37 < 44 by decide) fun w15 K => SetVC.sep K 1 rfl (show 42 < 44 by decide) fun w16 K => SetVC.sep K 1 rfl (show 43 < 44 by decide) fun w17 K => ?_⟩)
  have ec : ((((plainV g).cells.set 37 (.slice s.A s.n s.k)).set 42 (.int .i64 next)).set 43 (.slice sd.A sd.n sd.k)) = h3.cells := by rw [hh3]; rfl
  rw [ec] at K
  have hE17' := hE12'.trans (K.restOf 0 rfl)
  have hW17 : BytesAt w17 sw (B ++ D) := hW.ext (((hE8.trans hE10).trans hE12).trans (K.restOf 0 rfl))
  have hA3 : Ip6At w17 h3 rs D := by
    rw [hh3]
    exact ⟨hX.ext hE17', hD.ext hE17', bts_list rfl, bts_list rfl⟩
  obtain ⟨d3, hd3⟩ : ∃ d3, d3 = h3.d rs D := ⟨_, rfl⟩
  have q1 : d3.exts = ls := by rw [hd3, hh3, hls]; rfl
  have q2 : d3.next = next := by rw [hd3, hh3]; rfl
  have q3 : d3.data = D := by rw [hd3]; rfl
  have q4 : d3.frag = FragV.z := by rw [hd3, hh3]; rfl
  have hnr := (putChainS_ok he).1
  have hfb : ¬ fieldBad d3 := by
    have f1 : d3.cls = 0 := by rw [hd3, hh3]; rfl
    have f2 : d3.flow = 0 := by rw [hd3, hh3]; rfl
    have f3 : d3.hop = 64 := by rw [hd3, hh3]; rfl
    have f4 : d3.src.v = 6 := by rw [hd3, hh3]; rfl
    have f5 : d3.dst.v = 6 := by rw [hd3, hh3]; rfl
    unfold fieldBad
    omega
  obtain ⟨hser, hfirst⟩ := links_ser (d := d3) q4 hfb (by rw [q1, q2]; exact he) (by rw [q1, q2, q3, ← hBe]; omega)
  rw [q1, q2, q3, ← hBe] at hser
  rw [q1, q2] at hfirst
  refine Ip6V.of h3 ⟨K.at 1 rfl, ?_⟩
  have hsa := ser_at hA3 (hK.ext hE17')
  rw [← hd3, hser] at hsa
  refine hsa.mono ?_
  rintro _ w18 ⟨sc, rfl, hsc, hE18⟩
  have hE18' := hE17'.trans hE18
  have hscl := hsc.len
  have hlen := len40 d3 (B ++ D).length (B ++ D)
  simp only at hscl
  rw [hlen] at hscl
  refine ⟨_, _, _, _, rfl, ?_⟩
  refine (started7_spec (hK.ext hE18')).mono ?_
  rintro _ w19 ⟨hE19, rfl⟩
  have hE19' := hE18'.trans hE19
  have hsc := hsc.ext hE19
  refine ⟨_, rfl, Br.t rfl ?_⟩
  refine num7_spec.mono ?_
  rintro _ w20 ⟨hw20, rfl⟩
  subst w20
  refine ⟨_, rfl, Br.yes rfl (Br.yes ?_ ?_)⟩
  · rw [w64 (by omega) (by omega)]; omega
  have hcap := hsc.cap
  have hsmall := hsc.small
  refine ⟨by decide, by omega, ?_⟩
  obtain ⟨st, hst⟩ : ∃ st : Sl, st = ⟨(if sc.k = (40 : Int).toNat then sc.A else sc.A.map (·.add ((40 : Int).toNat * 1))), sc.n - (40 : Int).toNat, sc.k - (40 : Int).toNat⟩ := ⟨_, rfl⟩
  have hdrop : (head6 d3 (B ++ D).length ++ (d3.src.bytes ++ (d3.dst.bytes ++ (B ++ D)))).drop 40 = B ++ D := rfl
  have hstB : BytesAt w19 st (B ++ D) := by
    rw [hst]
    refine ⟨by show _ = sc.n - 40; omega, by show sc.n - 40 ≤ sc.k - 40; omega, by show sc.n - 40 ≤ 4000000; omega, hsb.bts.append hD.bts, ?_⟩
    by_cases h0 : sc.n = 40
    · have : B ++ D = [] := List.eq_nil_of_length_eq_zero (by omega)
      rw [this]; exact Cells.nil _ _
    · show Cells w19 (if sc.k = 40 then sc.A else sc.A.map (·.add (40 * 1))) _
      rw [if_neg (by omega)]
      have := Cells.win hsc.cells (p := (40 : Int)) (k := ((B ++ D).length : Int))
      rw [if_neg (by omega), ← List.map_drop, ← List.map_take] at this
      rw [show (40 : Int).toNat = 40 from rfl, hdrop, Int.toNat_natCast, List.take_length] at this
      exact this
  have hal := alike7_spec hstB (hW17.ext (hE18.trans hE19))
  rw [hsw, hst] at hal
  refine hal.mono ?_
  rintro _ w21 ⟨hw21, rfl⟩
  subst w21
  rw [decide_eq_true rfl]
  refine ⟨_, rfl, Br.t rfl ?_⟩
  refine IdxVC.int (k := .u8) hsc.cells (by decide) (by omega) hsc.len fun a ha => ⟨_, ha, ?_, hE19'⟩
  have e6 : (head6 d3 (B ++ D).length ++ (d3.src.bytes ++ (d3.dst.bytes ++ (B ++ D)))).getD (6 : Int).toNat 0 = firstE next ls := by
    rw [← hfirst]; rfl
  have hfr := firstE_range (next := next) (top := false) hnr (putChainS_ok he).2.1
  rw [e6, w64 (by omega) (by omega)]
  congr 2
  exact decide_eq_true rfl
end
end N6
end Go.Proofs.YtkiogaglmjeplaaDoor
