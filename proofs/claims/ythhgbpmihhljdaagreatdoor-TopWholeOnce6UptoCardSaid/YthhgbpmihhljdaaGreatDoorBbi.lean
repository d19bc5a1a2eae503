/- Chapter 12: Offer6. -/
import Derived.Test.YthhgbpmihhljdaaGreatDoorBbh
namespace Go.Proofs.YthhgbpmihhljdaaGreatDoor
namespace N6
open Go Go.Eng Go.RowKit
def key6 (h : Ip6V) : KeyV := ⟨h.src, h.dst, -1, h.frag.id⟩
/-- What Offer6 answers, and what the table is then. -/
inductive Out6 (T : TabR) (h : Ip6V) (es : List ExtR) (d : List Int) : TabR → Int → Int → Int → Option Ip6D → Prop
  | bad : (ser6S (h.d es d)).2 ≠ 0 → Out6 T h es d T 0 0 (ser6S (h.d es d)).2 none
  | plain : (ser6S (h.d es d)).2 = 0 → h.frag.has = false → Out6 T h es d T 0 1 0 (some (h.d es d))
  | atomBad : (ser6S (h.d es d)).2 = 0 → h.frag.has = true → h.frag.off = 0 → h.frag.more = false → joinOk (h.d es d) d = false → Out6 T h es d T 0 0 126 none
  | atom : (ser6S (h.d es d)).2 = 0 → h.frag.has = true → h.frag.off = 0 → h.frag.more = false → joinOk (h.d es d) d = true → Out6 T h es d T h.frag.id 1 0 (some (joinD (h.d es d) d))
  | unready (j : Nat) (c : CtxR) : T.cs[j]? = some c → c.v.key = key6 h → readyS c.v 125 c.v.why ≠ 0 → Out6 T h es d T 0 0 (readyS c.v 125 c.v.why) none
  | refused (j : Nat) (c : CtxR) (r r' : HolR) : Open T (key6 h) 125 c.v.why j c r r' → r'.s = r.s → refusedS r.s h.frag.off d.length h.frag.more ≠ 0 → Out6 T h es d (T.upd j (layC c r')) 0 0 (layErr (refusedS r.s h.frag.off d.length h.frag.more)) none
  | same (j : Nat) (c : CtxR) (r r' : HolR) : Open T (key6 h) 125 c.v.why j c r r' → refusedS r.s h.frag.off d.length h.frag.more = 0 → r'.s = putS r.s h.frag.off d h.frag.more → HolOk r'.s → (fitS r.s h.frag.off d h.frag.more).same = true → Out6 T h es d (T.upd j (layC c r')) 0 0 121 none
  | overlap (j : Nat) (c : CtxR) (r r' : HolR) : Open T (key6 h) 125 c.v.why j c r r' → refusedS r.s h.frag.off d.length h.frag.more = 0 → (fitS r.s h.frag.off d h.frag.more).same = false → 0 < (fitS r.s h.frag.off d h.frag.more).old →
      Out6 T h es d (T.upd j ((layC c r').shut 2 122 c.v.frags)) 0 0 122 none
  | held (j : Nat) (c : CtxR) (r r' : HolR) (T' : TabR) (n o e : Int) (od : Option Ip6D) : Open T (key6 h) 125 c.v.why j c r r' → refusedS r.s h.frag.off d.length h.frag.more = 0 → r'.s = putS r.s h.frag.off d h.frag.more → HolOk r'.s →
      (fitS r.s h.frag.off d h.frag.more).same = false → ¬ 0 < (fitS r.s h.frag.off d h.frag.more).old → Tail6' (T.upd j (holdC c r')) j (holdC c r') r' h es d h.frag.id T' n o e od → Out6 T h es d T' n o e od
  | nrefused : (∀ c ∈ T.cs, c.v.key ≠ key6 h) → refusedS (HolS.start 65495) h.frag.off d.length h.frag.more ≠ 0 → Out6 T h es d T 0 0 (layErr (refusedS (HolS.start 65495) h.frag.off d.length h.frag.more)) none
  | nfull : (∀ c ∈ T.cs, c.v.key ≠ key6 h) → refusedS (HolS.start 65495) h.frag.off d.length h.frag.more = 0 → ¬ (T.cs.length : Int) < T.max → Out6 T h es d T 0 0 120 none
  | nheld (T1 : TabR) (g : Nat) (r' : HolR) (T' : TabR) (n o e : Int) (od : Option Ip6D) : (∀ c ∈ T.cs, c.v.key ≠ key6 h) → refusedS (HolS.start 65495) h.frag.off d.length h.frag.more = 0 → r'.s = putS (HolS.start 65495) h.frag.off d h.frag.more → HolOk r'.s →
      Roomed T T1 → Tail6' (T1.join (newC g (key6 h) T.ticks r')) T1.cs.length (joinC T1 (newC g (key6 h) T.ticks r')) r' h es d h.frag.id T' n o e od → Out6 T h es d T' n o e od
section
variable {w w0 : World} {T : TabR} {j : Nat} {c : CtxR} {r : HolR} {a b d e : Fct} {Δ : List Fct} {R : Ending → World → Prop} {t : Option Addr} {g1 g2 g4 : Nat} {p : LaidV} {id : Int}
theorem shut_fs4 {Δ rows : List Fct} {st why n : Int} (hj : T.cs[j]? = some c) {c1 : CtxR} (hk : c1.v.key = c.v.key) (hg : c1.g = c.g)
    (H : Sep (([a, b, d, e, ctxB c1.g (c1.shut st why n).v] ++ (tabRest T j ++ rows)) ++ Δ) w) : Sep (a :: b :: d :: e :: tabFs (T.upd j (c1.shut st why n))) w := by
  refine Sep.perm ?_ (((((tab_unfocus (T := T) (c' := c1.shut st why n) hj hk hg).cons _).cons _).cons _).cons _)
  have e1 : ctxFs (c1.shut st why n) = ctxB c1.g (c1.shut st why n).v :: (rows4 Ip4V.z [] [] ++ rows6 Ip6V.z [] []) := rfl
  rw [e1]
  have H := Sep.nils H
  generalize rows4 Ip4V.z [] [] ++ rows6 Ip6V.z [] [] = z at H ⊢
  exact Sep.sub (H.perm (perm_cn fun c o h1 h2 h3 => by simp only [h1, h2, h3]; omega)) (List.sublist_append_left _ (rows ++ Δ))
theorem upd_upd (T : TabR) (j : Nat) (c c' : CtxR) : (T.upd j c).upd j c' = T.upd j c' := by
  unfold TabR.upd
  simp only [List.set_set]
theorem upd_at {T : TabR} {j : Nat} {c c' : CtxR} (hj : T.cs[j]? = some c) : (T.upd j c').cs[j]? = some c' := by
  show (T.cs.set j _)[j]? = _
  rw [List.getElem?_set]
  simp [(List.getElem?_eq_some_iff.1 hj).1]
theorem err2047 {code : Int} (H : Sep (Fct.blk g4 86 p.cells :: Fct.blk g2 30 (Ip6V.z : Ip6V).cells :: Δ) w) (hc : code ≠ 0) (hR : ∀ w', Sep Δ w' → R (.returned (.tuple #[(Ip6V.z : Ip6V).val, .int .i64 0, .int .i64 0, .int .i64 code])) w') :
    reasm_Table_Offer6_J2047 R g1 g2 id g4 code w := by
  unfold reasm_Table_Offer6_J2047
  refine Br.t (decide_eq_true hc) (Stores.sep H 1 rfl (Ip6V.one _) (Nat.le_refl _) (splice_all rfl) fun w1 H1 => Ip6V.of Ip6V.z ⟨H1.at 1 rfl, hR _ H1.tail.tail⟩)
/-- A datagram that is its own one fragment. -/
theorem atom6 {h : Ip6V} {es : List ExtR} {d : List Int} {B : Nat → Prop} (H : Sep (Fct.blk g2 30 (Ip6V.z : Ip6V).cells :: Fct.blk g1 30 h.cells :: Fct.rest w0 B :: tabFs T) w)
    (hA : ∀ w', Mod B w0 w' → Ip6At w' h es d) (hK : ∀ w', Mod B w0 w' → Kn w') (hfew : es.length ≤ 1000)
    (hR0 : joinOk (h.d es d) d = false → ∀ w', Sep (Fct.rest w0 B :: tabFs T) w' → R (.returned (.tuple #[(Ip6V.z : Ip6V).val, .int .i64 0, .int .i64 0, .int .i64 126])) w')
    (hR1 : joinOk (h.d es d) d = true → ∀ w' res, Sep (Fct.rest w0 B :: tabFs T) w' → Back6 w' res (some (joinD (h.d es d) d)) → R (.returned (.tuple #[res.val, .int .i64 id, .int .i64 1, .int .i64 0])) w') :
    reasm_Table_Offer6_J243 R t g1 g2 id true w := by
  unfold reasm_Table_Offer6_J243
  have hA0 := hA w (H.restOf 2 rfl)
  refine Br.t rfl ⟨h.exts.A, h.exts.n, h.exts.k, (H.blk 1 rfl).cell 37, ?_⟩
  refine (rclone6_spec (h := ⟨0, 0, 0, IPV.z, IPV.z, ⟨h.exts.A, h.exts.n, h.exts.k⟩, FragV.z, 0, ⟨none, 0, 0⟩⟩) (es := es) (data := []) ⟨hA0.exts, BytesAt.nil _ _ _, bts_z, bts_z⟩).mono ?_
  rintro _ w1 ⟨se, sd, es', rfl, hed, hef, hbf, H1⟩
  have H1 := H.mades H1
  have hl : es'.length = es.length := by have := congrArg List.length hed; rwa [List.length_map, List.length_map] at this
  refine onRet_at (Ip6V.of (Ip6V.with_ ⟨0, 0, 0, IPV.z, IPV.z, ⟨h.exts.A, h.exts.n, h.exts.k⟩, FragV.z, 0, ⟨none, 0, 0⟩⟩ se sd) ⟨rfl, NewVC.sep H1 fun g3 w2 H2 => Stores.sep H2.front 0 (cs' := (Ip6V.with_ ⟨0, 0, 0, IPV.z, IPV.z, ⟨h.exts.A, h.exts.n, h.exts.k⟩, FragV.z, 0, ⟨none, 0, 0⟩⟩ se sd).cells) rfl (Ip6V.one _) (Nat.le_refl _) (splice_all rfl) fun w3 H3 => ?_⟩)
  refine Ip6V.of h ⟨H3.at 2 rfl, NewVC.sep H3 fun g4 w4 H4 => Stores.sep H4.front 0 (cs' := h.cells) rfl (Ip6V.one _) (Nat.le_refl _) (splice_all rfl) fun w5 H5 => ?_⟩
  refine ⟨se.A, se.n, se.k, (H5.blk 1 rfl).cell 37, SetVC.sep H5 0 (k := 37) rfl (show 37 < 44 by decide) fun w6 H6 => ?_⟩
  have H6 : Sep (Fct.blk g4 30 (Ip6V.cells { h with exts := se }) :: Fct.blk g3 30 (Ip6V.with_ ⟨0, 0, 0, IPV.z, IPV.z, ⟨h.exts.A, h.exts.n, h.exts.k⟩, FragV.z, 0, ⟨none, 0, 0⟩⟩ se sd).cells :: ((Fct.blk g2 30 (Ip6V.z : Ip6V).cells :: Fct.blk g1 30 h.cells :: Fct.rest w0 B :: tabFs T) ++ (extFs 0 se es' ++ [rowB 0 sd []]))) w6 := H6
  have hA6 := hA w6 (H6.restOf 4 rfl)
  have e1 : ({ h with exts := se } : Ip6V).d es' d = h.d es d := by unfold Ip6V.d; rw [hed]
  refine Ip6V.of { h with exts := se } ⟨H6.at 0 rfl, h.data.A, h.data.n, h.data.k, (H6.blk 3 rfl).cell 43, ?_⟩
  refine (joined_spec (h := { h with exts := se }) (s := h.data) (l := d) (es := es') (extsAt_of (b := 0) (fun f hf => H6.mem (.tail _ (.tail _ (List.mem_append_right _ (List.mem_append_left _ hf))))) hef) (by omega) hA6.src hA6.dst hA6.data (hK w6 (H6.restOf 4 rfl)) d).mono ?_
  rintro _ w7 ⟨Δ, res, Hj, rfl, hback⟩
  rw [e1] at hback ⊢
  have H7 := H6.mades Hj
  refine onRet_at (Ip6V.of res ⟨_, rfl, NewVC.sep H7 fun g5 w8 H8 => Stores.sep H8.front 0 (cs' := res.cells) rfl (Ip6V.one _) (Nat.le_refl _) (splice_all rfl) fun w9 H9 => ?_⟩)
  have out : ∀ {a b c d e : Fct} {Y Z : List Fct} {w : World}, Sep (a :: (b :: c :: ((d :: e :: Fct.rest w0 B :: tabFs T) ++ Y) ++ Z)) w → Sep (Fct.rest w0 B :: tabFs T) w := fun H =>
    ((H.tail.sub (List.sublist_append_left _ _)).tail.tail.sub (List.sublist_append_left _ _)).tail.tail
  cases hjo : joinOk (h.d es d) d with
  | false => exact Br.t rfl (Stores.sep H9 3 rfl (Ip6V.one _) (Nat.le_refl _) (splice_all rfl) fun w10 H10 => Ip6V.of Ip6V.z ⟨H10.at 3 rfl, hR0 hjo w10 (out H10)⟩)
  | true =>
    refine Br.f rfl (Ip6V.of res ⟨H9.at 0 rfl, Stores.sep H9 3 rfl (Ip6V.one _) (Nat.le_refl _) (splice_all rfl) fun w10 H10 => Ip6V.of res ⟨H10.at 3 rfl, hR1 hjo w10 res (out H10) fun D hD => ?_⟩⟩)
    cases hD
    obtain ⟨es2, data', hd, hat⟩ := hback hjo
    have H10 : Sep (Fct.blk g5 30 res.cells :: (Fct.blk g4 30 (Ip6V.cells { h with exts := se }) :: Fct.blk g3 30 (Ip6V.with_ ⟨0, 0, 0, IPV.z, IPV.z, ⟨h.exts.A, h.exts.n, h.exts.k⟩, FragV.z, 0, ⟨none, 0, 0⟩⟩ se sd).cells :: ((Fct.blk g2 30 res.cells :: Fct.blk g1 30 h.cells :: Fct.rest w0 B :: tabFs T) ++ (extFs 0 se es' ++ [rowB 0 sd []])) ++ Δ)) w10 := H10
    exact ⟨es2, data', hat w10 (fun f hf => H10.mem (.tail _ (List.mem_append_right _ hf))) (extsAt_of (b := 0) (fun f hf => H10.mem (.tail _ (List.mem_append_left _ (.tail _ (.tail _ (List.mem_append_right _ (List.mem_append_left _ hf))))))) hef) (hA w10 (H10.restOf 5 rfl)).data, hd⟩
end
end N6
end Go.Proofs.YthhgbpmihhljdaaGreatDoor
/- Chapter 12: Offer6, joined. -/
namespace Go.Proofs.YthhgbpmihhljdaaGreatDoor
namespace N6
open Go Go.Eng Go.RowKit
theorem fresh_fit {most off : Int} {d : List Int} {more : Bool} (hr : refusedS (HolS.start most) off d.length more = 0) : (fitS (HolS.start most) off d more).same = false ∧ (fitS (HolS.start most) off d more).nw = d.length ∧ (fitS (HolS.start most) off d more).old = 0 := by
  obtain ⟨h1, h2, h3, h4, _⟩ := refused_ok hr
  have h4 : off + d.length ≤ most := h4
  have hn : newN off (off + d.length) [(0, most)] = off + d.length - off := newN_all (lo := 0) (hi := most) (by omega) ⟨Int.le_refl _, by show (0 : Int) < most; omega, Int.le_refl _, trivial⟩ fun p hp1 hp2 => ⟨(0, most), List.mem_singleton.2 rfl, by show (0 : Int) ≤ p; omega, by show p < most; omega⟩
  refine ⟨rfl, ?_, ?_⟩
  · show newN off (off + d.length) [(0, most)] = _
    omega
  · show (d.length : Int) - newN off (off + d.length) [(0, most)] = 0
    omega
section
variable {w w0 : World} {T : TabR} {t : Option Addr} {g1 g2 g6 : Nat} {id : Int} {B : Nat → Prop} {R : Ending → World → Prop}
set_option maxHeartbeats 4000000 in
theorem frag6_old {h : Ip6V} {es : List ExtR} {d : List Int} {j : Nat} {c : CtxR} (H6 : Sep (Fct.blk g6 75 (key6 h).cells :: Fct.blk g2 30 (Ip6V.z : Ip6V).cells :: Fct.blk g1 30 h.cells :: Fct.rest w0 B :: tabFs T) w)
    (hT : TabOk T) (hA : ∀ w', Mod B w0 w' → Ip6At w' h es d) (hK : ∀ w', Mod B w0 w' → Kn w') (hfew : es.length ≤ 1000) (hj : T.cs[j]? = some c) (hk : c.v.key = key6 h)
    (hR : ∀ T' n o e od w' (res : Ip6V), Out6 T h es d T' n o e od → Sep (Fct.rest w0 B :: tabFs T') w' → Back6 w' res od → R (.returned (.tuple #[res.val, .int .i64 n, .int .i64 o, .int .i64 e])) w') :
    reasm_Table_Offer6_J255 R (some ⟨T.g, 0, none⟩) g1 g2 h.frag.id g6 (some ⟨c.g, 0, none⟩) c.v.why w := by
  unfold reasm_Table_Offer6_J255
  have nob : ∀ {w : World} {res : Ip6V}, Back6 w res none := fun D h => by cases h
  have hS : ∀ w', Mod B w0 w' → BytesAt w' h.data d := fun w' hm => (hA w' hm).data
  have H6s : Sep (tabFs T) w := H6.sub (List.sublist_append_right [_, _, _, _] _)
  have hSl : ∀ w', Mod (Blocks (tabFs T)) w w' → BytesAt w' h.data d := fun w' hm => hS w' ((Sep.keep (Γ := [_, _, _, Fct.rest w0 B]) H6 hm).restOf 3 rfl)
  have turn : ∀ {Δ : List Fct} {w' : World}, Sep (Fct.rest w (Blocks (tabFs T)) :: Δ) w' → Sep (Fct.blk g6 75 (key6 h).cells :: Fct.blk g2 30 (Ip6V.z : Ip6V).cells :: Fct.blk g1 30 h.cells :: Fct.rest w0 B :: Δ) w' := fun H' => Sep.turn (Γ := [_, _, _, _]) H6 H'
  have hcT := List.mem_of_getElem? hj
  obtain ⟨hok, hl1, hl2, hb1, hb2⟩ := hT.ctx c hcT
  refine (ready_spec (tab_blk (Γ := [_, _, _, _, _, _]) H6 hcT)).mono ?_
  rintro _ _ ⟨rfl, rfl⟩
  refine ⟨_, rfl, Br.dec (fun hne => ?_) fun h0 => ?_⟩
  · exact Stores.sep H6 1 rfl (Ip6V.one _) (Nat.le_refl _) (splice_all rfl) fun w7 H7 => Ip6V.of Ip6V.z ⟨H7.at 1 rfl, hR T 0 0 _ none _ _ (.unready j c hj hk hne) H7.tail.tail.tail nob⟩
  have h0 : readyS c.v 125 c.v.why = 0 := Classical.byContradiction h0
  have hs2 : c.v.state ≠ 2 := by
    intro h2
    have : readyS c.v 125 c.v.why = c.v.why := by unfold readyS; rw [if_neg (by omega), if_pos h2]
    exact hok.why h2 (this ▸ h0)
  have hs1 : c.v.state ≠ 1 := by
    intro h1
    have : readyS c.v 125 c.v.why = 125 := by unfold readyS; rw [if_pos h1]
    rw [this] at h0
    cases h0
  have hf0 : c.v.frags ≠ 1024 := by
    intro h1
    have : readyS c.v 125 c.v.why = 124 := by unfold readyS; rw [if_neg hs1, if_neg hs2, if_pos h1]
    rw [this] at h0
    cases h0
  have hs0 : c.v.state = 0 := by have := hok.st; omega
  obtain ⟨r, hr, hro⟩ := hok.open_ hs0
  refine KeyV.of (key6 h) ⟨H6.at 0 rfl, _, (H6.blk 2 rfl).cell 41, h.data.A, h.data.n, h.data.k, (H6.blk 2 rfl).cell 43, _, (H6.blk 2 rfl).cell 39, ?_⟩
  refine (lay_old (S := h.data) (d := d) (off := h.frag.off) (more := h.frag.more) (most := 65495) H6s hT hj hk hr hro hSl).mono ?_
  rintro _ w7 ⟨r', hg, hout, H7⟩
  have H7 := (turn H7).tail
  rcases hout with ⟨hrf, hs', rfl⟩ | ⟨hrf, hs', hro', rfl⟩
  · have hcode : layErr (refusedS r.s h.frag.off d.length h.frag.more) ≠ 0 := by unfold layErr; split <;> omega
    refine onRet_at (LaidV.of ⟨some ⟨c.g, 0, none⟩, false, FitV.z, false⟩ ⟨_, rfl, NewVC.sep H7 fun g4 w8 H8 => Stores.sep H8.front 0 (cs' := (⟨some ⟨c.g, 0, none⟩, false, FitV.z, false⟩ : LaidV).cells) rfl (LaidV.one _) (Nat.le_refl _) (splice_all rfl) fun w9 H9 => ?_⟩)
    refine JoinVC.of (fun s w' => reasm_Table_Offer6_J2047 _ g1 g2 _ g4 s w') ?_ fun _ _ h => h
    exact Br.t (decide_eq_true hcode) (err2047 (p := ⟨some ⟨c.g, 0, none⟩, false, FitV.z, false⟩) H9 hcode fun w' H10 => hR _ 0 0 _ none _ _ (.refused j c r r' ⟨hj, hk, h0, hr, hro, hg⟩ hs' hrf) H10.tail nob)
  · obtain ⟨p, hp⟩ : ∃ p : LaidV, p = ⟨some ⟨c.g, 0, none⟩, false, fitS r.s h.frag.off d h.frag.more, endS r.s h.frag.off d h.frag.more⟩ := ⟨_, rfl⟩
    have p1 : p.c = some ⟨c.g, 0, none⟩ := by rw [hp]
    have p2 : p.fresh = false := by rw [hp]
    have p3 : p.fit = fitS r.s h.frag.off d h.frag.more := by rw [hp]
    refine onRet_at (LaidV.of p ⟨_, by rw [hp]; rfl, NewVC.sep H7 fun g4 w8 H8 => Stores.sep H8.front 0 (cs' := p.cells) rfl (LaidV.one _) (Nat.le_refl _) (splice_all rfl) fun w9 H9 => ?_⟩)
    have H9 : Sep (Fct.blk g4 86 p.cells :: Fct.blk g2 30 (Ip6V.z : Ip6V).cells :: Fct.blk g1 30 h.cells :: Fct.rest w0 B :: tabFs (T.upd j (layC c r'))) w9 := H9
    have hjl : (T.upd j (layC c r')).cs[j]? = some (layC c r') := upd_at hj
    refine JoinVC.of (fun s w' => reasm_Table_Offer6_J2047 _ g1 g2 _ g4 s w') ?_ fun _ _ h => h
    refine Br.f rfl ⟨_, (H9.blk 0 rfl).cell 4, ?_⟩
    rw [p3]
    cases hsame : (fitS r.s h.frag.off d h.frag.more).same with
    | true => exact Br.t rfl (err2047 H9 (by decide) fun w' H10 => hR _ 0 0 _ none _ _ (.same j c r r' ⟨hj, hk, h0, hr, hro, hg⟩ hrf hs' hro' hsame) H10.tail nob)
    | false =>
      refine Br.f rfl ⟨_, (H9.blk 0 rfl).cell 3, ?_⟩
      rw [p3]
      refine Br.dec (fun hold => ?_) fun hold => ?_
      · have H10 := open_fs (r := r') hjl rfl H9
        refine DrawVC.sep H10 (fun w' => Blk w' g4 86 p.cells ∧ Blk w' c.g 81 c.v.cells) fun w10 H10 => ⟨⟨H10.blk 0 rfl, H10.blk 4 rfl⟩, ?_⟩
        refine ⟨some ⟨c.g, 0, none⟩, fun w' hb => by rw [← p1]; exact hb.1.cell 0, some ⟨c.g, 0, none⟩, fun w' hb => by rw [← p1]; exact hb.1.cell 0, _, rfl, c.v.frags, fun w' hb => hb.2.cell 41, ?_⟩
        refine (spoil_spec (H10.blk 4 rfl)).mono ?_
        rintro _ w11 ⟨rfl, H11⟩
        have H11 := H10.call 4 rfl (fun k hk => hk) H11
        refine ⟨rfl, ?_⟩
        have H12 := shut_fs4 (T := T.upd j (layC c r')) (c1 := layC c r') (st := 2) (why := 122) (n := c.v.frags) hjl rfl rfl H11
        rw [upd_upd] at H12
        exact err2047 H12 (by decide) fun w' H13 => hR _ 0 0 122 none _ _ (.overlap j c r r' ⟨hj, hk, h0, hr, hro, hg⟩ hrf hsame hold) H13.tail nob
      · refine LaidV.of p ⟨H9.at 0 rfl, ?_⟩
        refine (hold_old (T := T.upd j (layC c r')) (p := p) (H9.sub (List.sublist_append_right [_, _, _, _] _)) hjl hok.frags p1 p2).mono ?_
        rintro _ w10 ⟨rfl, H10⟩
        have H10 := Sep.turn (Γ := [_, _, _, _]) H9 H10
        have e1 : (T.upd j (layC c r')).upd j { layC c r' with v := { (layC c r').v with frags := (layC c r').v.frags + 1 } } = T.upd j (holdC c r') := upd_upd _ _ _ _
        rw [e1] at H10
        have hjh : (T.upd j (holdC c r')).cs[j]? = some (holdC c r') := upd_at hj
        refine ⟨_, rfl, ?_⟩
        refine tail6 (p := p) (T := T.upd j (holdC c r')) (c := holdC c r') (r := r') (h := h) (es := es) (data := d) (Sep.perm H10 ?_) hjh (hok.hold hr hg hro' hf0) rfl hro' p1 hA (by have := hok.frags; show 1 ≤ c.v.frags + 1; omega) hfew hK fun T' n o e od w' res ht Hw hb => hR T' n o e od w' res (.held j c r r' T' n o e od ⟨hj, hk, h0, hr, hro, hg⟩ hrf hs' hro' hsame hold ht) Hw hb
        exact perm_cn fun c o h1 h2 h3 => by simp only [h1, h2, h3]; omega
set_option maxHeartbeats 4000000 in
theorem frag6_new {h : Ip6V} {es : List ExtR} {d : List Int} (H6 : Sep (Fct.blk g6 75 (key6 h).cells :: Fct.blk g2 30 (Ip6V.z : Ip6V).cells :: Fct.blk g1 30 h.cells :: Fct.rest w0 B :: tabFs T) w)
    (hT : TabOk T) (hb : T.begun ≤ 4611686018427387904) (hA : ∀ w', Mod B w0 w' → Ip6At w' h es d) (hK : ∀ w', Mod B w0 w' → Kn w') (hfew : es.length ≤ 1000) (hno : ∀ c ∈ T.cs, c.v.key ≠ key6 h)
    (hR : ∀ T' n o e od w' (res : Ip6V), Out6 T h es d T' n o e od → Sep (Fct.rest w0 B :: tabFs T') w' → Back6 w' res od → R (.returned (.tuple #[res.val, .int .i64 n, .int .i64 o, .int .i64 e])) w') :
    reasm_Table_Offer6_J255 R (some ⟨T.g, 0, none⟩) g1 g2 h.frag.id g6 none 126 w := by
  unfold reasm_Table_Offer6_J255
  have nob : ∀ {w : World} {res : Ip6V}, Back6 w res none := fun D h => by cases h
  have hS : ∀ w', Mod B w0 w' → BytesAt w' h.data d := fun w' hm => (hA w' hm).data
  have H6s : Sep (tabFs T) w := H6.sub (List.sublist_append_right [_, _, _, _] _)
  have hSl : ∀ w', Mod (Blocks (tabFs T)) w w' → BytesAt w' h.data d := fun w' hm => hS w' ((Sep.keep (Γ := [_, _, _, Fct.rest w0 B]) H6 hm).restOf 3 rfl)
  have turn : ∀ {Δ : List Fct} {w' : World}, Sep (Fct.rest w (Blocks (tabFs T)) :: Δ) w' → Sep (Fct.blk g6 75 (key6 h).cells :: Fct.blk g2 30 (Ip6V.z : Ip6V).cells :: Fct.blk g1 30 h.cells :: Fct.rest w0 B :: Δ) w' := fun H' => Sep.turn (Γ := [_, _, _, _]) H6 H'
  refine ready_none.mono ?_
  rintro _ _ ⟨rfl, rfl⟩
  refine ⟨_, rfl, Br.f rfl ?_⟩
  refine KeyV.of (key6 h) ⟨H6.at 0 rfl, _, (H6.blk 2 rfl).cell 41, h.data.A, h.data.n, h.data.k, (H6.blk 2 rfl).cell 43, _, (H6.blk 2 rfl).cell 39, ?_⟩
  refine (lay_new (S := h.data) (d := d) (off := h.frag.off) (more := h.frag.more) (most := 65495) H6s hno (by decide) (by decide) hSl).mono ?_
  rintro _ w7 ⟨r', g, hout, H7⟩
  have H7 := (turn H7).tail
  have dropC : ∀ {Δ Δ' : List Fct} {a : Fct} {w' : World}, Sep (a :: (Δ ++ Δ')) w' → Sep (a :: Δ) w' := fun H => H.sub (.cons_cons _ (List.sublist_append_left _ _))
  rcases hout with ⟨hrf, hs', rfl⟩ | ⟨hrf, hs', hro', rfl⟩
  · have hcode : layErr (refusedS (HolS.start 65495) h.frag.off d.length h.frag.more) ≠ 0 := by unfold layErr; split <;> omega
    refine onRet_at (LaidV.of ⟨some ⟨g, 0, none⟩, true, FitV.z, false⟩ ⟨_, rfl, NewVC.sep H7 fun g4 w8 H8 => Stores.sep H8.front 0 (cs' := (⟨some ⟨g, 0, none⟩, true, FitV.z, false⟩ : LaidV).cells) rfl (LaidV.one _) (Nat.le_refl _) (splice_all rfl) fun w9 H9 => ?_⟩)
    refine JoinVC.of (fun s w' => reasm_Table_Offer6_J2047 _ g1 g2 _ g4 s w') ?_ fun _ _ h => h
    exact Br.t (decide_eq_true hcode) (err2047 (p := ⟨some ⟨g, 0, none⟩, true, FitV.z, false⟩) H9 hcode fun w' H10 => hR _ 0 0 _ none _ _ (.nrefused hno hrf) (dropC H10.tail) nob)
  · obtain ⟨p, hp⟩ : ∃ p : LaidV, p = ⟨some ⟨g, 0, none⟩, true, fitS (HolS.start 65495) h.frag.off d h.frag.more, endS (HolS.start 65495) h.frag.off d h.frag.more⟩ := ⟨_, rfl⟩
    have p1 : p.c = some ⟨g, 0, none⟩ := by rw [hp]
    have p2 : p.fresh = true := by rw [hp]
    have p3 : p.fit = fitS (HolS.start 65495) h.frag.off d h.frag.more := by rw [hp]
    obtain ⟨f1, f2, f3⟩ := fresh_fit hrf
    refine onRet_at (LaidV.of p ⟨_, by rw [hp]; rfl, NewVC.sep H7 fun g4 w8 H8 => Stores.sep H8.front 0 (cs' := p.cells) rfl (LaidV.one _) (Nat.le_refl _) (splice_all rfl) fun w9 H9 => ?_⟩)
    have H9 : Sep (Fct.blk g4 86 p.cells :: Fct.blk g2 30 (Ip6V.z : Ip6V).cells :: Fct.blk g1 30 h.cells :: Fct.rest w0 B :: (tabFs T ++ ctxFs (newC g (key6 h) T.ticks r'))) w9 := H9
    refine JoinVC.of (fun s w' => reasm_Table_Offer6_J2047 _ g1 g2 _ g4 s w') ?_ fun _ _ h => h
    refine Br.f rfl ⟨_, (H9.blk 0 rfl).cell 4, ?_⟩
    rw [p3, f1]
    refine Br.f rfl ⟨_, (H9.blk 0 rfl).cell 3, ?_⟩
    rw [p3, f3]
    refine Br.f rfl (LaidV.of p ⟨H9.at 0 rfl, ?_⟩)
    refine (hold_new (T := T) (c := newC g (key6 h) T.ticks r') (p := p) (H9.sub (List.sublist_append_right [_, _, _, _] _)) hT hno hb (by show (0 : Int) ≤ 0 ∧ (0 : Int) ≤ 1024; omega) p1 p2).mono ?_
    rintro _ w10 (⟨hfull, rfl, H10⟩ | ⟨T1, hT1, rfl, H10⟩)
    · have H10 := Sep.turn (Γ := [_, _, _, _]) H9 H10
      refine ⟨_, rfl, err2047 H10 (by decide) fun w' H11 => hR T 0 0 120 none _ _ (.nfull hno hrf hfull) H11.tail nob⟩
    · have H10 := Sep.turn (Γ := [_, _, _, _]) H9 H10
      refine ⟨_, rfl, ?_⟩
      have hjn : (T1.join (newC g (key6 h) T.ticks r')).cs[T1.cs.length]? = some (joinC T1 (newC g (key6 h) T.ticks r')) := by
        show (T1.cs ++ [_])[T1.cs.length]? = _
        rw [List.getElem?_append_right (Nat.le_refl _)]
        simp [joinC]
      refine tail6 (p := p) (T := T1.join (newC g (key6 h) T.ticks r')) (c := joinC T1 (newC g (key6 h) T.ticks r')) (r := r') (h := h) (es := es) (data := d) (Sep.perm H10 ?_) hjn (CtxOk.fresh hro') rfl hro' p1 hA (by show (1 : Int) ≤ 0 + 1; omega) hfew hK fun T' n o e od w' res ht Hw hb => hR T' n o e od w' res (.nheld T1 g r' T' n o e od hno hrf hs' hro' hT1 ht) Hw hb
      exact perm_cn fun c o h1 h2 h3 => by simp only [h1, h2, h3]; omega
set_option maxHeartbeats 4000000 in
theorem offer6_spec {h : Ip6V} {es : List ExtR} {d : List Int} (H : Sep (tabFs T) w) (hT : TabOk T) (hb : T.begun ≤ 4611686018427387904) (hA : ∀ w', Mod (Blocks (tabFs T)) w w' → Ip6At w' h es d) (hK : ∀ w', Mod (Blocks (tabFs T)) w w' → Kn w') :
    Calls Tryz.prog 8 #[T.p, h.val] w fun e w' => ∃ (T' : TabR) (res : Ip6V) (n o er : Int) (od : Option Ip6D), e = .returned (.tuple #[res.val, .int .i64 n, .int .i64 o, .int .i64 er]) ∧ Out6 T h es d T' n o er od ∧
      Sep (Fct.rest w (Blocks (tabFs T)) :: tabFs T') w' ∧ Back6 w' res od ∧ (T' = T ∨ es.length ≤ 1000) := by
  refine reasm_Table_Offer6_of _ h w _ ?_
  unfold reasm_Table_Offer6_VC
  have nob : ∀ {w : World} {res : Ip6V}, Back6 w res none := fun D h => by cases h
  have H0 := H.begins
  generalize hB : Blocks (tabFs T) = B at H0 hA hK ⊢
  refine NewVC.sep H0 fun g1 w1 H1 => NewVC.sep H1.front fun g2 w2 H2 => ?_
  have H2 := H2.front
  refine Ip6V.of h ⟨H2.at 1 rfl, (check6_spec (hA w2 (H2.restOf 2 rfl)) (hK w2 (H2.restOf 2 rfl))).mono ?_⟩
  rintro _ w3 ⟨hE, rfl⟩
  have H3 := H2.ext hE
  refine ⟨_, rfl, Br.dec (fun hne => ?_) fun hz => ?_⟩
  · refine Stores.sep H3 0 rfl (Ip6V.one _) (Nat.le_refl _) (splice_all rfl) fun w4 H4 => Ip6V.of Ip6V.z ⟨H4.at 0 rfl, T, _, 0, 0, _, none, rfl, .bad hne, H4.tail.tail, nob, .inl rfl⟩
  have hz : (ser6S (h.d es d)).2 = 0 := Classical.byContradiction hz
  have hfew : es.length ≤ 1000 := by have := ser6_few hz; have e : (h.d es d).exts.length = es.length := List.length_map _; omega
  refine ⟨_, (H3.blk 1 rfl).cell 40, _, (H3.blk 1 rfl).cell 38, ?_⟩
  cases hhas : h.frag.has with
  | false =>
    refine Br.t rfl (Ip6V.of h ⟨H3.at 1 rfl, Stores.sep H3 0 rfl (Ip6V.one _) (Nat.le_refl _) (splice_all rfl) fun w4 H4 => Ip6V.of h ⟨H4.at 0 rfl, T, _, 0, 1, 0, _, rfl, .plain hz hhas, H4.tail.tail, fun D hD => ?_, .inl rfl⟩⟩)
    cases hD
    exact ⟨es, d, hA w4 (H4.restOf 2 rfl), rfl⟩
  | true =>
  refine Br.f rfl (JoinVC.of (fun s w' => w' = w3 ∧ s = decide (h.frag.off = 0 ∧ h.frag.more = false)) ?_ ?_)
  · refine ⟨_, (H3.blk 1 rfl).cell 41, Br.dec (fun h0 => ⟨_, (H3.blk 1 rfl).cell 39, rfl, ?_⟩) fun h0 => ⟨rfl, ?_⟩⟩
    · rw [Bool.eq_iff_iff]
      simp [h0]
    · rw [decide_eq_false fun h => h0 h.1]
  rintro _ _ ⟨rfl, rfl⟩
  by_cases hat : h.frag.off = 0 ∧ h.frag.more = false
  · rw [decide_eq_true hat]
    exact atom6 (T := T) H3 hA hK hfew (fun hjo w' H4 => ⟨T, _, 0, 0, 126, none, rfl, .atomBad hz hhas hat.1 hat.2 hjo, H4, nob, .inl rfl⟩) fun hjo w' res H4 hb6 => ⟨T, res, _, 1, 0, _, rfl, .atom hz hhas hat.1 hat.2 hjo, H4, hb6, .inl rfl⟩
  rw [decide_eq_false hat]
  unfold reasm_Table_Offer6_J243
  refine Br.f rfl (IPV.of h.src ⟨cells_pre (pre := h.cells.take 3) (post := h.cells.drop 20) (H3.blk 1 rfl), IPV.of h.dst ⟨cells_pre (pre := h.cells.take 20) (post := h.cells.drop 37) (H3.blk 1 rfl), ?_⟩⟩)
  refine NewVC.sep H3 fun g3 w4 H4 => Stores.sep H4.front 0 (cs' := (key6 h).cells) rfl (KeyV.one _) (Nat.le_refl _) (splice_all rfl) fun w5 H5 => ?_
  have H5 : Sep (Fct.blk g3 75 (key6 h).cells :: Fct.blk g2 30 (Ip6V.z : Ip6V).cells :: Fct.blk g1 30 h.cells :: Fct.rest w B :: tabFs T) w5 := H5
  refine DrawVC.sep H5 (fun w' => Blk w' T.g 71 T.cells ∧ MapAt w' T.m (kvs KeyV.val (T.cs.map ck)) ∧ CellsAt w' ⟨g3, 0, none⟩ 0 (key6 h).cells) fun w6 H6 => ⟨⟨H6.blk 4 rfl, H6.yes 5 _ rfl, H6.at 0 rfl⟩, ?_⟩
  refine ⟨_, rfl, _, fun w' hb => hb.1.cell 3, KeyV.of (key6 h) ⟨fun w' hb => hb.2.2, ?_⟩⟩
  rcases tab_find T (key6 h) with ⟨j, c, hj, hk⟩ | hno
  · refine ⟨some ⟨c.g, 0, none⟩, fun w' hb => tab_look hb.2.1 (look_some hT hj hk), ?_⟩
    refine JoinVC.of (fun s w' => w' = w6 ∧ s = c.v.why) ?_ ?_
    · exact Br.t rfl ⟨_, rfl, _, (tab_blk (Γ := [_, _, _, _, _, _]) H6 (List.mem_of_getElem? hj)).cell 39, rfl, rfl⟩
    · rintro _ _ ⟨rfl, rfl⟩
      exact frag6_old H6 hT hA hK hfew hj hk fun T' n o e od w' res ho Hw hb6 => ⟨T', res, n, o, e, od, rfl, ho, Hw, hb6, .inr hfew⟩
  · refine ⟨none, fun w' hb => tab_look hb.2.1 (look_none hno), ?_⟩
    refine JoinVC.of (fun s w' => w' = w6 ∧ s = 126) (Br.f rfl ⟨rfl, rfl⟩) ?_
    rintro _ _ ⟨rfl, rfl⟩
    exact frag6_new H6 hT hb hA hK hfew hno fun T' n o e od w' res ho Hw hb6 => ⟨T', res, n, o, e, od, rfl, ho, Hw, hb6, .inr hfew⟩
end
end N6
end Go.Proofs.YthhgbpmihhljdaaGreatDoor
/- Chapter 12: Tick, New. -/
namespace Go.Proofs.YthhgbpmihhljdaaGreatDoor
namespace N6
open Go Go.Eng Go.RowKit
/-- One tick of a context. -/
def dec (c : CtxR) : Option CtxR := if 0 < c.v.left - 1 then some { c with v := { c.v with left := c.v.left - 1 } } else none
section
variable {w : World} {Γ : List Fct} {T : TabR}
theorem erase_perm {α : Type} : ∀ {l : List α} {j : Nat} {x : α}, l[j]? = some x → l.Perm (x :: l.eraseIdx j)
  | [], j, x, h => by simp at h
  | y :: l, 0, x, h => by simp at h; subst h; exact .refl _
  | y :: l, j + 1, x, h => by
    have := erase_perm (l := l) (j := j) (x := x) (by simpa using h)
    rw [List.eraseIdx_cons_succ]
    exact (this.cons y).trans (.swap x y _)
theorem set_perm {α : Type} {l : List α} {j : Nat} {x y : α} (h : l[j]? = some x) : (l.set j y).Perm (y :: l.eraseIdx j) := by
  have h1 : (l.set j y)[j]? = some y := by rw [List.getElem?_set]; simp [(List.getElem?_eq_some_iff.1 h).1]
  have := erase_perm h1
  rwa [erase_set] at this
theorem set_keys {j : Nat} {c c' : CtxR} {l : List CtxR} (hk : l.Pairwise fun a b => a.v.key ≠ b.v.key) (hj : l[j]? = some c) (he : c'.v.key = c.v.key) : (l.set j c').Pairwise fun a b => a.v.key ≠ b.v.key := by
  have h1 := (erase_perm hj).pairwise_iff (R := fun a b : CtxR => a.v.key ≠ b.v.key) (fun h => h.symm)
  have h2 := (set_perm (y := c') hj).pairwise_iff (R := fun a b : CtxR => a.v.key ≠ b.v.key) (fun h => h.symm)
  rw [h2]
  rw [h1] at hk
  have h3 := List.pairwise_cons.1 hk
  exact List.pairwise_cons.2 ⟨fun x hx => by rw [he]; exact h3.1 x hx, h3.2⟩
theorem erase_keys {j : Nat} {l : List CtxR} (hk : l.Pairwise fun a b => a.v.key ≠ b.v.key) : (l.eraseIdx j).Pairwise fun a b => a.v.key ≠ b.v.key := hk.sublist (List.eraseIdx_sublist _ _)
/-- New. -/
theorem new_spec {max ticks : Int} (h1 : 1 ≤ max) (h2 : max ≤ 256) (h3 : 1 ≤ ticks) (h4 : ticks ≤ 1048576) : Calls Tryz.prog 7 #[.int .i64 max, .int .i64 ticks] w fun e w' => ∃ g m, e = .returned (.tuple #[(⟨g, m, max, ticks, 0, []⟩ : TabR).p, .int .i64 0]) ∧
    Sep (Fct.rest w None :: tabFs ⟨g, m, max, ticks, 0, []⟩) w' := by
  refine reasm_New_of max ticks w _ ?_
  unfold reasm_New_VC
  refine Br.no (by omega) (Br.no (by omega) (Br.no (by omega) (Br.no (by omega) (NewMapVC.sep (Sep.start0 w) fun g1 w1 H => NewVC.sep H fun g2 w2 H => ?_))))
  exact ⟨g2, g1, rfl, H.perm (.cons _ (.swap _ _ _))⟩
theorem new_ok {g m : Nat} {max ticks : Int} (h1 : 1 ≤ max) (h2 : max ≤ 256) (h3 : 1 ≤ ticks) (h4 : ticks ≤ 1048576) : TabOk ⟨g, m, max, ticks, 0, []⟩ where
  m1 := h1
  m2 := h2
  t1 := h3
  t2 := h4
  b1 := Int.le_refl _
  len := by show ((0 : Nat) : Int) ≤ max; omega
  ctx := fun c hc => by cases hc
  keys := List.Pairwise.nil
end
end N6
end Go.Proofs.YthhgbpmihhljdaaGreatDoor
/- Chapter 12: what a table keeps, whatever is offered; calls in any company. -/
namespace Go.Proofs.YthhgbpmihhljdaaGreatDoor
namespace N6
open Go Go.Eng Go.RowKit
structure R6 where
  v : Ip6V
  exts : List ExtR
  data : List Int
structure L6At (w : World) (s : Sl) (rs : List R6) : Prop where
  len : rs.length = s.n
  small : s.n ≤ 4000000
  recs : Recs w s.A 44 (rs.map fun r => r.v.cells)
  each : ∀ r ∈ rs, Ip6At w r.v r.exts r.data
/-- What an offer may do to a table: at most one context, of the key, is touched, or a new one joins. -/
inductive Step (T : TabR) (k : KeyV) : TabR → Prop
  | same : Step T k T
  | upd (j : Nat) (c c' : CtxR) : T.cs[j]? = some c → c.v.key = k → CtxOk c' → c'.v.key = c.v.key → c'.v.left = c.v.left → c'.v.began = c.v.began → Step T k (T.upd j c')
  | join (T1 : TabR) (c' : CtxR) : Roomed T T1 → (∀ c ∈ T.cs, c.v.key ≠ k) → CtxOk c' → c'.v.key = k → c'.v.left = T.ticks → c'.v.began = T1.begun → Step T k { T1 with begun := T1.begun + 1, cs := T1.cs ++ [c'] }
theorem Roomed.same {T T1 : TabR} (h : Roomed T T1) (hT : TabOk T) : T1.g = T.g ∧ T1.m = T.m ∧ T1.max = T.max ∧ T1.ticks = T.ticks ∧ T1.begun = T.begun ∧ (∀ c ∈ T1.cs, c ∈ T.cs) ∧ (T1.cs.length : Int) + 1 ≤ T.max ∧ T1.cs.Pairwise (fun a b => a.v.key ≠ b.v.key) ∧ ((T.cs.length : Int) < T.max → T1 = T) := by
  rcases h with ⟨h1, rfl⟩ | ⟨h1, j, x, hj, rfl⟩
  · exact ⟨rfl, rfl, rfl, rfl, rfl, fun _ h => h, by omega, hT.keys, fun _ => rfl⟩
  · have hlt := (List.getElem?_eq_some_iff.1 hj).1
    have hlen := hT.len
    refine ⟨rfl, rfl, rfl, rfl, rfl, fun c hc => List.mem_of_mem_eraseIdx hc, ?_, erase_keys hT.keys, fun h => absurd h h1⟩
    show ((T.cs.eraseIdx j).length : Int) + 1 ≤ T.max
    rw [List.length_eraseIdx_of_lt hlt]
    omega
theorem Step.ok {T T' : TabR} {k : KeyV} (h : Step T k T') (hT : TabOk T) : TabOk T' ∧ T'.g = T.g ∧ T'.m = T.m ∧ T'.max = T.max ∧ T'.ticks = T.ticks ∧ T.begun ≤ T'.begun ∧ T'.begun ≤ T.begun + 1 := by
  cases h with
  | same => exact ⟨hT, rfl, rfl, rfl, rfl, by omega, by omega⟩
  | upd j c c' hj hk hc h1 h2 h3 =>
    have hc0 := hT.ctx c (List.mem_of_getElem? hj)
    refine ⟨⟨hT.m1, hT.m2, hT.t1, hT.t2, hT.b1, ?_, fun x hx => ?_, set_keys hT.keys hj h1⟩, rfl, rfl, rfl, rfl, Int.le_refl _, ?_⟩
    · show ((T.cs.set j c').length : Int) ≤ T.max
      rw [List.length_set]; exact hT.len
    · rcases List.mem_or_eq_of_mem_set hx with hx | rfl
      · exact hT.ctx x hx
      · exact ⟨hc, by rw [h2]; exact hc0.2.1, by rw [h2]; exact hc0.2.2.1, by rw [h3]; exact hc0.2.2.2.1, by rw [h3]; exact hc0.2.2.2.2⟩
    · show T.begun ≤ T.begun + 1; omega
  | join T1 c' hR hno hc h1 h2 h3 =>
    obtain ⟨r1, r2, r3, r4, r5, r6, r7, r8, _⟩ := hR.same hT
    have ht := hT.t1
    have hb := hT.b1
    refine ⟨⟨by show 1 ≤ T1.max; rw [r3]; exact hT.m1, by show T1.max ≤ 256; rw [r3]; exact hT.m2, by show 1 ≤ T1.ticks; rw [r4]; exact hT.t1, by show T1.ticks ≤ 1048576; rw [r4]; exact hT.t2, by show 0 ≤ T1.begun + 1; omega, ?_, fun x hx => ?_, ?_⟩, r1, r2, r3, r4, by show T.begun ≤ T1.begun + 1; omega, by show T1.begun + 1 ≤ _; omega⟩
    · show ((T1.cs ++ [c']).length : Int) ≤ T1.max
      rw [List.length_append, List.length_singleton]; omega
    · show CtxOk x ∧ 1 ≤ x.v.left ∧ x.v.left ≤ T1.ticks ∧ 0 ≤ x.v.began ∧ x.v.began < T1.begun + 1
      rcases List.mem_append.1 hx with hx | hx
      · obtain ⟨q1, q2, q3, q4, q5⟩ := hT.ctx x (r6 x hx)
        exact ⟨q1, q2, by omega, q4, by omega⟩
      · rw [List.mem_singleton.1 hx]
        exact ⟨hc, by omega, by omega, by omega, by omega⟩
    · refine List.pairwise_append.2 ⟨r8, List.pairwise_singleton _ _, fun a ha b hb => ?_⟩
      rw [List.mem_singleton.1 hb, h1]
      exact hno a (r6 a ha)
theorem join_upd (T1 : TabR) (c c' : CtxR) : (T1.join c).upd T1.cs.length c' = { T1 with begun := T1.begun + 1, cs := T1.cs ++ [c'] } := by
  unfold TabR.upd TabR.join
  congr 1
  simp
theorem CtxOk.first4 {c c1 : CtxR} {h : Ip4V} {os : List OptR} {d : List Int} (hk : CtxOk c) (h1 : First4 h os d c c1) (hs : Bts h.src.bytes) (hd : Bts h.dst.bytes) : CtxOk c1 := by
  have hf := h1.fine hs hd hk.f4
  cases h1 with
  | yes so sd os' _ _ _ _ _ => exact ⟨hk.holes, hk.st, hk.open_, hk.frags, hf, hk.f6, hk.why⟩
  | no _ => exact hk
theorem CtxOk.first6 {c c1 : CtxR} {h : Ip6V} {es : List ExtR} {d : List Int} (hk : CtxOk c) (h1 : First6 h es d c c1) (hs : Bts h.src.bytes) (hd : Bts h.dst.bytes) (hn : es.length ≤ 1000) : CtxOk c1 := by
  have hf := h1.fine hs hd hn hk.f6
  cases h1 with
  | yes so sd os' _ _ _ _ _ => exact ⟨hk.holes, hk.st, hk.open_, hk.frags, hk.f4, hf, hk.why⟩
  | no _ => exact hk
/-- A held piece: the one context of its table that is touched. -/
theorem Tail4.at {T T' : TabR} {j : Nat} {c : CtxR} {r : HolR} {h : Ip4V} {os : List OptR} {d : List Int} {o e : Int} (ht : Tail4 T j c r h os d T' o e) (hk : CtxOk c) (hf : 1 ≤ c.v.frags) (hs : Bts h.src.bytes) (hd : Bts h.dst.bytes) :
    ∃ c', T' = T.upd j c' ∧ CtxOk c' ∧ c'.v.key = c.v.key ∧ c'.v.left = c.v.left ∧ c'.v.began = c.v.began := by
  have hfr := hk.frags
  cases ht with
  | part c1 h1 _ => obtain ⟨s1, s2, s3, s4, s5, s6, s7, s8, s9, _⟩ := h1.same; exact ⟨c1, rfl, hk.first4 h1 hs hd, s2, s8, s9⟩
  | spoil c1 h1 _ => obtain ⟨s1, s2, s3, s4, s5, s6, s7, s8, s9, _⟩ := h1.same; exact ⟨_, rfl, CtxOk.shut (.inr rfl) (fun _ => by decide) (by omega), s2, s8, s9⟩
  | whole c1 h1 _ => obtain ⟨s1, s2, s3, s4, s5, s6, s7, s8, s9, _⟩ := h1.same; exact ⟨_, rfl, CtxOk.shut (.inl rfl) (fun h => by cases h) (by omega), s2, s8, s9⟩
theorem Tail6'.at {T T' : TabR} {j : Nat} {c : CtxR} {r : HolR} {h : Ip6V} {es : List ExtR} {d : List Int} {id n o e : Int} {od : Option Ip6D} (ht : Tail6' T j c r h es d id T' n o e od) (hk : CtxOk c) (hf : 1 ≤ c.v.frags) (hs : Bts h.src.bytes) (hd : Bts h.dst.bytes) (hn : es.length ≤ 1000) :
    ∃ c', T' = T.upd j c' ∧ CtxOk c' ∧ c'.v.key = c.v.key ∧ c'.v.left = c.v.left ∧ c'.v.began = c.v.began := by
  have hfr := hk.frags
  cases ht with
  | part c1 h1 _ => obtain ⟨s1, s2, s3, s4, s5, s6, s7, s8, s9, _⟩ := h1.same; exact ⟨c1, rfl, hk.first6 h1 hs hd hn, s2, s8, s9⟩
  | spoil c1 h1 _ => obtain ⟨s1, s2, s3, s4, s5, s6, s7, s8, s9, _⟩ := h1.same; exact ⟨_, rfl, CtxOk.shut (.inr rfl) (fun _ => by decide) (by omega), s2, s8, s9⟩
  | whole c1 h1 _ => obtain ⟨s1, s2, s3, s4, s5, s6, s7, s8, s9, _⟩ := h1.same; exact ⟨_, rfl, CtxOk.shut (.inl rfl) (fun h => by cases h) (by omega), s2, s8, s9⟩
theorem Open.free {T : TabR} {k : KeyV} {done spoiled : Int} {j : Nat} {c : CtxR} {r r' : HolR} (hT : TabOk T) (h : Open T k done spoiled j c r r') (h1 : done ≠ 0) (h2 : c.v.state = 2 → spoiled ≠ 0) : CtxOk c ∧ c.v.state = 0 ∧ c.v.frags ≠ 1024 := by
  have hok := (hT.ctx c (List.mem_of_getElem? h.at_)).1
  refine ⟨hok, ?_⟩
  have hr := h.rdy
  have hst := hok.st
  unfold readyS at hr
  split at hr
  · exact absurd hr h1
  split at hr
  · rename_i hs; exact absurd hr (h2 hs)
  split at hr
  · cases hr
  · omega
theorem Out4.step {T T' : TabR} {h : Ip4V} {os : List OptR} {d : List Int} {o e : Int} (ho : Out4 T h os d T' o e) (hT : TabOk T) (hs : Bts h.src.bytes) (hd : Bts h.dst.bytes) : Step T (key4 h) T' := by
  cases ho with
  | bad _ => exact .same
  | whole _ _ _ => exact .same
  | unready j c _ _ _ => exact .same
  | refused j c r r' hop hs' _ => 
    have hok := (hop.free hT (by decide) fun _ => by decide).1
    exact .upd j c _ hop.at_ hop.key (hok.lay hop.hole hop.g (by rw [hs']; exact hop.ok)) rfl rfl rfl
  | dup j c r r' hop _ _ hro _ =>
    have hok := (hop.free hT (by decide) fun _ => by decide).1
    exact .upd j c _ hop.at_ hop.key (hok.lay hop.hole hop.g hro) rfl rfl rfl
  | held j c r r' T' o e hop _ _ hro _ ht =>
    obtain ⟨hok, _, hf0⟩ := hop.free hT (by decide) fun _ => by decide
    obtain ⟨c', rfl, q1, q2, q3, q4⟩ := ht.at (hok.hold hop.hole hop.g hro hf0) (by have := hok.frags; show 1 ≤ c.v.frags + 1; omega) hs hd
    rw [upd_upd]
    exact .upd j c c' hop.at_ hop.key q1 q2 q3 q4
  | nrefused _ _ => exact .same
  | ndup _ _ _ => exact .same
  | nfull _ _ _ _ => exact .same
  | nheld T1 g r' T' o e hno _ _ hro _ hR ht =>
    obtain ⟨c', rfl, q1, q2, q3, q4⟩ := ht.at (CtxOk.fresh hro) (by show (1 : Int) ≤ 0 + 1; omega) hs hd
    rw [join_upd]
    exact .join T1 c' hR hno q1 q2 q3 q4
theorem Out6.step {T T' : TabR} {h : Ip6V} {es : List ExtR} {d : List Int} {n o e : Int} {od : Option Ip6D} (ho : Out6 T h es d T' n o e od) (hT : TabOk T) (hs : Bts h.src.bytes) (hd : Bts h.dst.bytes) (hn : es.length ≤ 1000) : Step T (key6 h) T' := by
  have why : ∀ {j : Nat} {c : CtxR} {r r' : HolR}, Open T (key6 h) 125 c.v.why j c r r' → CtxOk c ∧ c.v.state = 0 ∧ c.v.frags ≠ 1024 := fun hop => hop.free hT (by decide) ((hT.ctx _ (List.mem_of_getElem? hop.at_)).1.why)
  cases ho with
  | bad _ => exact .same
  | plain _ _ => exact .same
  | atomBad _ _ _ _ _ => exact .same
  | atom _ _ _ _ _ => exact .same
  | unready j c _ _ _ => exact .same
  | refused j c r r' hop hs' _ => exact .upd j c _ hop.at_ hop.key ((why hop).1.lay hop.hole hop.g (by rw [hs']; exact hop.ok)) rfl rfl rfl
  | same j c r r' hop _ _ hro _ => exact .upd j c _ hop.at_ hop.key ((why hop).1.lay hop.hole hop.g hro) rfl rfl rfl
  | overlap j c r r' hop _ _ _ => exact .upd j c _ hop.at_ hop.key (CtxOk.shut (.inr rfl) (fun _ => by decide) (why hop).1.frags) rfl rfl rfl
  | held j c r r' T' n o e od hop _ _ hro _ _ ht =>
    obtain ⟨hok, _, hf0⟩ := why hop
    obtain ⟨c', rfl, q1, q2, q3, q4⟩ := ht.at (hok.hold hop.hole hop.g hro hf0) (by have := hok.frags; show 1 ≤ c.v.frags + 1; omega) hs hd hn
    rw [upd_upd]
    exact .upd j c c' hop.at_ hop.key q1 q2 q3 q4
  | nrefused _ _ => exact .same
  | nfull _ _ _ => exact .same
  | nheld T1 g r' T' n o e od hno _ _ hro hR ht =>
    obtain ⟨c', rfl, q1, q2, q3, q4⟩ := ht.at (CtxOk.fresh hro) (by show (1 : Int) ≤ 0 + 1; omega) hs hd hn
    rw [join_upd]
    exact .join T1 c' hR hno q1 q2 q3 q4
theorem Out6.weak {T T' : TabR} {h : Ip6V} {es : List ExtR} {d : List Int} {n o e : Int} {od : Option Ip6D} (ho : Out6 T h es d T' n o e od) (hn : T' = T ∨ es.length ≤ 1000) (hT : TabOk T) (hs : Bts h.src.bytes) (hd : Bts h.dst.bytes) : Step T (key6 h) T' := by
  rcases hn with rfl | hn
  · exact .same
  · exact ho.step hT hs hd hn
/-! ### Calls in any company -/
section
variable {w : World} {Γ : List Fct} {T : TabR}
theorem tab_part (H : Sep (Γ ++ tabFs T) w) : Sep (tabFs T) w := H.sub (List.sublist_append_right _ _)
theorem step6 {h : Ip6V} {es : List ExtR} {d : List Int} (H : Sep (Γ ++ tabFs T) w) (hT : TabOk T) (hb : T.begun ≤ 4611686018427387904) (hA : ∀ w', Sep Γ w' → Ip6At w' h es d) (hK : ∀ w', Sep Γ w' → Kn w') :
    Calls Tryz.prog 8 #[T.p, h.val] w fun e w' => ∃ (T' : TabR) (res : Ip6V) (n o er : Int) (od : Option Ip6D), e = .returned (.tuple #[res.val, .int .i64 n, .int .i64 o, .int .i64 er]) ∧ Out6 T h es d T' n o er od ∧ Sep (Γ ++ tabFs T') w' ∧ Back6 w' res od ∧ (T' = T ∨ es.length ≤ 1000) := by
  refine (offer6_spec (tab_part H) hT hb (fun w' hm => hA w' (H.keep hm)) fun w' hm => hK w' (H.keep hm)).mono ?_
  rintro _ w' ⟨T', res, n, o, er, od, rfl, ho, H', hb6⟩
  exact ⟨T', res, n, o, er, od, rfl, ho, Sep.turn H H', hb6⟩
theorem stepF (H : Sep (Γ ++ tabFs T) w) (hT : TabOk T) (hb : T.begun ≤ 4611686018427387904) : Calls Tryz.prog 12 #[T.p] w fun e w' => e = .returned (.int .i64 ((T.cs.filter (selS 1)).length : Int)) ∧ Sep (Γ ++ tabFs T) w' := by
  refine (finished_spec (tab_part H) hT hb).mono ?_
  rintro _ w' ⟨rfl, H'⟩
  exact ⟨rfl, Sep.turn H H'⟩
end
end N6
end Go.Proofs.YthhgbpmihhljdaaGreatDoor
