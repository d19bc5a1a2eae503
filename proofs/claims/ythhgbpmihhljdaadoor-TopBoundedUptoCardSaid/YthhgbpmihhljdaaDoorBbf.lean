/- Chapter 12: Offer6 behind a piece that was held. -/
import Derived.Test.YthhgbpmihhljdaaDoorBbe
namespace Go.Proofs.YthhgbpmihhljdaaDoor
namespace N6
open Go Go.Eng Go.RowKit
/-- The first fragment is noted. -/
inductive First6 (h : Ip6V) (es : List ExtR) (data : List Int) (c : CtxR) : CtxR → Prop
  | yes (se sd : Sl) (es' : List ExtR) : h.frag.off = 0 → c.v.first = false → es'.map ExtR.d = es.map ExtR.d → ExtsFine se es' → BFine sd data → First6 h es data c { c with v := { c.v with first := true, h6 := Ip6V.with_ h se sd }, es := es', d6 := data }
  | no : ¬ (h.frag.off = 0 ∧ c.v.first = false) → First6 h es data c c
/-- All the bytes. -/
def allB (r : HolR) : List Int := r.s.buf.take r.s.fin.toNat
/-- What comes of a piece that was held. -/
inductive Tail6' (T : TabR) (j : Nat) (c : CtxR) (r : HolR) (h : Ip6V) (es : List ExtR) (data : List Int) (id : Int) : TabR → Int → Int → Int → Option Ip6D → Prop
  | part (c1 : CtxR) : First6 h es data c c1 → ¬ (0 ≤ r.s.fin ∧ r.s.gaps = []) → Tail6' T j c r h es data id (T.upd j c1) 0 2 0 none
  | spoil (c1 : CtxR) : First6 h es data c c1 → 0 ≤ r.s.fin ∧ r.s.gaps = [] → joinOk (c1.v.h6.d c1.es c1.d6) (allB r) = false → Tail6' T j c r h es data id (T.upd j (c1.shut 2 126 (c1.v.frags - 1))) 0 0 126 none
  | whole (c1 : CtxR) : First6 h es data c c1 → 0 ≤ r.s.fin ∧ r.s.gaps = [] → joinOk (c1.v.h6.d c1.es c1.d6) (allB r) = true → Tail6' T j c r h es data id (T.upd j (c1.shut 1 c1.v.why 0)) id 1 0 (some (joinD (c1.v.h6.d c1.es c1.d6) (allB r)))
/-- A datagram that is handed back. -/
def Back6 (w : World) (res : Ip6V) (od : Option Ip6D) : Prop := ∀ D, od = some D → ∃ es' data', Ip6At w res es' data' ∧ res.d es' data' = D
section
variable {w w0 : World} {T : TabR} {j : Nat} {c : CtxR} {r : HolR} {a b d e : Fct} {B : Nat → Prop}
theorem First6.same {h : Ip6V} {es : List ExtR} {data : List Int} {c1 : CtxR} (h1 : First6 h es data c c1) : c1.hole = c.hole ∧ c1.v.key = c.v.key ∧ c1.g = c.g ∧ c1.v.holes = c.v.holes ∧ c1.v.frags = c.v.frags ∧ c1.v.state = c.v.state ∧ c1.v.why = c.v.why ∧ c1.v.left = c.v.left ∧ c1.v.began = c.v.began ∧ c1.v.h4 = c.v.h4 ∧ c1.os = c.os ∧ c1.d4 = c.d4 := by
  cases h1 <;> exact ⟨rfl, rfl, rfl, rfl, rfl, rfl, rfl, rfl, rfl, rfl, rfl, rfl⟩
theorem First6.fine {h : Ip6V} {es : List ExtR} {data : List Int} {c1 : CtxR} (h1 : First6 h es data c c1) (hs : Bts h.src.bytes) (hd : Bts h.dst.bytes) (hn : es.length ≤ 1000) (hf : Fine6 c.v.h6 c.es c.d6) : Fine6 c1.v.h6 c1.es c1.d6 := by
  cases h1 with
  | yes so sd es' _ _ h2 h3 h4 => exact ⟨h3, h4, hs, hd, by have := congrArg List.length h2; rw [List.length_map, List.length_map] at this; show es'.length ≤ 1000; omega⟩
  | no _ => exact hf
set_option maxHeartbeats 4000000 in
theorem tail6 {g1 g2 g4 : Nat} {p : LaidV} {id : Int} {h : Ip6V} {es : List ExtR} {data : List Int} {R : Ending → World → Prop}
    (H : Sep (Fct.blk g2 43 (Ip6V.z : Ip6V).cells :: Fct.blk g4 60 p.cells :: Fct.blk g1 43 h.cells :: Fct.rest w0 B :: tabFs T) w)
    (hj : T.cs[j]? = some c) (hk : CtxOk c) (hc : c.hole = some r) (hr : HolOk r.s) (hp : p.c = some ⟨c.g, 0, none⟩) (hA : ∀ w', Mod B w0 w' → Ip6At w' h es data) (hf : 1 ≤ c.v.frags)
    (hfew : es.length ≤ 1000) (hK : ∀ w', Mod B w0 w' → Kn w')
    (hR : ∀ T' n o e od w' (res : Ip6V), Tail6' T j c r h es data id T' n o e od → Sep (Fct.rest w0 B :: tabFs T') w' → Back6 w' res od → R (.returned (.tuple #[res.val, .int .i64 n, .int .i64 o, .int .i64 e])) w') :
    reasm_Table_Offer6_J2047 R g1 g2 id g4 0 w := by
  unfold reasm_Table_Offer6_J2047
  have hv : c.v.holes = some ⟨r.g, 0, none⟩ := by rw [hk.holes, hc]; rfl
  have H := open_fs hj hc H
  refine Br.f rfl ?_
  refine JoinVC.of (fun _ w' => ∃ c1, First6 h es data c c1 ∧ Sep (([Fct.blk g2 43 (Ip6V.z : Ip6V).cells, Fct.blk g4 60 p.cells, Fct.blk g1 43 h.cells, Fct.rest w0 B, ctxB c1.g c1.v] ++ (tabRest T j ++ (rows4 c1.v.h4 c1.os c1.d4 ++ rows6 c1.v.h6 c1.es c1.d6))) ++ holFs r) w') ?_ ?_
  · refine JoinVC.of (fun x w' => w' = w ∧ x = decide (h.frag.off = 0 ∧ c.v.first = false)) ?_ ?_
    · refine ⟨_, (H.blk 2 rfl).cell 41, Br.dec (fun h0 => ⟨some ⟨c.g, 0, none⟩, by rw [← hp]; exact (H.blk 1 rfl).cell 0, _, rfl, _, (H.blk 4 rfl).cell 42, rfl, ?_⟩) fun h0 => ⟨rfl, ?_⟩⟩
      · rw [Bool.eq_iff_iff]
        simp [h0]
      · rw [decide_eq_false fun h => h0 h.1]
    · rintro _ _ ⟨rfl, rfl⟩
      unfold reasm_Table_Offer6_J16382
      refine Br.dec (fun hy => ?_) fun hn => ⟨c, .no hn, H⟩
      refine DrawVC.sep H (fun w' => Blk w' g4 60 p.cells ∧ CellsAt w' ⟨g1, 0, none⟩ 0 h.cells) fun w1 H1 => ⟨⟨H1.blk 1 rfl, H1.at 2 rfl⟩, ?_⟩
      refine ⟨some ⟨c.g, 0, none⟩, fun w' hb => by rw [← hp]; exact hb.1.cell 0, some ⟨c.g, 0, none⟩, fun w' hb => by rw [← hp]; exact hb.1.cell 0, Ip6V.of h ⟨fun w' hb => hb.2, ?_⟩⟩
      refine (rclone6_spec (hA w1 (H1.restOf 3 rfl))).mono ?_
      rintro _ w2 ⟨so, sd, es', rfl, h1, h2, h3, H2⟩
      have H2 := H1.mades H2
      refine onRet_at (Ip6V.of (Ip6V.with_ h so sd) ⟨rfl, ⟨H2.blk 1 rfl, H2.at 2 rfl⟩, _, rfl, ?_⟩)
      refine SetVC.sep H2 4 (k := 42) rfl (show 42 < 130 by decide) fun w3 H3 => ⟨⟨H3.blk 1 rfl, H3.at 2 rfl⟩, _, rfl, ?_⟩
      refine Stores.sep (o := 86) H3 4 (cs' := CtxV.cells { c.v with first := true, h6 := Ip6V.with_ h so sd }) rfl (Ip6V.one _) (show 86 + 44 ≤ 130 by decide) rfl fun w4 H4 => ⟨_, .yes so sd es' hy.1 hy.2 h1 h2 h3, ?_⟩
      have H4 : Sep ((([Fct.blk g2 43 (Ip6V.z : Ip6V).cells, Fct.blk g4 60 p.cells, Fct.blk g1 43 h.cells, Fct.rest w0 B, ctxB c.g { c.v with first := true, h6 := Ip6V.with_ h so sd }] ++ (tabRest T j ++ (rows4 c.v.h4 c.os c.d4 ++ rows6 c.v.h6 c.es c.d6))) ++ holFs r) ++ rows6 (Ip6V.with_ h so sd) es' data) w4 := H4
      show Sep (([_, _, _, _, ctxB c.g { c.v with first := true, h6 := Ip6V.with_ h so sd }] ++ (tabRest T j ++ (rows4 c.v.h4 c.os c.d4 ++ rows6 (Ip6V.with_ h so sd) es' data))) ++ holFs r) w4
      generalize rows6 c.v.h6 c.es c.d6 = z1 at H4
      generalize rows6 (Ip6V.with_ h so sd) es' data = z2 at H4 ⊢
      exact Sep.sub (H4.perm (perm_cn fun c o h1 h2 h3 => by simp only [h1, h2, h3]; omega)) (List.sublist_append_left _ z1)
  rintro _ w1 ⟨c1, hc1, H1⟩
  obtain ⟨s1, s2, s3, s4, s5, _, _, _, _, _⟩ := hc1.same
  unfold reasm_Table_Offer6_J8191
  have hb := hk.frags
  refine ⟨some ⟨c.g, 0, none⟩, by rw [← hp]; exact (H1.blk 1 rfl).cell 0, _, rfl, some ⟨r.g, 0, none⟩, by rw [← hv, ← s4, ← s3]; exact (H1.blk 4 rfl).cell 40, ?_⟩
  refine (bytes_spec (H1.sub (List.sublist_append_right _ _)) hr).mono ?_
  rintro _ w2 (⟨hw1, hw2, s', rfl, hbf, H2⟩ | ⟨hn, rfl, hE⟩)
  · have H2 := H1.made H2
    refine ⟨s'.A, s'.n, s'.k, true, rfl, Br.f rfl ?_⟩
    refine ⟨some ⟨c.g, 0, none⟩, by rw [← hp]; exact (H2.blk 1 rfl).cell 0, _, rfl, Ip6V.of c1.v.h6 ⟨by rw [← s3]; exact ctx_h6 (H2.blk 4 rfl), ?_⟩⟩
    have hfi := hc1.fine (hA w0 (Mod.refl _ _)).src (hA w0 (Mod.refl _ _)).dst hfew hk.f6
    have exAt : ∀ {w' : World}, (∀ f ∈ extFs 0 c1.v.h6.exts c1.es, f.φ w') → ExtsAt w' c1.v.h6.exts c1.es := fun hf => extsAt_of (b := 0) hf hfi.exts
    have byAt : ∀ {w' : World}, (rowB 0 s' (allB r)).φ w' → BytesAt w' s' (allB r) := fun hf => bytesAt_of (b := 0) hf hbf
    refine (joined_spec (exAt fun f hf => H2.mem (List.mem_append_left _ (List.mem_append_left _ (List.mem_append_right _ (List.mem_append_right _ (List.mem_append_right _ (List.mem_append_left _ hf))))))) hfi.few hfi.src hfi.dst (byAt (H2.mem (List.mem_append_right _ (List.mem_singleton.2 rfl)))) (hK w2 (H2.restOf 3 rfl)) c1.d6).mono ?_
    rintro _ w3 ⟨Δ, res, Hj, rfl, hback⟩
    have H3 := H2.mades Hj
    refine onRet_at (Ip6V.of res ⟨_, rfl, NewVC.sep H3 fun g8 w4 H4 => Stores.sep H4.front 0 (cs' := res.cells) rfl (Ip6V.one _) (Nat.le_refl _) (splice_all rfl) fun w5 H5 => ?_⟩)
    cases hjo : joinOk (c1.v.h6.d c1.es c1.d6) (allB r) with
    | false =>
      have H8 := H5.tail
      refine Br.t rfl ?_
      refine DrawVC.sep H8 (fun w' => Blk w' g4 60 p.cells ∧ Blk w' c1.g 66 c1.v.cells) fun w9 H9 => ⟨⟨H9.blk 1 rfl, H9.blk 4 rfl⟩, ?_⟩
      refine ⟨some ⟨c.g, 0, none⟩, fun w' hb => by rw [← hp]; exact hb.1.cell 0, some ⟨c.g, 0, none⟩, fun w' hb => by rw [← hp]; exact hb.1.cell 0, _, rfl, c1.v.frags, fun w' hb => by rw [← s3]; exact hb.2.cell 41, ?_⟩
      rw [w64 (by omega) (by omega), ← s3]
      refine (spoil_spec (H9.blk 4 rfl)).mono ?_
      rintro _ w10 ⟨rfl, H10⟩
      have H10 := H9.call 4 rfl (fun k hk => hk) H10
      refine ⟨rfl, Stores.sep H10 0 rfl (Ip6V.one _) (Nat.le_refl _) (splice_all rfl) fun w11 H11 => Ip6V.of Ip6V.z ⟨H11.at 0 rfl, ?_⟩⟩
      have H12 : Sep (([Fct.blk g2 43 (Ip6V.z : Ip6V).cells, Fct.blk g4 60 p.cells, Fct.blk g1 43 h.cells, Fct.rest w0 B, ctxB c1.g (c1.shut 2 126 (c1.v.frags - 1)).v] ++ (tabRest T j ++ (rows4 c1.v.h4 c1.os c1.d4 ++ rows6 c1.v.h6 c1.es c1.d6))) ++ (holFs r ++ ([rowB 0 s' (r.s.buf.take r.s.fin.toNat)] ++ Δ))) w11 := by
        rw [← List.append_assoc, ← List.append_assoc]
        exact H11
      exact hR _ 0 0 126 none _ _ (.spoil c1 hc1 ⟨hw1, hw2⟩ hjo) (shut_fs hj s2 s3 H12) fun D h => by cases h
    | true =>
      refine Br.f rfl ⟨some ⟨c.g, 0, none⟩, by rw [← hp]; exact (H5.blk 2 rfl).cell 0, ?_⟩
      rw [← s3]
      refine (finish_spec (H5.blk 5 rfl)).mono ?_
      rintro _ w10 ⟨rfl, H10⟩
      have H10 := H5.call 5 rfl (fun k hk => hk) H10
      refine ⟨rfl, Ip6V.of res ⟨H10.at 0 rfl, ?_⟩⟩
      refine Stores.sep H10 1 rfl (Ip6V.one _) (Nat.le_refl _) (splice_all rfl) fun w11 H11 => Ip6V.of res ⟨H11.at 1 rfl, ?_⟩
      have H11 : Sep (((([Fct.blk g2 43 res.cells, Fct.blk g4 60 p.cells, Fct.blk g1 43 h.cells, Fct.rest w0 B, ctxB c1.g (c1.shut 1 c1.v.why 0).v] ++ (tabRest T j ++ (rows4 c1.v.h4 c1.os c1.d4 ++ rows6 c1.v.h6 c1.es c1.d6))) ++ holFs r) ++ [rowB 0 s' (r.s.buf.take r.s.fin.toNat)]) ++ Δ) w11 := H11.tail
      have hb6 : Back6 w11 res (some (joinD (c1.v.h6.d c1.es c1.d6) (allB r))) := fun D hD => by
        cases hD
        obtain ⟨es', data', hd, hat⟩ := hback hjo
        exact ⟨es', data', hat w11 (fun f hf => H11.mem (List.mem_append_right _ hf)) (exAt fun f hf => H11.mem (List.mem_append_left _ (List.mem_append_left _ (List.mem_append_left _ (List.mem_append_right _ (List.mem_append_right _ (List.mem_append_right _ (List.mem_append_left _ hf)))))))) (byAt (H11.mem (List.mem_append_left _ (List.mem_append_right _ (List.mem_singleton.2 rfl))))), hd⟩
      rw [List.append_assoc, List.append_assoc] at H11
      exact hR _ id 1 0 _ _ _ (.whole c1 hc1 ⟨hw1, hw2⟩ hjo) (shut_fs hj s2 s3 H11) hb6
  · have H2 := H1.ext hE
    refine ⟨none, 0, 0, false, rfl, Br.t rfl ?_⟩
    refine Stores.sep H2 0 rfl (Ip6V.one _) (Nat.le_refl _) (splice_all rfl) fun w11 H11 => Ip6V.of Ip6V.z ⟨H11.at 0 rfl, ?_⟩
    exact hR _ 0 2 0 none _ _ (.part c1 hc1 hn) (keep_fs hj (by rw [s1, hc]) s2 s3 H11) fun D h => by cases h
end
end N6
end Go.Proofs.YthhgbpmihhljdaaDoor
/- Chapter 12: Offer6. -/
namespace Go.Proofs.YthhgbpmihhljdaaDoor
namespace N6
open Go Go.Eng Go.RowKit
def key6 (h : Ip6V) : KeyV := ⟨h.src, h.dst, -1, h.frag.id⟩
/-- What Offer6 answers, and what the table is then. -/
inductive Out6 (T : TabR) (h : Ip6V) (es : List ExtR) (d : List Int) : TabR → Int → Int → Int → Option Ip6D → Prop
  | bad : (ser6S (h.d es d)).2 ≠ 0 → Out6 T h es d T 0 0 (ser6S (h.d es d)).2 none
  | plain : (ser6S (h.d es d)).2 = 0 → h.frag.has = false → Out6 T h es d T 0 1 0 (some (h.d es d))
  | atomBad : (ser6S (h.d es d)).2 = 0 → h.frag.has = true → h.frag.off = 0 → h.frag.more = false → joinOk (h.d es d) d = false → Out6 T h es d T 0 0 126 none
  | atom : (ser6S (h.d es d)).2 = 0 → h.frag.has = true → h.frag.off = 0 → h.frag.more = false → joinOk (h.d es d) d = true → Out6 T h es d T h.frag.id 1 0 (some (joinD (h.d es d) d))
  | unready (j : Nat) (c : CtxR) : T.cs[j]? = some c → c.v.key = key6 h → readyS c.v 125 c.v.why ≠ 0 → Out6 T h es d T 0 0 (readyS c.v 125 c.v.why) none
  | refused (j : Nat) (c : CtxR) (r r' : HolR) : Open T (key6 h) 125 c.v.why j c r r' → r'.s = r.s → refusedS r.s h.frag.off d.length h.frag.more ≠ 0 → Out6 T h es d (T.upd j (layC c r')) 0 0 (layErr (refusedS r.s h.frag.off d.length h.frag.more)) none
  | same (j : Nat) (c : CtxR) (r r' : HolR) : Open T (key6 h) 125 c.v.why j c r r' → refusedS r.s h.frag.off d.length h.frag.more = 0 → r'.s = putS r.s h.frag.off d h.frag.more → HolOk r'.s → (fitS r.s h.frag.off d h.frag.more).same = true → Out6 T h es d (T.upd j (layC c r')) 0 0 121 none
  | overlap (j : Nat) (c : CtxR) (r r' : HolR) : Open T (key6 h) 125 c.v.why j c r r' → refusedS r.s h.frag.off d.length h.frag.more = 0 → (fitS r.s h.frag.off d h.frag.more).same = false → 0 < (fitS r.s h.frag.off d h.frag.more).old →
      Out6 T h es d (T.upd j ((layC c r').shut 2 122 c.v.frags)) 0 0 122 none
  | held (j : Nat) (c : CtxR) (r r' : HolR) (T' : TabR) (n o e : Int) (od : Option Ip6D) : Open T (key6 h) 125 c.v.why j c r r' → refusedS r.s h.frag.off d.length h.frag.more = 0 → r'.s = putS r.s h.frag.off d h.frag.more → HolOk r'.s →
      (fitS r.s h.frag.off d h.frag.more).same = false → ¬ 0 < (fitS r.s h.frag.off d h.frag.more).old → Tail6' (T.upd j (holdC c r')) j (holdC c r') r' h es d h.frag.id T' n o e od → Out6 T h es d T' n o e od
  | nrefused : (∀ c ∈ T.cs, c.v.key ≠ key6 h) → refusedS (HolS.start 65495) h.frag.off d.length h.frag.more ≠ 0 → Out6 T h es d T 0 0 (layErr (refusedS (HolS.start 65495) h.frag.off d.length h.frag.more)) none
  | nfull : (∀ c ∈ T.cs, c.v.key ≠ key6 h) → refusedS (HolS.start 65495) h.frag.off d.length h.frag.more = 0 → ¬ (T.cs.length : Int) < T.max → Out6 T h es d T 0 0 120 none
  | nheld (T1 : TabR) (g : Nat) (r' : HolR) (T' : TabR) (n o e : Int) (od : Option Ip6D) : (∀ c ∈ T.cs, c.v.key ≠ key6 h) → refusedS (HolS.start 65495) h.frag.off d.length h.frag.more = 0 → r'.s = putS (HolS.start 65495) h.frag.off d h.frag.more → HolOk r'.s →
      Roomed T T1 → Tail6' (T1.join (newC g (key6 h) T.ticks r')) T1.cs.length (joinC T1 (newC g (key6 h) T.ticks r')) r' h es d h.frag.id T' n o e od → Out6 T h es d T' n o e od
section
variable {w w0 : World} {T : TabR} {j : Nat} {c : CtxR} {r : HolR} {a b d e : Fct} {Δ : List Fct} {R : Ending → World → Prop} {t : Option Addr} {g1 g2 g4 : Nat} {p : LaidV} {id : Int}
theorem shut_fs4 {Δ rows : List Fct} {st why n : Int} (hj : T.cs[j]? = some c) {c1 : CtxR} (hk : c1.v.key = c.v.key) (hg : c1.g = c.g)
    (H : Sep (([a, b, d, e, ctxB c1.g (c1.shut st why n).v] ++ (tabRest T j ++ rows)) ++ Δ) w) : Sep (a :: b :: d :: e :: tabFs (T.upd j (c1.shut st why n))) w := by
  refine Sep.perm ?_ (((((tab_unfocus (T := T) (c' := c1.shut st why n) hj hk hg).cons _).cons _).cons _).cons _)
  have e1 : ctxFs (c1.shut st why n) = ctxB c1.g (c1.shut st why n).v :: (rows4 Ip4V.z [] [] ++ rows6 Ip6V.z [] []) := rfl
  rw [e1]
  have H := Sep.nils H
  generalize rows4 Ip4V.z [] [] ++ rows6 Ip6V.z [] [] = z at H ⊢
  exact Sep.sub (H.perm (perm_cn fun c o h1 h2 h3 => by simp only [h1, h2, h3]; omega)) (List.sublist_append_left _ (rows ++ Δ))
theorem upd_upd (T : TabR) (j : Nat) (c c' : CtxR) : (T.upd j c).upd j c' = T.upd j c' := by
  unfold TabR.upd
  simp only [List.set_set]
theorem upd_at {T : TabR} {j : Nat} {c c' : CtxR} (hj : T.cs[j]? = some c) : (T.upd j c').cs[j]? = some c' := by
  show (T.cs.set j _)[j]? = _
  rw [List.getElem?_set]
  simp [(List.getElem?_eq_some_iff.1 hj).1]
theorem err2047 {code : Int} (H : Sep (Fct.blk g4 60 p.cells :: Fct.blk g2 43 (Ip6V.z : Ip6V).cells :: Δ) w) (hc : code ≠ 0) (hR : ∀ w', Sep Δ w' → R (.returned (.tuple #[(Ip6V.z : Ip6V).val, .int .i64 0, .int .i64 0, .int .i64 code])) w') :
    reasm_Table_Offer6_J2047 R g1 g2 id g4 code w := by
  unfold reasm_Table_Offer6_J2047
  refine Br.t (decide_eq_true hc) (Stores.sep H 1 rfl (Ip6V.one _) (Nat.le_refl _) (splice_all rfl) fun w1 H1 => Ip6V.of Ip6V.z ⟨H1.at 1 rfl, hR _ H1.tail.tail⟩)
/-- A datagram that is its own one fragment. -/
theorem atom6 {h : Ip6V} {es : List ExtR} {d : List Int} {B : Nat → Prop} (H : Sep (Fct.blk g2 43 (Ip6V.z : Ip6V).cells :: Fct.blk g1 43 h.cells :: Fct.rest w0 B :: tabFs T) w)
    (hA : ∀ w', Mod B w0 w' → Ip6At w' h es d) (hK : ∀ w', Mod B w0 w' → Kn w') (hfew : es.length ≤ 1000)
    (hR0 : joinOk (h.d es d) d = false → ∀ w', Sep (Fct.rest w0 B :: tabFs T) w' → R (.returned (.tuple #[(Ip6V.z : Ip6V).val, .int .i64 0, .int .i64 0, .int .i64 126])) w')
    (hR1 : joinOk (h.d es d) d = true → ∀ w' res, Sep (Fct.rest w0 B :: tabFs T) w' → Back6 w' res (some (joinD (h.d es d) d)) → R (.returned (.tuple #[res.val, .int .i64 id, .int .i64 1, .int .i64 0])) w') :
    reasm_Table_Offer6_J243 R t g1 g2 id true w := by
  unfold reasm_Table_Offer6_J243
  have hA0 := hA w (H.restOf 2 rfl)
  refine Br.t rfl ⟨h.exts.A, h.exts.n, h.exts.k, (H.blk 1 rfl).cell 37, ?_⟩
  refine (rclone6_spec (h := ⟨0, 0, 0, IPV.z, IPV.z, ⟨h.exts.A, h.exts.n, h.exts.k⟩, FragV.z, 0, ⟨none, 0, 0⟩⟩) (es := es) (data := []) ⟨hA0.exts, BytesAt.nil _ _ _, bts_z, bts_z⟩).mono ?_
  rintro _ w1 ⟨se, sd, es', rfl, hed, hef, hbf, H1⟩
  have H1 := H.mades H1
  have hl : es'.length = es.length := by have := congrArg List.length hed; rwa [List.length_map, List.length_map] at this
  refine onRet_at (Ip6V.of (Ip6V.with_ ⟨0, 0, 0, IPV.z, IPV.z, ⟨h.exts.A, h.exts.n, h.exts.k⟩, FragV.z, 0, ⟨none, 0, 0⟩⟩ se sd) ⟨rfl, NewVC.sep H1 fun g3 w2 H2 => Stores.sep H2.front 0 (cs' := (Ip6V.with_ ⟨0, 0, 0, IPV.z, IPV.z, ⟨h.exts.A, h.exts.n, h.exts.k⟩, FragV.z, 0, ⟨none, 0, 0⟩⟩ se sd).cells) rfl (Ip6V.one _) (Nat.le_refl _) (splice_all rfl) fun w3 H3 => ?_⟩)
  refine Ip6V.of h ⟨H3.at 2 rfl, NewVC.sep H3 fun g4 w4 H4 => Stores.sep H4.front 0 (cs' := h.cells) rfl (Ip6V.one _) (Nat.le_refl _) (splice_all rfl) fun w5 H5 => ?_⟩
  refine ⟨se.A, se.n, se.k, (H5.blk 1 rfl).cell 37, SetVC.sep H5 0 (k := 37) rfl (show 37 < 44 by decide) fun w6 H6 => ?_⟩
  have H6 : Sep (Fct.blk g4 43 (Ip6V.cells { h with exts := se }) :: Fct.blk g3 43 (Ip6V.with_ ⟨0, 0, 0, IPV.z, IPV.z, ⟨h.exts.A, h.exts.n, h.exts.k⟩, FragV.z, 0, ⟨none, 0, 0⟩⟩ se sd).cells :: ((Fct.blk g2 43 (Ip6V.z : Ip6V).cells :: Fct.blk g1 43 h.cells :: Fct.rest w0 B :: tabFs T) ++ (extFs 0 se es' ++ [rowB 0 sd []]))) w6 := H6
  have hA6 := hA w6 (H6.restOf 4 rfl)
  have e1 : ({ h with exts := se } : Ip6V).d es' d = h.d es d := by unfold Ip6V.d; rw [hed]
  refine Ip6V.of { h with exts := se } ⟨H6.at 0 rfl, h.data.A, h.data.n, h.data.k, (H6.blk 3 rfl).cell 43, ?_⟩
  refine (joined_spec (h := { h with exts := se }) (s := h.data) (l := d) (es := es') (extsAt_of (b := 0) (fun f hf => H6.mem (.tail _ (.tail _ (List.mem_append_right _ (List.mem_append_left _ hf))))) hef) (by omega) hA6.src hA6.dst hA6.data (hK w6 (H6.restOf 4 rfl)) d).mono ?_
  rintro _ w7 ⟨Δ, res, Hj, rfl, hback⟩
  rw [e1] at hback ⊢
  have H7 := H6.mades Hj
  refine onRet_at (Ip6V.of res ⟨_, rfl, NewVC.sep H7 fun g5 w8 H8 => Stores.sep H8.front 0 (cs' := res.cells) rfl (Ip6V.one _) (Nat.le_refl _) (splice_all rfl) fun w9 H9 => ?_⟩)
  have out : ∀ {a b c d e : Fct} {Y Z : List Fct} {w : World}, Sep (a :: (b :: c :: ((d :: e :: Fct.rest w0 B :: tabFs T) ++ Y) ++ Z)) w → Sep (Fct.rest w0 B :: tabFs T) w := fun H =>
    ((H.tail.sub (List.sublist_append_left _ _)).tail.tail.sub (List.sublist_append_left _ _)).tail.tail
  cases hjo : joinOk (h.d es d) d with
  | false => exact Br.t rfl (Stores.sep H9 3 rfl (Ip6V.one _) (Nat.le_refl _) (splice_all rfl) fun w10 H10 => Ip6V.of Ip6V.z ⟨H10.at 3 rfl, hR0 hjo w10 (out H10)⟩)
  | true =>
    refine Br.f rfl (Ip6V.of res ⟨H9.at 0 rfl, Stores.sep H9 3 rfl (Ip6V.one _) (Nat.le_refl _) (splice_all rfl) fun w10 H10 => Ip6V.of res ⟨H10.at 3 rfl, hR1 hjo w10 res (out H10) fun D hD => ?_⟩⟩)
    cases hD
    obtain ⟨es2, data', hd, hat⟩ := hback hjo
    have H10 : Sep (Fct.blk g5 43 res.cells :: (Fct.blk g4 43 (Ip6V.cells { h with exts := se }) :: Fct.blk g3 43 (Ip6V.with_ ⟨0, 0, 0, IPV.z, IPV.z, ⟨h.exts.A, h.exts.n, h.exts.k⟩, FragV.z, 0, ⟨none, 0, 0⟩⟩ se sd).cells :: ((Fct.blk g2 43 res.cells :: Fct.blk g1 43 h.cells :: Fct.rest w0 B :: tabFs T) ++ (extFs 0 se es' ++ [rowB 0 sd []])) ++ Δ)) w10 := H10
    exact ⟨es2, data', hat w10 (fun f hf => H10.mem (.tail _ (List.mem_append_right _ hf))) (extsAt_of (b := 0) (fun f hf => H10.mem (.tail _ (List.mem_append_left _ (.tail _ (.tail _ (List.mem_append_right _ (List.mem_append_left _ hf))))))) hef) (hA w10 (H10.restOf 5 rfl)).data, hd⟩
end
end N6
end Go.Proofs.YthhgbpmihhljdaaDoor
/- Chapter 12: Offer6, joined. -/
namespace Go.Proofs.YthhgbpmihhljdaaDoor
namespace N6
open Go Go.Eng Go.RowKit
theorem fresh_fit {most off : Int} {d : List Int} {more : Bool} (hr : refusedS (HolS.start most) off d.length more = 0) : (fitS (HolS.start most) off d more).same = false ∧ (fitS (HolS.start most) off d more).nw = d.length ∧ (fitS (HolS.start most) off d more).old = 0 := by
  obtain ⟨h1, h2, h3, h4, _⟩ := refused_ok hr
  have h4 : off + d.length ≤ most := h4
  have hn : newN off (off + d.length) [(0, most)] = off + d.length - off := newN_all (lo := 0) (hi := most) (by omega) ⟨Int.le_refl _, by show (0 : Int) < most; omega, Int.le_refl _, trivial⟩ fun p hp1 hp2 => ⟨(0, most), List.mem_singleton.2 rfl, by show (0 : Int) ≤ p; omega, by show p < most; omega⟩
  refine ⟨rfl, ?_, ?_⟩
  · show newN off (off + d.length) [(0, most)] = _
    omega
  · show (d.length : Int) - newN off (off + d.length) [(0, most)] = 0
    omega
section
variable {w w0 : World} {T : TabR} {t : Option Addr} {g1 g2 g6 : Nat} {id : Int} {B : Nat → Prop} {R : Ending → World → Prop}
set_option maxHeartbeats 4000000 in
theorem frag6_old {h : Ip6V} {es : List ExtR} {d : List Int} {j : Nat} {c : CtxR} (H6 : Sep (Fct.blk g6 54 (key6 h).cells :: Fct.blk g2 43 (Ip6V.z : Ip6V).cells :: Fct.blk g1 43 h.cells :: Fct.rest w0 B :: tabFs T) w)
    (hT : TabOk T) (hA : ∀ w', Mod B w0 w' → Ip6At w' h es d) (hK : ∀ w', Mod B w0 w' → Kn w') (hfew : es.length ≤ 1000) (hj : T.cs[j]? = some c) (hk : c.v.key = key6 h)
    (hR : ∀ T' n o e od w' (res : Ip6V), Out6 T h es d T' n o e od → Sep (Fct.rest w0 B :: tabFs T') w' → Back6 w' res od → R (.returned (.tuple #[res.val, .int .i64 n, .int .i64 o, .int .i64 e])) w') :
    reasm_Table_Offer6_J255 R (some ⟨T.g, 0, none⟩) g1 g2 h.frag.id g6 (some ⟨c.g, 0, none⟩) c.v.why w := by
  unfold reasm_Table_Offer6_J255
  have nob : ∀ {w : World} {res : Ip6V}, Back6 w res none := fun D h => by cases h
  have hS : ∀ w', Mod B w0 w' → BytesAt w' h.data d := fun w' hm => (hA w' hm).data
  have H6s : Sep (tabFs T) w := H6.sub (List.sublist_append_right [_, _, _, _] _)
  have hSl : ∀ w', Mod (Blocks (tabFs T)) w w' → BytesAt w' h.data d := fun w' hm => hS w' ((Sep.keep (Γ := [_, _, _, Fct.rest w0 B]) H6 hm).restOf 3 rfl)
  have turn : ∀ {Δ : List Fct} {w' : World}, Sep (Fct.rest w (Blocks (tabFs T)) :: Δ) w' → Sep (Fct.blk g6 54 (key6 h).cells :: Fct.blk g2 43 (Ip6V.z : Ip6V).cells :: Fct.blk g1 43 h.cells :: Fct.rest w0 B :: Δ) w' := fun H' => Sep.turn (Γ := [_, _, _, _]) H6 H'
  have hcT := List.mem_of_getElem? hj
  obtain ⟨hok, hl1, hl2, hb1, hb2⟩ := hT.ctx c hcT
  refine (ready_spec (tab_blk (Γ := [_, _, _, _, _, _]) H6 hcT)).mono ?_
  rintro _ _ ⟨rfl, rfl⟩
  refine ⟨_, rfl, Br.dec (fun hne => ?_) fun h0 => ?_⟩
  · exact Stores.sep H6 1 rfl (Ip6V.one _) (Nat.le_refl _) (splice_all rfl) fun w7 H7 => Ip6V.of Ip6V.z ⟨H7.at 1 rfl, hR T 0 0 _ none _ _ (.unready j c hj hk hne) H7.tail.tail.tail nob⟩
  have h0 : readyS c.v 125 c.v.why = 0 := Classical.byContradiction h0
  have hs2 : c.v.state ≠ 2 := by
    intro h2
    have : readyS c.v 125 c.v.why = c.v.why := by unfold readyS; rw [if_neg (by omega), if_pos h2]
    exact hok.why h2 (this ▸ h0)
  have hs1 : c.v.state ≠ 1 := by
    intro h1
    have : readyS c.v 125 c.v.why = 125 := by unfold readyS; rw [if_pos h1]
    rw [this] at h0
    cases h0
  have hf0 : c.v.frags ≠ 1024 := by
    intro h1
    have : readyS c.v 125 c.v.why = 124 := by unfold readyS; rw [if_neg hs1, if_neg hs2, if_pos h1]
    rw [this] at h0
    cases h0
  have hs0 : c.v.state = 0 := by have := hok.st; omega
  obtain ⟨r, hr, hro⟩ := hok.open_ hs0
  refine KeyV.of (key6 h) ⟨H6.at 0 rfl, _, (H6.blk 2 rfl).cell 41, h.data.A, h.data.n, h.data.k, (H6.blk 2 rfl).cell 43, _, (H6.blk 2 rfl).cell 39, ?_⟩
  refine (lay_old (S := h.data) (d := d) (off := h.frag.off) (more := h.frag.more) (most := 65495) H6s hT hj hk hr hro hSl).mono ?_
  rintro _ w7 ⟨r', hg, hout, H7⟩
  have H7 := (turn H7).tail
  rcases hout with ⟨hrf, hs', rfl⟩ | ⟨hrf, hs', hro', rfl⟩
  · have hcode : layErr (refusedS r.s h.frag.off d.length h.frag.more) ≠ 0 := by unfold layErr; split <;> omega
    refine onRet_at (LaidV.of ⟨some ⟨c.g, 0, none⟩, false, FitV.z, false⟩ ⟨_, rfl, NewVC.sep H7 fun g4 w8 H8 => Stores.sep H8.front 0 (cs' := (⟨some ⟨c.g, 0, none⟩, false, FitV.z, false⟩ : LaidV).cells) rfl (LaidV.one _) (Nat.le_refl _) (splice_all rfl) fun w9 H9 => ?_⟩)
    refine JoinVC.of (fun s w' => reasm_Table_Offer6_J2047 _ g1 g2 _ g4 s w') ?_ fun _ _ h => h
    exact Br.t (decide_eq_true hcode) (err2047 (p := ⟨some ⟨c.g, 0, none⟩, false, FitV.z, false⟩) H9 hcode fun w' H10 => hR _ 0 0 _ none _ _ (.refused j c r r' ⟨hj, hk, h0, hr, hro, hg⟩ hs' hrf) H10.tail nob)
  · obtain ⟨p, hp⟩ : ∃ p : LaidV, p = ⟨some ⟨c.g, 0, none⟩, false, fitS r.s h.frag.off d h.frag.more, endS r.s h.frag.off d h.frag.more⟩ := ⟨_, rfl⟩
    have p1 : p.c = some ⟨c.g, 0, none⟩ := by rw [hp]
    have p2 : p.fresh = false := by rw [hp]
    have p3 : p.fit = fitS r.s h.frag.off d h.frag.more := by rw [hp]
    refine onRet_at (LaidV.of p ⟨_, by rw [hp]; rfl, NewVC.sep H7 fun g4 w8 H8 => Stores.sep H8.front 0 (cs' := p.cells) rfl (LaidV.one _) (Nat.le_refl _) (splice_all rfl) fun w9 H9 => ?_⟩)
    have H9 : Sep (Fct.blk g4 60 p.cells :: Fct.blk g2 43 (Ip6V.z : Ip6V).cells :: Fct.blk g1 43 h.cells :: Fct.rest w0 B :: tabFs (T.upd j (layC c r'))) w9 := H9
    have hjl : (T.upd j (layC c r')).cs[j]? = some (layC c r') := upd_at hj
    refine JoinVC.of (fun s w' => reasm_Table_Offer6_J2047 _ g1 g2 _ g4 s w') ?_ fun _ _ h => h
    refine Br.f rfl ⟨_, (H9.blk 0 rfl).cell 4, ?_⟩
    rw [p3]
    cases hsame : (fitS r.s h.frag.off d h.frag.more).same with
    | true => exact Br.t rfl (err2047 H9 (by decide) fun w' H10 => hR _ 0 0 _ none _ _ (.same j c r r' ⟨hj, hk, h0, hr, hro, hg⟩ hrf hs' hro' hsame) H10.tail nob)
    | false =>
      refine Br.f rfl ⟨_, (H9.blk 0 rfl).cell 3, ?_⟩
      rw [p3]
      refine Br.dec (fun hold => ?_) fun hold => ?_
      · have H10 := open_fs (r := r') hjl rfl H9
        refine DrawVC.sep H10 (fun w' => Blk w' g4 60 p.cells ∧ Blk w' c.g 66 c.v.cells) fun w10 H10 => ⟨⟨H10.blk 0 rfl, H10.blk 4 rfl⟩, ?_⟩
        refine ⟨some ⟨c.g, 0, none⟩, fun w' hb => by rw [← p1]; exact hb.1.cell 0, some ⟨c.g, 0, none⟩, fun w' hb => by rw [← p1]; exact hb.1.cell 0, _, rfl, c.v.frags, fun w' hb => hb.2.cell 41, ?_⟩
        refine (spoil_spec (H10.blk 4 rfl)).mono ?_
        rintro _ w11 ⟨rfl, H11⟩
        have H11 := H10.call 4 rfl (fun k hk => hk) H11
        refine ⟨rfl, ?_⟩
        have H12 := shut_fs4 (T := T.upd j (layC c r')) (c1 := layC c r') (st := 2) (why := 122) (n := c.v.frags) hjl rfl rfl H11
        rw [upd_upd] at H12
        exact err2047 H12 (by decide) fun w' H13 => hR _ 0 0 122 none _ _ (.overlap j c r r' ⟨hj, hk, h0, hr, hro, hg⟩ hrf hsame hold) H13.tail nob
      · refine LaidV.of p ⟨H9.at 0 rfl, ?_⟩
        refine (hold_old (T := T.upd j (layC c r')) (p := p) (H9.sub (List.sublist_append_right [_, _, _, _] _)) hjl hok.frags p1 p2).mono ?_
        rintro _ w10 ⟨rfl, H10⟩
        have H10 := Sep.turn (Γ := [_, _, _, _]) H9 H10
        have e1 : (T.upd j (layC c r')).upd j { layC c r' with v := { (layC c r').v with frags := (layC c r').v.frags + 1 } } = T.upd j (holdC c r') := upd_upd _ _ _ _
        rw [e1] at H10
        have hjh : (T.upd j (holdC c r')).cs[j]? = some (holdC c r') := upd_at hj
        refine ⟨_, rfl, ?_⟩
        refine tail6 (p := p) (T := T.upd j (holdC c r')) (c := holdC c r') (r := r') (h := h) (es := es) (data := d) (Sep.perm H10 ?_) hjh (hok.hold hr hg hro' hf0) rfl hro' p1 hA (by have := hok.frags; show 1 ≤ c.v.frags + 1; omega) hfew hK fun T' n o e od w' res ht Hw hb => hR T' n o e od w' res (.held j c r r' T' n o e od ⟨hj, hk, h0, hr, hro, hg⟩ hrf hs' hro' hsame hold ht) Hw hb
        exact perm_cn fun c o h1 h2 h3 => by simp only [h1, h2, h3]; omega
set_option maxHeartbeats 4000000 in
theorem frag6_new {h : Ip6V} {es : List ExtR} {d : List Int} (H6 : Sep (Fct.blk g6 54 (key6 h).cells :: Fct.blk g2 43 (Ip6V.z : Ip6V).cells :: Fct.blk g1 43 h.cells :: Fct.rest w0 B :: tabFs T) w)
    (hT : TabOk T) (hb : T.begun ≤ 4611686018427387904) (hA : ∀ w', Mod B w0 w' → Ip6At w' h es d) (hK : ∀ w', Mod B w0 w' → Kn w') (hfew : es.length ≤ 1000) (hno : ∀ c ∈ T.cs, c.v.key ≠ key6 h)
    (hR : ∀ T' n o e od w' (res : Ip6V), Out6 T h es d T' n o e od → Sep (Fct.rest w0 B :: tabFs T') w' → Back6 w' res od → R (.returned (.tuple #[res.val, .int .i64 n, .int .i64 o, .int .i64 e])) w') :
    reasm_Table_Offer6_J255 R (some ⟨T.g, 0, none⟩) g1 g2 h.frag.id g6 none 126 w := by
  unfold reasm_Table_Offer6_J255
  have nob : ∀ {w : World} {res : Ip6V}, Back6 w res none := fun D h => by cases h
  have hS : ∀ w', Mod B w0 w' → BytesAt w' h.data d := fun w' hm => (hA w' hm).data
  have H6s : Sep (tabFs T) w := H6.sub (List.sublist_append_right [_, _, _, _] _)
  have hSl : ∀ w', Mod (Blocks (tabFs T)) w w' → BytesAt w' h.data d := fun w' hm => hS w' ((Sep.keep (Γ := [_, _, _, Fct.rest w0 B]) H6 hm).restOf 3 rfl)
  have turn : ∀ {Δ : List Fct} {w' : World}, Sep (Fct.rest w (Blocks (tabFs T)) :: Δ) w' → Sep (Fct.blk g6 54 (key6 h).cells :: Fct.blk g2 43 (Ip6V.z : Ip6V).cells :: Fct.blk g1 43 h.cells :: Fct.rest w0 B :: Δ) w' := fun H' => Sep.turn (Γ := [_, _, _, _]) H6 H'
  refine ready_none.mono ?_
  rintro _ _ ⟨rfl, rfl⟩
  refine ⟨_, rfl, Br.f rfl ?_⟩
  refine KeyV.of (key6 h) ⟨H6.at 0 rfl, _, (H6.blk 2 rfl).cell 41, h.data.A, h.data.n, h.data.k, (H6.blk 2 rfl).cell 43, _, (H6.blk 2 rfl).cell 39, ?_⟩
  refine (lay_new (S := h.data) (d := d) (off := h.frag.off) (more := h.frag.more) (most := 65495) H6s hno (by decide) (by decide) hSl).mono ?_
  rintro _ w7 ⟨r', g, hout, H7⟩
  have H7 := (turn H7).tail
  have dropC : ∀ {Δ Δ' : List Fct} {a : Fct} {w' : World}, Sep (a :: (Δ ++ Δ')) w' → Sep (a :: Δ) w' := fun H => H.sub (.cons_cons _ (List.sublist_append_left _ _))
  rcases hout with ⟨hrf, hs', rfl⟩ | ⟨hrf, hs', hro', rfl⟩
  · have hcode : layErr (refusedS (HolS.start 65495) h.frag.off d.length h.frag.more) ≠ 0 := by unfold layErr; split <;> omega
    refine onRet_at (LaidV.of ⟨some ⟨g, 0, none⟩, true, FitV.z, false⟩ ⟨_, rfl, NewVC.sep H7 fun g4 w8 H8 => Stores.sep H8.front 0 (cs' := (⟨some ⟨g, 0, none⟩, true, FitV.z, false⟩ : LaidV).cells) rfl (LaidV.one _) (Nat.le_refl _) (splice_all rfl) fun w9 H9 => ?_⟩)
    refine JoinVC.of (fun s w' => reasm_Table_Offer6_J2047 _ g1 g2 _ g4 s w') ?_ fun _ _ h => h
    exact Br.t (decide_eq_true hcode) (err2047 (p := ⟨some ⟨g, 0, none⟩, true, FitV.z, false⟩) H9 hcode fun w' H10 => hR _ 0 0 _ none _ _ (.nrefused hno hrf) (dropC H10.tail) nob)
  · obtain ⟨p, hp⟩ : ∃ p : LaidV, p = ⟨some ⟨g, 0, none⟩, true, fitS (HolS.start 65495) h.frag.off d h.frag.more, endS (HolS.start 65495) h.frag.off d h.frag.more⟩ := ⟨_, rfl⟩
    have p1 : p.c = some ⟨g, 0, none⟩ := by rw [hp]
    have p2 : p.fresh = true := by rw [hp]
    have p3 : p.fit = fitS (HolS.start 65495) h.frag.off d h.frag.more := by rw [hp]
    obtain ⟨f1, f2, f3⟩ := fresh_fit hrf
    refine onRet_at (LaidV.of p ⟨_, by rw [hp]; rfl, NewVC.sep H7 fun g4 w8 H8 => Stores.sep H8.front 0 (cs' := p.cells) rfl (LaidV.one _) (Nat.le_refl _) (splice_all rfl) fun w9 H9 => ?_⟩)
    have H9 : Sep (Fct.blk g4 60 p.cells :: Fct.blk g2 43 (Ip6V.z : Ip6V).cells :: Fct.blk g1 43 h.cells :: Fct.rest w0 B :: (tabFs T ++ ctxFs (newC g (key6 h) T.ticks r'))) w9 := H9
    refine JoinVC.of (fun s w' => reasm_Table_Offer6_J2047 _ g1 g2 _ g4 s w') ?_ fun _ _ h => h
    refine Br.f rfl ⟨_, (H9.blk 0 rfl).cell 4, ?_⟩
    rw [p3, f1]
    refine Br.f rfl ⟨_, (H9.blk 0 rfl).cell 3, ?_⟩
    rw [p3, f3]
    refine Br.f rfl (LaidV.of p ⟨H9.at 0 rfl, ?_⟩)
    refine (hold_new (T := T) (c := newC g (key6 h) T.ticks r') (p := p) (H9.sub (List.sublist_append_right [_, _, _, _] _)) hT hno hb (by show (0 : Int) ≤ 0 ∧ (0 : Int) ≤ 1024; omega) p1 p2).mono ?_
    rintro _ w10 (⟨hfull, rfl, H10⟩ | ⟨T1, hT1, rfl, H10⟩)
    · have H10 := Sep.turn (Γ := [_, _, _, _]) H9 H10
      refine ⟨_, rfl, err2047 H10 (by decide) fun w' H11 => hR T 0 0 120 none _ _ (.nfull hno hrf hfull) H11.tail nob⟩
    · have H10 := Sep.turn (Γ := [_, _, _, _]) H9 H10
      refine ⟨_, rfl, ?_⟩
      have hjn : (T1.join (newC g (key6 h) T.ticks r')).cs[T1.cs.length]? = some (joinC T1 (newC g (key6 h) T.ticks r')) := by
        show (T1.cs ++ [_])[T1.cs.length]? = _
        rw [List.getElem?_append_right (Nat.le_refl _)]
        simp [joinC]
      refine tail6 (p := p) (T := T1.join (newC g (key6 h) T.ticks r')) (c := joinC T1 (newC g (key6 h) T.ticks r')) (r := r') (h := h) (es := es) (data := d) (Sep.perm H10 ?_) hjn (CtxOk.fresh hro') rfl hro' p1 hA (by show (1 : Int) ≤ 0 + 1; omega) hfew hK fun T' n o e od w' res ht Hw hb => hR T' n o e od w' res (.nheld T1 g r' T' n o e od hno hrf hs' hro' hT1 ht) Hw hb
      exact perm_cn fun c o h1 h2 h3 => by simp only [h1, h2, h3]; omega
set_option maxHeartbeats 4000000 in
theorem offer6_spec {h : Ip6V} {es : List ExtR} {d : List Int} (H : Sep (tabFs T) w) (hT : TabOk T) (hb : T.begun ≤ 4611686018427387904) (hA : ∀ w', Mod (Blocks (tabFs T)) w w' → Ip6At w' h es d) (hK : ∀ w', Mod (Blocks (tabFs T)) w w' → Kn w') :
    Calls Tryd.prog 8 #[T.p, h.val] w fun e w' => ∃ (T' : TabR) (res : Ip6V) (n o er : Int) (od : Option Ip6D), e = .returned (.tuple #[res.val, .int .i64 n, .int .i64 o, .int .i64 er]) ∧ Out6 T h es d T' n o er od ∧
      Sep (Fct.rest w (Blocks (tabFs T)) :: tabFs T') w' ∧ Back6 w' res od ∧ (T' = T ∨ es.length ≤ 1000) := by
  refine reasm_Table_Offer6_of _ h w _ ?_
  unfold reasm_Table_Offer6_VC
  have nob : ∀ {w : World} {res : Ip6V}, Back6 w res none := fun D h => by cases h
  have H0 := H.begins
  generalize hB : Blocks (tabFs T) = B at H0 hA hK ⊢
  refine NewVC.sep H0 fun g1 w1 H1 => NewVC.sep H1.front fun g2 w2 H2 => ?_
  have H2 := H2.front
  refine Ip6V.of h ⟨H2.at 1 rfl, (check6_spec (hA w2 (H2.restOf 2 rfl)) (hK w2 (H2.restOf 2 rfl))).mono ?_⟩
  rintro _ w3 ⟨hE, rfl⟩
  have H3 := H2.ext hE
  refine ⟨_, rfl, Br.dec (fun hne => ?_) fun hz => ?_⟩
  · refine Stores.sep H3 0 rfl (Ip6V.one _) (Nat.le_refl _) (splice_all rfl) fun w4 H4 => Ip6V.of Ip6V.z ⟨H4.at 0 rfl, T, _, 0, 0, _, none, rfl, .bad hne, H4.tail.tail, nob, .inl rfl⟩
  have hz : (ser6S (h.d es d)).2 = 0 := Classical.byContradiction hz
  have hfew : es.length ≤ 1000 := by have := ser6_few hz; have e : (h.d es d).exts.length = es.length := List.length_map _; omega
  refine ⟨_, (H3.blk 1 rfl).cell 40, _, (H3.blk 1 rfl).cell 38, ?_⟩
  cases hhas : h.frag.has with
  | false =>
    refine Br.t rfl (Ip6V.of h ⟨H3.at 1 rfl, Stores.sep H3 0 rfl (Ip6V.one _) (Nat.le_refl _) (splice_all rfl) fun w4 H4 => Ip6V.of h ⟨H4.at 0 rfl, T, _, 0, 1, 0, _, rfl, .plain hz hhas, H4.tail.tail, fun D hD => ?_, .inl rfl⟩⟩)
    cases hD
    exact ⟨es, d, hA w4 (H4.restOf 2 rfl), rfl⟩
  | true =>
  refine Br.f rfl (JoinVC.of (fun s w' => w' = w3 ∧ s = decide (h.frag.off = 0 ∧ h.frag.more = false)) ?_ ?_)
  · refine ⟨_, (H3.blk 1 rfl).cell 41, Br.dec (fun h0 => ⟨_, (H3.blk 1 rfl).cell 39, rfl, ?_⟩) fun h0 => ⟨rfl, ?_⟩⟩
    · rw [Bool.eq_iff_iff]
      simp [h0]
    · rw [decide_eq_false fun h => h0 h.1]
  rintro _ _ ⟨rfl, rfl⟩
  by_cases hat : h.frag.off = 0 ∧ h.frag.more = false
  · rw [decide_eq_true hat]
    exact atom6 (T := T) H3 hA hK hfew (fun hjo w' H4 => ⟨T, _, 0, 0, 126, none, rfl, .atomBad hz hhas hat.1 hat.2 hjo, H4, nob, .inl rfl⟩) fun hjo w' res H4 hb6 => ⟨T, res, _, 1, 0, _, rfl, .atom hz hhas hat.1 hat.2 hjo, H4, hb6, .inl rfl⟩
  rw [decide_eq_false hat]
  unfold reasm_Table_Offer6_J243
  refine Br.f rfl (IPV.of h.src ⟨cells_pre (pre := h.cells.take 3) (post := h.cells.drop 20) (H3.blk 1 rfl), IPV.of h.dst ⟨cells_pre (pre := h.cells.take 20) (post := h.cells.drop 37) (H3.blk 1 rfl), ?_⟩⟩)
  refine NewVC.sep H3 fun g3 w4 H4 => Stores.sep H4.front 0 (cs' := (key6 h).cells) rfl (KeyV.one _) (Nat.le_refl _) (splice_all rfl) fun w5 H5 => ?_
  have H5 : Sep (Fct.blk g3 54 (key6 h).cells :: Fct.blk g2 43 (Ip6V.z : Ip6V).cells :: Fct.blk g1 43 h.cells :: Fct.rest w B :: tabFs T) w5 := H5
  refine DrawVC.sep H5 (fun w' => Blk w' T.g 51 T.cells ∧ MapAt w' T.m (kvs KeyV.val (T.cs.map ck)) ∧ CellsAt w' ⟨g3, 0, none⟩ 0 (key6 h).cells) fun w6 H6 => ⟨⟨H6.blk 4 rfl, H6.yes 5 _ rfl, H6.at 0 rfl⟩, ?_⟩
  refine ⟨_, rfl, _, fun w' hb => hb.1.cell 3, KeyV.of (key6 h) ⟨fun w' hb => hb.2.2, ?_⟩⟩
  rcases tab_find T (key6 h) with ⟨j, c, hj, hk⟩ | hno
  · refine ⟨some ⟨c.g, 0, none⟩, fun w' hb => tab_look hb.2.1 (look_some hT hj hk), ?_⟩
    refine JoinVC.of (fun s w' => w' = w6 ∧ s = c.v.why) ?_ ?_
    · exact Br.t rfl ⟨_, rfl, _, (tab_blk (Γ := [_, _, _, _, _, _]) H6 (List.mem_of_getElem? hj)).cell 39, rfl, rfl⟩
    · rintro _ _ ⟨rfl, rfl⟩
      exact frag6_old H6 hT hA hK hfew hj hk fun T' n o e od w' res ho Hw hb6 => ⟨T', res, n, o, e, od, rfl, ho, Hw, hb6, .inr hfew⟩
  · refine ⟨none, fun w' hb => tab_look hb.2.1 (look_none hno), ?_⟩
    refine JoinVC.of (fun s w' => w' = w6 ∧ s = 126) (Br.f rfl ⟨rfl, rfl⟩) ?_
    rintro _ _ ⟨rfl, rfl⟩
    exact frag6_new H6 hT hb hA hK hfew hno fun T' n o e od w' res ho Hw hb6 => ⟨T', res, n, o, e, od, rfl, ho, Hw, hb6, .inr hfew⟩
end
end N6
end Go.Proofs.YthhgbpmihhljdaaDoor
