/- Chapter 12: Offer4 behind a piece that was held. -/
import Derived.Test.YthhgbpmihhljdaaDoorBbd
import Derived.Test.YthhgbpmihhljdaaDoorBas
import Derived.Test.YthhgbpmihhljdaaDoorBar
import Derived.Test.YthhgbpmihhljdaaDoorBav
namespace Go.Proofs.YthhgbpmihhljdaaDoor
namespace N6
open Go Go.Eng Go.RowKit
theorem onRet_at {A : Value → World → Prop} {Q : List PanicEntry → World → Prop} {v : Value} {w' : World} (h : A v w') : onRet A Q (.returned v) w' := h
/-- The first fragment is noted. -/
inductive First4 (h : Ip4V) (os : List OptR) (data : List Int) (c : CtxR) : CtxR → Prop
  | yes (so sd : Sl) (os' : List OptR) : h.off = 0 → c.v.first = false → os'.map OptR.d = os.map OptR.d → OptsFine so os' → BFine sd data → First4 h os data c { c with v := { c.v with first := true, h4 := Ip4V.with_ h so sd }, os := os', d4 := data }
  | no : ¬ (h.off = 0 ∧ c.v.first = false) → First4 h os data c c
/-- What comes of a piece that was held. -/
inductive Tail4 (T : TabR) (j : Nat) (c : CtxR) (r : HolR) (h : Ip4V) (os : List OptR) (data : List Int) : TabR → Int → Int → Prop
  | part (c1 : CtxR) : First4 h os data c c1 → ¬ (0 ≤ r.s.fin ∧ r.s.gaps = []) → Tail4 T j c r h os data (T.upd j c1) 2 0
  | spoil (c1 : CtxR) : First4 h os data c c1 → 0 ≤ r.s.fin ∧ r.s.gaps = [] → Tail4 T j c r h os data (T.upd j (c1.shut 2 123 (c1.v.frags - 1))) 0 123
  | whole (c1 : CtxR) : First4 h os data c c1 → 0 ≤ r.s.fin ∧ r.s.gaps = [] → Tail4 T j c r h os data (T.upd j (c1.shut 1 c1.v.why 0)) 1 0
section
variable {w w0 : World} {T : TabR} {j : Nat} {c : CtxR} {r : HolR} {a b d e : Fct} {B : Nat → Prop}
theorem shut_fs {Δ rows : List Fct} {st why n : Int} (hj : T.cs[j]? = some c) {c1 : CtxR} (hk : c1.v.key = c.v.key) (hg : c1.g = c.g)
    (H : Sep (([a, b, d, e, ctxB c1.g (c1.shut st why n).v] ++ (tabRest T j ++ rows)) ++ Δ) w) : Sep (e :: tabFs (T.upd j (c1.shut st why n))) w := by
  refine Sep.perm ?_ ((tab_unfocus (T := T) (c' := c1.shut st why n) hj hk hg).cons _)
  have e1 : ctxFs (c1.shut st why n) = ctxB c1.g (c1.shut st why n).v :: (rows4 Ip4V.z [] [] ++ rows6 Ip6V.z [] []) := rfl
  rw [e1]
  have H := Sep.nils H
  generalize rows4 Ip4V.z [] [] ++ rows6 Ip6V.z [] [] = z at H ⊢
  exact Sep.sub (H.perm (perm_cn fun c o h1 h2 h3 => by simp only [h1, h2, h3]; omega)) (List.sublist_append_left _ ([a, b, d] ++ (rows ++ Δ)))
theorem keep_fs (hj : T.cs[j]? = some c) {c1 : CtxR} (hh : c1.hole = some r) (hk : c1.v.key = c.v.key) (hg : c1.g = c.g)
    (H : Sep (([a, b, d, e, ctxB c1.g c1.v] ++ (tabRest T j ++ (rows4 c1.v.h4 c1.os c1.d4 ++ rows6 c1.v.h6 c1.es c1.d6))) ++ holFs r) w) : Sep (e :: tabFs (T.upd j c1)) w := by
  refine Sep.perm ?_ ((tab_unfocus (T := T) (c' := c1) hj hk hg).cons _)
  have e1 : ctxFs c1 = ctxB c1.g c1.v :: (holFs r ++ (rows4 c1.v.h4 c1.os c1.d4 ++ rows6 c1.v.h6 c1.es c1.d6)) := by unfold ctxFs; rw [hh]; rfl
  rw [e1]
  generalize rows4 c1.v.h4 c1.os c1.d4 ++ rows6 c1.v.h6 c1.es c1.d6 = z at H ⊢
  exact Sep.sub (H.perm (perm_cn fun c o h1 h2 h3 => by simp only [h1, h2, h3]; omega)) (List.sublist_append_left _ [a, b, d])
theorem open_fs (hj : T.cs[j]? = some c) (hh : c.hole = some r) (H : Sep (a :: b :: d :: e :: tabFs T) w) :
    Sep (([a, b, d, e, ctxB c.g c.v] ++ (tabRest T j ++ (rows4 c.v.h4 c.os c.d4 ++ rows6 c.v.h6 c.es c.d6))) ++ holFs r) w := by
  have H := H.perm (((((tab_focus hj).symm.cons _).cons _).cons _).cons _)
  have e1 : ctxFs c = ctxB c.g c.v :: (holFs r ++ (rows4 c.v.h4 c.os c.d4 ++ rows6 c.v.h6 c.es c.d6)) := by unfold ctxFs; rw [hh]; rfl
  rw [e1] at H
  generalize rows4 c.v.h4 c.os c.d4 ++ rows6 c.v.h6 c.es c.d6 = z at H ⊢
  exact H.perm (perm_cn fun c o h1 h2 h3 => by simp only [h1, h2, h3]; omega)
theorem First4.same {h : Ip4V} {os : List OptR} {data : List Int} {c1 : CtxR} (h1 : First4 h os data c c1) : c1.hole = c.hole ∧ c1.v.key = c.v.key ∧ c1.g = c.g ∧ c1.v.holes = c.v.holes ∧ c1.v.frags = c.v.frags ∧ c1.v.state = c.v.state ∧ c1.v.why = c.v.why ∧ c1.v.left = c.v.left ∧ c1.v.began = c.v.began ∧ c1.v.h6 = c.v.h6 ∧ c1.es = c.es ∧ c1.d6 = c.d6 := by
  cases h1 <;> exact ⟨rfl, rfl, rfl, rfl, rfl, rfl, rfl, rfl, rfl, rfl, rfl, rfl⟩
theorem First4.fine {h : Ip4V} {os : List OptR} {data : List Int} {c1 : CtxR} (h1 : First4 h os data c c1) (hs : Bts h.src.bytes) (hd : Bts h.dst.bytes) (hf : Fine4 c.v.h4 c.os c.d4) : Fine4 c1.v.h4 c1.os c1.d4 := by
  cases h1 with
  | yes so sd os' _ _ _ h3 h4 => exact ⟨h3, h4, hs, hd⟩
  | no _ => exact hf
set_option maxHeartbeats 4000000 in
theorem tail4 {g1 g2 g4 : Nat} {p : LaidV} {h : Ip4V} {os : List OptR} {data : List Int} {R : Ending → World → Prop}
    (H : Sep (Fct.blk g2 35 (Ip4V.z : Ip4V).cells :: Fct.blk g4 60 p.cells :: Fct.blk g1 35 h.cells :: Fct.rest w0 B :: tabFs T) w)
    (hj : T.cs[j]? = some c) (hk : CtxOk c) (hc : c.hole = some r) (hr : HolOk r.s) (hp : p.c = some ⟨c.g, 0, none⟩) (hA : ∀ w', Mod B w0 w' → Ip4At w' h os data) (hf : 1 ≤ c.v.frags)
    (hR : ∀ T' o e w' (res : Ip4V), Tail4 T j c r h os data T' o e → Sep (Fct.rest w0 B :: tabFs T') w' → R (.returned (.tuple #[res.val, .int .i64 o, .int .i64 e])) w') :
    reasm_Table_Offer4_J255 R g1 g2 g4 0 w := by
  unfold reasm_Table_Offer4_J255
  have hv : c.v.holes = some ⟨r.g, 0, none⟩ := by rw [hk.holes, hc]; rfl
  have H := open_fs hj hc H
  refine Br.f rfl ?_
  refine JoinVC.of (fun _ w' => ∃ c1, First4 h os data c c1 ∧ Sep (([Fct.blk g2 35 (Ip4V.z : Ip4V).cells, Fct.blk g4 60 p.cells, Fct.blk g1 35 h.cells, Fct.rest w0 B, ctxB c1.g c1.v] ++ (tabRest T j ++ (rows4 c1.v.h4 c1.os c1.d4 ++ rows6 c1.v.h6 c1.es c1.d6))) ++ holFs r) w') ?_ ?_
  · refine JoinVC.of (fun x w' => w' = w ∧ x = decide (h.off = 0 ∧ c.v.first = false)) ?_ ?_
    · refine ⟨_, (H.blk 2 rfl).cell 4, Br.dec (fun h0 => ⟨some ⟨c.g, 0, none⟩, by rw [← hp]; exact (H.blk 1 rfl).cell 0, _, rfl, _, (H.blk 4 rfl).cell 42, rfl, ?_⟩) fun h0 => ⟨rfl, ?_⟩⟩
      · rw [Bool.eq_iff_iff]
        simp [h0]
      · rw [decide_eq_false fun h => h0 h.1]
    · rintro _ _ ⟨rfl, rfl⟩
      unfold reasm_Table_Offer4_J2046
      refine Br.dec (fun hy => ?_) fun hn => ⟨c, .no hn, H⟩
      refine DrawVC.sep H (fun w' => Blk w' g4 60 p.cells ∧ CellsAt w' ⟨g1, 0, none⟩ 0 h.cells) fun w1 H1 => ⟨⟨H1.blk 1 rfl, H1.at 2 rfl⟩, ?_⟩
      refine ⟨some ⟨c.g, 0, none⟩, fun w' hb => by rw [← hp]; exact hb.1.cell 0, some ⟨c.g, 0, none⟩, fun w' hb => by rw [← hp]; exact hb.1.cell 0, Ip4V.of h ⟨fun w' hb => hb.2, ?_⟩⟩
      refine (rclone4_spec (hA w1 (H1.restOf 3 rfl))).mono ?_
      rintro _ w2 ⟨so, sd, os', rfl, h1, h2, h3, H2⟩
      have H2 := H1.mades H2
      refine onRet_at (Ip4V.of (Ip4V.with_ h so sd) ⟨rfl, ⟨H2.blk 1 rfl, H2.at 2 rfl⟩, _, rfl, ?_⟩)
      refine SetVC.sep H2 4 (k := 42) rfl (show 42 < 130 by decide) fun w3 H3 => ⟨⟨H3.blk 1 rfl, H3.at 2 rfl⟩, _, rfl, ?_⟩
      refine Stores.sep (o := 43) H3 4 (cs' := CtxV.cells { c.v with first := true, h4 := Ip4V.with_ h so sd }) rfl (Ip4V.one _) (show 43 + 43 ≤ 130 by decide) rfl fun w4 H4 => ⟨_, .yes so sd os' hy.1 hy.2 h1 h2 h3, ?_⟩
      have H4 : Sep ((([Fct.blk g2 35 (Ip4V.z : Ip4V).cells, Fct.blk g4 60 p.cells, Fct.blk g1 35 h.cells, Fct.rest w0 B, ctxB c.g { c.v with first := true, h4 := Ip4V.with_ h so sd }] ++ (tabRest T j ++ (rows4 c.v.h4 c.os c.d4 ++ rows6 c.v.h6 c.es c.d6))) ++ holFs r) ++ rows4 (Ip4V.with_ h so sd) os' data) w4 := H4
      show Sep (([_, _, _, _, ctxB c.g { c.v with first := true, h4 := Ip4V.with_ h so sd }] ++ (tabRest T j ++ (rows4 (Ip4V.with_ h so sd) os' data ++ rows6 c.v.h6 c.es c.d6))) ++ holFs r) w4
      generalize rows4 c.v.h4 c.os c.d4 = z1 at H4
      generalize rows4 (Ip4V.with_ h so sd) os' data = z2 at H4 ⊢
      exact Sep.sub (H4.perm (perm_cn fun c o h1 h2 h3 => by simp only [h1, h2, h3]; omega)) (List.sublist_append_left _ z1)
  rintro _ w1 ⟨c1, hc1, H1⟩
  obtain ⟨s1, s2, s3, s4, s5, _, _, _, _, _⟩ := hc1.same
  unfold reasm_Table_Offer4_J1023
  have hb := hk.frags
  refine ⟨some ⟨c.g, 0, none⟩, by rw [← hp]; exact (H1.blk 1 rfl).cell 0, _, rfl, some ⟨r.g, 0, none⟩, by rw [← hv, ← s4, ← s3]; exact (H1.blk 4 rfl).cell 40, ?_⟩
  refine (bytes_spec (H1.sub (List.sublist_append_right _ _)) hr).mono ?_
  rintro _ w2 (⟨hw1, hw2, s', rfl, hbf, H2⟩ | ⟨hn, rfl, hE⟩)
  · have H2 := H1.made H2
    refine ⟨s'.A, s'.n, s'.k, true, rfl, Br.f rfl ?_⟩
    refine ⟨some ⟨c.g, 0, none⟩, by rw [← hp]; exact (H2.blk 1 rfl).cell 0, _, rfl, Ip4V.of c1.v.h4 ⟨by rw [← s3]; exact ctx_h4 (H2.blk 4 rfl), ?_⟩⟩
    refine NewVC.sep H2 fun g5 w3 H3 => ?_
    have H3 := H3.front
    refine Stores.sep H3 0 (cs' := c1.v.h4.cells) rfl (Ip4V.one _) (Nat.le_refl _) (splice_all rfl) fun w4 H4 => ?_
    refine SetVC.sep H4 0 (k := 3) rfl (show 3 < 43 by decide) fun w5 H5 => SetVC.sep H5 0 (k := 4) rfl (show 4 < 43 by decide) fun w6 H6 => SetVC.sep H6 0 (k := 42) rfl (show 42 < 43 by decide) fun w7 H7 => ?_
    have hfi := hc1.fine (hA w0 (Mod.refl _ _)).src (hA w0 (Mod.refl _ _)).dst hk.f4
    refine Ip4V.of { c1.v.h4 with mf := false, off := 0, data := s' } ⟨H7.at 0 rfl, ?_⟩
    have hA' : Ip4At w7 { c1.v.h4 with mf := false, off := 0, data := s' } c1.os (r.s.buf.take r.s.fin.toNat) := by
      refine ⟨optsAt_of (b := 0) (fun f hf => H7.mem ?_) hfi.opts, ?_, hfi.src, hfi.dst⟩
      · refine List.mem_cons_of_mem _ (List.mem_append_left _ (List.mem_append_left _ (List.mem_append_right _ (List.mem_append_right _ (List.mem_append_left _ (List.mem_append_left _ hf))))))
      · refine bytesAt_of (b := 0) (H7.mem ?_) hbf
        exact List.mem_cons_of_mem _ (List.mem_append_right _ (List.mem_singleton.2 rfl))
    refine (check4_spec hA').mono ?_
    rintro _ w8 ⟨hE, rfl⟩
    have H8 := (H7.tail).ext hE
    have H8' := H7.ext hE
    refine ⟨_, rfl, Br.dec (fun hne => ?_) fun hz => ?_⟩
    · refine DrawVC.sep H8 (fun w' => Blk w' g4 60 p.cells ∧ Blk w' c1.g 66 c1.v.cells) fun w9 H9 => ⟨⟨H9.blk 1 rfl, H9.blk 4 rfl⟩, ?_⟩
      refine ⟨some ⟨c.g, 0, none⟩, fun w' hb => by rw [← hp]; exact hb.1.cell 0, some ⟨c.g, 0, none⟩, fun w' hb => by rw [← hp]; exact hb.1.cell 0, _, rfl, c1.v.frags, fun w' hb => by rw [← s3]; exact hb.2.cell 41, ?_⟩
      rw [w64 (by omega) (by omega), ← s3]
      refine (spoil_spec (H9.blk 4 rfl)).mono ?_
      rintro _ w10 ⟨rfl, H10⟩
      have H10 := H9.call 4 rfl (fun k hk => hk) H10
      refine ⟨rfl, Stores.sep H10 0 rfl (Ip4V.one _) (Nat.le_refl _) (splice_all rfl) fun w11 H11 => Ip4V.of Ip4V.z ⟨H11.at 0 rfl, ?_⟩⟩
      exact hR _ 0 123 _ _ (.spoil c1 hc1 ⟨hw1, hw2⟩) (shut_fs hj s2 s3 (by rw [List.append_assoc] at H11; exact H11))
    · refine ⟨some ⟨c.g, 0, none⟩, by rw [← hp]; exact (H8.blk 1 rfl).cell 0, ?_⟩
      rw [← s3]
      refine (finish_spec (H8'.blk 5 rfl)).mono ?_
      rintro _ w10 ⟨rfl, H10⟩
      have H10 := H8'.call 5 rfl (fun k hk => hk) H10
      refine ⟨rfl, Ip4V.of { c1.v.h4 with mf := false, off := 0, data := s' } ⟨H10.at 0 rfl, ?_⟩⟩
      refine Stores.sep H10 1 rfl (Ip4V.one _) (Nat.le_refl _) (splice_all rfl) fun w11 H11 => Ip4V.of _ ⟨H11.at 1 rfl, ?_⟩
      have H12 := H11.tail
      have H12 : Sep (([Fct.blk g2 35 (Ip4V.cells { c1.v.h4 with mf := false, off := 0, data := s' }), Fct.blk g4 60 p.cells, Fct.blk g1 35 h.cells, Fct.rest w0 B, ctxB c1.g (c1.shut 1 c1.v.why 0).v] ++ (tabRest T j ++ (rows4 c1.v.h4 c1.os c1.d4 ++ rows6 c1.v.h6 c1.es c1.d6))) ++ (holFs r ++ [rowB 0 s' (r.s.buf.take r.s.fin.toNat)])) w11 := by
        rw [← List.append_assoc]
        exact H12
      exact hR _ 1 0 _ _ (.whole c1 hc1 ⟨hw1, hw2⟩) (shut_fs hj s2 s3 H12)
  · have H2 := H1.ext hE
    refine ⟨none, 0, 0, false, rfl, Br.t rfl ?_⟩
    refine Stores.sep H2 0 rfl (Ip4V.one _) (Nat.le_refl _) (splice_all rfl) fun w11 H11 => Ip4V.of Ip4V.z ⟨H11.at 0 rfl, ?_⟩
    exact hR _ 2 0 _ _ (.part c1 hc1 hn) (keep_fs hj (by rw [s1, hc]) s2 s3 H11)
end
end N6
end Go.Proofs.YthhgbpmihhljdaaDoor
/- Chapter 12: Offer4. -/
namespace Go.Proofs.YthhgbpmihhljdaaDoor
namespace N6
open Go Go.Eng Go.RowKit
def key4 (h : Ip4V) : KeyV := ⟨h.src, h.dst, h.proto, h.id⟩
def holdC (c : CtxR) (r : HolR) : CtxR := { c with hole := some r, v := { c.v with frags := c.v.frags + 1 } }
def layC (c : CtxR) (r : HolR) : CtxR := { c with hole := some r }
def joinC (T : TabR) (c : CtxR) : CtxR := { c with v := { c.v with began := T.begun, frags := c.v.frags + 1 } }
def endS (s : HolS) (off : Int) (d : List Int) (more : Bool) : Bool := decide (0 ≤ (putS s off d more).fin) && !decide (0 ≤ s.fin)
def dup4 (s : HolS) (off : Int) (d : List Int) (more : Bool) : Prop := (fitS s off d more).nw = 0 ∧ endS s off d more = false
/-- A fragment's context is there and takes it. -/
structure Open (T : TabR) (k : KeyV) (done spoiled : Int) (j : Nat) (c : CtxR) (r r' : HolR) : Prop where
  at_ : T.cs[j]? = some c
  key : c.v.key = k
  rdy : readyS c.v done spoiled = 0
  hole : c.hole = some r
  ok : HolOk r.s
  g : r'.g = r.g
/-- Room for one more. -/
def Roomed (T T1 : TabR) : Prop := (T.cs.length : Int) < T.max ∧ T1 = T ∨ ¬ (T.cs.length : Int) < T.max ∧ ∃ j x, T.cs[j]? = some x ∧ T1 = { T with cs := T.cs.eraseIdx j }
/-- What Offer4 answers, and what the table is then. -/
inductive Out4 (T : TabR) (h : Ip4V) (os : List OptR) (d : List Int) : TabR → Int → Int → Prop
  | bad : check4S (h.d os d) ≠ 0 → Out4 T h os d T 0 (check4S (h.d os d))
  | whole : check4S (h.d os d) = 0 → h.mf = false → h.off = 0 → Out4 T h os d T 1 0
  | unready (j : Nat) (c : CtxR) : T.cs[j]? = some c → c.v.key = key4 h → readyS c.v 125 123 ≠ 0 → Out4 T h os d T 0 (readyS c.v 125 123)
  | refused (j : Nat) (c : CtxR) (r r' : HolR) : Open T (key4 h) 125 123 j c r r' → r'.s = r.s → refusedS r.s h.off d.length h.mf ≠ 0 → Out4 T h os d (T.upd j (layC c r')) 0 (layErr (refusedS r.s h.off d.length h.mf))
  | dup (j : Nat) (c : CtxR) (r r' : HolR) : Open T (key4 h) 125 123 j c r r' → refusedS r.s h.off d.length h.mf = 0 → r'.s = putS r.s h.off d h.mf → HolOk r'.s → dup4 r.s h.off d h.mf → Out4 T h os d (T.upd j (layC c r')) 0 121
  | held (j : Nat) (c : CtxR) (r r' : HolR) (T' : TabR) (o e : Int) : Open T (key4 h) 125 123 j c r r' → refusedS r.s h.off d.length h.mf = 0 → r'.s = putS r.s h.off d h.mf → HolOk r'.s → ¬ dup4 r.s h.off d h.mf →
      Tail4 (T.upd j (holdC c r')) j (holdC c r') r' h os d T' o e → Out4 T h os d T' o e
  | nrefused : (∀ c ∈ T.cs, c.v.key ≠ key4 h) → refusedS (HolS.start 65515) h.off d.length h.mf ≠ 0 → Out4 T h os d T 0 (layErr (refusedS (HolS.start 65515) h.off d.length h.mf))
  | ndup : (∀ c ∈ T.cs, c.v.key ≠ key4 h) → refusedS (HolS.start 65515) h.off d.length h.mf = 0 → dup4 (HolS.start 65515) h.off d h.mf → Out4 T h os d T 0 121
  | nfull : (∀ c ∈ T.cs, c.v.key ≠ key4 h) → refusedS (HolS.start 65515) h.off d.length h.mf = 0 → ¬ dup4 (HolS.start 65515) h.off d h.mf → ¬ (T.cs.length : Int) < T.max → Out4 T h os d T 0 120
  | nheld (T1 : TabR) (g : Nat) (r' : HolR) (T' : TabR) (o e : Int) : (∀ c ∈ T.cs, c.v.key ≠ key4 h) → refusedS (HolS.start 65515) h.off d.length h.mf = 0 → r'.s = putS (HolS.start 65515) h.off d h.mf → HolOk r'.s →
      ¬ dup4 (HolS.start 65515) h.off d h.mf → Roomed T T1 → Tail4 (T1.join (newC g (key4 h) T.ticks r')) T1.cs.length (joinC T1 (newC g (key4 h) T.ticks r')) r' h os d T' o e → Out4 T h os d T' o e
theorem ready_zero {v : CtxV} {done spoiled : Int} (hs : v.state = 0 ∨ v.state = 1 ∨ v.state = 2) (h1 : done ≠ 0) (h2 : spoiled ≠ 0) (h : readyS v done spoiled = 0) : v.state = 0 ∧ v.frags ≠ 1024 := by
  unfold readyS at h
  split at h
  · exact absurd h h1
  split at h
  · exact absurd h h2
  split at h
  · cases h
  · omega
theorem CtxOk.hold {c : CtxR} {r r' : HolR} (h : CtxOk c) (hh : c.hole = some r) (hg : r'.g = r.g) (hk : HolOk r'.s) (hf : c.v.frags ≠ 1024) : CtxOk (holdC c r') where
  holes := by show c.v.holes = some _; rw [h.holes, hh]; show some (⟨r.g, 0, none⟩ : Addr) = some ⟨r'.g, 0, none⟩; rw [hg]
  st := h.st
  open_ := fun _ => ⟨r', rfl, hk⟩
  frags := by have := h.frags; show 0 ≤ c.v.frags + 1 ∧ c.v.frags + 1 ≤ 1024; omega
  f4 := h.f4
  f6 := h.f6
  why := h.why
theorem CtxOk.lay {c : CtxR} {r r' : HolR} (h : CtxOk c) (hh : c.hole = some r) (hg : r'.g = r.g) (hk : HolOk r'.s) : CtxOk (layC c r') where
  holes := by show c.v.holes = some _; rw [h.holes, hh]; show some (⟨r.g, 0, none⟩ : Addr) = some ⟨r'.g, 0, none⟩; rw [hg]
  st := h.st
  open_ := fun _ => ⟨r', rfl, hk⟩
  frags := h.frags
  f4 := h.f4
  f6 := h.f6
  why := h.why
theorem CtxOk.fresh {T : TabR} {g : Nat} {k : KeyV} {ticks : Int} {r : HolR} (hk : HolOk r.s) : CtxOk (joinC T (newC g k ticks r)) where
  holes := rfl
  st := .inl rfl
  open_ := fun _ => ⟨r, rfl, hk⟩
  frags := by show (0 : Int) ≤ 0 + 1 ∧ (0 : Int) + 1 ≤ 1024; omega
  f4 := fine4_z
  f6 := fine6_z
  why := fun h => by have h : (0 : Int) = 2 := h; cases h
def verdict4 (p : LaidV) (e : Int) : Int := if e = 0 then (if p.fit.nw = 0 ∧ p.fin = false then 121 else 0) else e
section
variable {w w0 : World} {T : TabR} {j : Nat} {c : CtxR} {r : HolR} {Δ : List Fct} {R : Ending → World → Prop} {t : Option Addr} {g1 g2 g4 : Nat} {p : LaidV}
theorem after4 {x11 : Int} (H : Sep Δ w) (hK : ∀ g4 w14, Sep (Fct.blk g4 60 p.cells :: Δ) w14 → reasm_Table_Offer4_J127 R t g1 g2 g4 (verdict4 p x11) w14) :
    NewVC w (.cells (LaidV.z : LaidV).cells.toArray 60) fun g4 w13 =>
  Stores ⟨g4, 0, none⟩ 0 p.cells w13 fun w14 =>
  JoinVC (S := Int) (fun J127 =>
      Br (decide (x11 = 0))
        (∃ x9 : Int, w14.cell? ⟨g4, 2, none⟩ = some (.int .i64 x9) ∧
        Br (decide (x9 = 0))
          (∃ x10 : Bool, w14.cell? ⟨g4, 5, none⟩ = some (.bool x10) ∧
          Br (!x10)
        (J127 121 w14)
        (J127 x11 w14))
          (J127 x11 w14))
        (J127 x11 w14))
    (fun s_ w15 => reasm_Table_Offer4_J127 R t g1 g2 g4 s_ w15) := by
  refine NewVC.sep H fun g4 w13 H1 => Stores.sep H1.front 0 (cs' := p.cells) rfl (LaidV.one _) (Nat.le_refl _) (splice_all rfl) fun w14 H2 => ?_
  have H2 : Sep (Fct.blk g4 60 p.cells :: Δ) w14 := H2
  refine JoinVC.of (fun s w' => w' = w14 ∧ s = verdict4 p x11) ?_ ?_
  · unfold verdict4
    refine Br.dec (fun h0 => ⟨_, (H2.blk 0 rfl).cell 2, Br.dec (fun h1 => ⟨_, (H2.blk 0 rfl).cell 5, ?_⟩) fun h1 => ⟨rfl, by rw [if_pos h0, if_neg (fun h => h1 h.1), h0]⟩⟩) fun h0 => ⟨rfl, by rw [if_neg h0]⟩
    cases hp : p.fin with
    | false => exact Br.t rfl ⟨rfl, by rw [if_pos h0, if_pos ⟨h1, rfl⟩]⟩
    | true => exact Br.f rfl ⟨rfl, by rw [if_pos h0, if_neg (fun h => by cases h.2), h0]⟩
  · rintro _ _ ⟨rfl, rfl⟩
    exact hK g4 _ H2
theorem err255 {code : Int} (H : Sep (Fct.blk g4 60 p.cells :: Fct.blk g2 35 (Ip4V.z : Ip4V).cells :: Δ) w) (hc : code ≠ 0) (hR : ∀ w', Sep Δ w' → R (.returned (.tuple #[(Ip4V.z : Ip4V).val, .int .i64 0, .int .i64 code])) w') :
    reasm_Table_Offer4_J255 R g1 g2 g4 code w := by
  unfold reasm_Table_Offer4_J255
  refine Br.t (decide_eq_true hc) (Stores.sep H 1 rfl (Ip4V.one _) (Nat.le_refl _) (splice_all rfl) fun w1 H1 => Ip4V.of Ip4V.z ⟨H1.at 1 rfl, hR _ H1.tail.tail⟩)
theorem err127 {code : Int} (H : Sep (Fct.blk g4 60 p.cells :: Fct.blk g2 35 (Ip4V.z : Ip4V).cells :: Δ) w) (hc : code ≠ 0) (hR : ∀ w', Sep Δ w' → R (.returned (.tuple #[(Ip4V.z : Ip4V).val, .int .i64 0, .int .i64 code])) w') :
    reasm_Table_Offer4_J127 R t g1 g2 g4 code w := by
  unfold reasm_Table_Offer4_J127
  refine JoinVC.of (fun s w' => w' = w ∧ s = code) (Br.f (decide_eq_false hc) ⟨rfl, rfl⟩) ?_
  rintro _ _ ⟨rfl, rfl⟩
  exact err255 H hc hR
set_option maxHeartbeats 4000000 in
theorem offer4_spec {h : Ip4V} {os : List OptR} {d : List Int} (H : Sep (tabFs T) w) (hT : TabOk T) (hb : T.begun ≤ 4611686018427387904) (hA : ∀ w', Mod (Blocks (tabFs T)) w w' → Ip4At w' h os d) :
    Calls Tryd.prog 5 #[T.p, h.val] w fun e w' => ∃ (T' : TabR) (res : Ip4V) (o er : Int), e = .returned (.tuple #[res.val, .int .i64 o, .int .i64 er]) ∧ Out4 T h os d T' o er ∧
      Sep (Fct.rest w (Blocks (tabFs T)) :: tabFs T') w' := by
  refine reasm_Table_Offer4_of _ h w _ ?_
  unfold reasm_Table_Offer4_VC
  have H0 := H.begins
  have hS : ∀ w', Mod (Blocks (tabFs T)) w w' → BytesAt w' h.data d := fun w' hm => (hA w' hm).data
  generalize hB : Blocks (tabFs T) = B at H0 hS hA ⊢
  refine NewVC.sep H0 fun g1 w1 H1 => NewVC.sep H1.front fun g2 w2 H2 => ?_
  have H2 := H2.front
  refine Ip4V.of h ⟨H2.at 1 rfl, (check4_spec (hA w2 (H2.restOf 2 rfl))).mono ?_⟩
  rintro _ w3 ⟨hE, rfl⟩
  have H3 := H2.ext hE
  refine ⟨_, rfl, Br.dec (fun hne => ?_) fun hz => ?_⟩
  · refine Stores.sep H3 0 rfl (Ip4V.one _) (Nat.le_refl _) (splice_all rfl) fun w4 H4 => Ip4V.of Ip4V.z ⟨H4.at 0 rfl, T, _, 0, _, rfl, .bad hne, H4.tail.tail⟩
  have hz : check4S (h.d os d) = 0 := Classical.byContradiction hz
  refine JoinVC.of (fun _ w' => w' = w3) ?_ ?_
  · refine ⟨_, (H3.blk 1 rfl).cell 3, ?_⟩
    cases hm : h.mf with
    | true => exact Br.f rfl rfl
    | false =>
      refine Br.t rfl ⟨_, (H3.blk 1 rfl).cell 4, Br.dec (fun ho => ?_) fun ho => rfl⟩
      refine Ip4V.of h ⟨H3.at 1 rfl, Stores.sep H3 0 rfl (Ip4V.one _) (Nat.le_refl _) (splice_all rfl) fun w4 H4 => Ip4V.of h ⟨H4.at 0 rfl, T, _, 1, 0, rfl, .whole hz hm ho, H4.tail.tail⟩⟩
  rintro _ _ rfl
  unfold reasm_Table_Offer4_J7
  refine IPV.of h.src ⟨cells_pre (pre := h.cells.take 7) (post := h.cells.drop 24) (H3.blk 1 rfl), IPV.of h.dst ⟨cells_pre (pre := h.cells.take 24) (post := h.cells.drop 41) (H3.blk 1 rfl), _, (H3.blk 1 rfl).cell 6, _, (H3.blk 1 rfl).cell 1, ?_⟩⟩
  refine NewVC.sep H3 fun g3 w4 H4 => Stores.sep H4.front 0 (cs' := (key4 h).cells) rfl (KeyV.one _) (Nat.le_refl _) (splice_all rfl) fun w5 H5 => ?_
  have H5 : Sep (Fct.blk g3 54 (key4 h).cells :: Fct.blk g2 35 (Ip4V.z : Ip4V).cells :: Fct.blk g1 35 h.cells :: Fct.rest w B :: tabFs T) w5 := H5
  refine DrawVC.sep H5 (fun w' => Blk w' T.g 51 T.cells ∧ MapAt w' T.m (kvs KeyV.val (T.cs.map ck)) ∧ CellsAt w' ⟨g3, 0, none⟩ 0 (key4 h).cells) fun w6 H6 => ⟨⟨H6.blk 4 rfl, H6.yes 5 _ rfl, H6.at 0 rfl⟩, ?_⟩
  have hS1 : Blk w6 T.g 51 T.cells ∧ MapAt w6 T.m (kvs KeyV.val (T.cs.map ck)) ∧ CellsAt w6 ⟨g3, 0, none⟩ 0 (key4 h).cells := ⟨H6.blk 4 rfl, H6.yes 5 _ rfl, H6.at 0 rfl⟩
  have H6s : Sep (tabFs T) w6 := H6.sub (List.sublist_append_right [_, _, _, _] _)
  have hSl : ∀ w', Mod (Blocks (tabFs T)) w6 w' → BytesAt w' h.data d := fun w' hm => hS w' ((Sep.keep (Γ := [_, _, _, Fct.rest w B]) H6 hm).restOf 3 rfl)
  have turn : ∀ {Δ : List Fct} {w' : World}, Sep (Fct.rest w6 (Blocks (tabFs T)) :: Δ) w' → Sep (Fct.blk g3 54 (key4 h).cells :: Fct.blk g2 35 (Ip4V.z : Ip4V).cells :: Fct.blk g1 35 h.cells :: Fct.rest w B :: Δ) w' := fun H' => Sep.turn (Γ := [_, _, _, _]) H6 H'
  refine ⟨_, rfl, _, fun w' hb => hb.1.cell 3, KeyV.of (key4 h) ⟨fun w' hb => hb.2.2, ?_⟩⟩
  rcases tab_find T (key4 h) with ⟨j, c, hj, hk⟩ | hno
  · have hcT := List.mem_of_getElem? hj
    obtain ⟨hok, hl1, hl2, hb1, hb2⟩ := hT.ctx c hcT
    refine ⟨_, fun w' hb => tab_look hb.2.1 (look_some hT hj hk), (ready_spec (tab_blk (Γ := [_, _, _, _, _, _]) H6 hcT)).mono ?_⟩
    rintro _ _ ⟨rfl, rfl⟩
    refine ⟨_, rfl, hS1, Br.dec (fun hne => ?_) fun h0 => ?_⟩
    · refine Stores.sep H6 1 rfl (Ip4V.one _) (Nat.le_refl _) (splice_all rfl) fun w7 H7 => Ip4V.of Ip4V.z ⟨H7.at 1 rfl, T, _, 0, _, rfl, .unready j c hj hk hne, H7.tail.tail.tail⟩
    have h0 : readyS c.v 125 123 = 0 := Classical.byContradiction h0
    obtain ⟨hs0, hf0⟩ := ready_zero hok.st (by decide) (by decide) h0
    obtain ⟨r, hr, hro⟩ := hok.open_ hs0
    refine KeyV.of (key4 h) ⟨H6.at 0 rfl, _, (H6.blk 2 rfl).cell 4, h.data.A, h.data.n, h.data.k, (H6.blk 2 rfl).cell 42, _, (H6.blk 2 rfl).cell 3, ?_⟩
    refine (lay_old (S := h.data) (d := d) (off := h.off) (more := h.mf) (most := 65515) H6s hT hj hk hr hro hSl).mono ?_
    rintro _ w7 ⟨r', hg, hout, H7⟩
    have H7 := (turn H7).tail
    rcases hout with ⟨hrf, hs', rfl⟩ | ⟨hrf, hs', hro', rfl⟩
    · refine onRet_at (LaidV.of ⟨some ⟨c.g, 0, none⟩, false, FitV.z, false⟩ ⟨_, rfl, after4 H7 fun g4 w8 H8 => ?_⟩)
      have hcode : layErr (refusedS r.s h.off d.length h.mf) ≠ 0 := by unfold layErr; split <;> omega
      have : verdict4 ⟨some ⟨c.g, 0, none⟩, false, FitV.z, false⟩ (layErr (refusedS r.s h.off d.length h.mf)) = layErr (refusedS r.s h.off d.length h.mf) := by unfold verdict4; rw [if_neg hcode]
      rw [this]
      exact err127 H8 hcode fun w' H9 => ⟨_, _, 0, _, rfl, .refused j c r r' ⟨hj, hk, h0, hr, hro, hg⟩ hs' hrf, H9.tail⟩
    · refine onRet_at (LaidV.of ⟨some ⟨c.g, 0, none⟩, false, fitS r.s h.off d h.mf, endS r.s h.off d h.mf⟩ ⟨_, rfl, after4 H7 fun g4 w8 H8 => ?_⟩)
      by_cases hd : dup4 r.s h.off d h.mf
      · have : verdict4 ⟨some ⟨c.g, 0, none⟩, false, fitS r.s h.off d h.mf, endS r.s h.off d h.mf⟩ 0 = 121 := by unfold verdict4; exact (if_pos rfl).trans (if_pos (show _ ∧ _ from hd))
        rw [this]
        exact err127 H8 (by decide) fun w' H9 => ⟨_, _, 0, _, rfl, .dup j c r r' ⟨hj, hk, h0, hr, hro, hg⟩ hrf hs' hro' hd, H9.tail⟩
      · have : verdict4 ⟨some ⟨c.g, 0, none⟩, false, fitS r.s h.off d h.mf, endS r.s h.off d h.mf⟩ 0 = 0 := by unfold verdict4; exact (if_pos rfl).trans (if_neg (show ¬ (_ ∧ _) from hd))
        rw [this]
        unfold reasm_Table_Offer4_J127
        refine JoinVC.of (fun s w' => reasm_Table_Offer4_J255 _ g1 g2 g4 s w') ?_ fun _ _ h => h
        have hjl : (T.upd j (layC c r')).cs[j]? = some (layC c r') := by
          show (T.cs.set j _)[j]? = _
          rw [List.getElem?_set]
          simp [(List.getElem?_eq_some_iff.1 hj).1]
        refine Br.t rfl (LaidV.of ⟨some ⟨c.g, 0, none⟩, false, fitS r.s h.off d h.mf, endS r.s h.off d h.mf⟩ ⟨H8.at 0 rfl, ?_⟩)
        refine (hold_old (T := T.upd j (layC c r')) (p := ⟨some ⟨c.g, 0, none⟩, false, fitS r.s h.off d h.mf, endS r.s h.off d h.mf⟩) (H8.sub (List.sublist_append_right [_, _, _, _] _)) hjl hok.frags rfl rfl).mono ?_
        rintro _ w9 ⟨rfl, H9⟩
        have H9 := Sep.turn (Γ := [_, _, _, _]) H8 H9
        have e1 : (T.upd j (layC c r')).upd j { layC c r' with v := { (layC c r').v with frags := (layC c r').v.frags + 1 } } = T.upd j (holdC c r') := by
          unfold TabR.upd
          simp only [List.set_set]
          rfl
        rw [e1] at H9
        have hjh : (T.upd j (holdC c r')).cs[j]? = some (holdC c r') := by
          show (T.cs.set j _)[j]? = _
          rw [List.getElem?_set]
          simp [(List.getElem?_eq_some_iff.1 hj).1]
        refine ⟨_, rfl, ?_⟩
        refine tail4 (p := ⟨some ⟨c.g, 0, none⟩, false, fitS r.s h.off d h.mf, endS r.s h.off d h.mf⟩) (T := T.upd j (holdC c r')) (c := holdC c r') (r := r') (h := h) (os := os) (data := d) (Sep.perm H9 ?_) hjh (hok.hold hr hg hro' hf0) rfl hro' rfl hA (by have := hok.frags; show 1 ≤ c.v.frags + 1; omega) fun T' o e w' res ht Hw => ⟨T', res, o, e, rfl, .held j c r r' T' o e ⟨hj, hk, h0, hr, hro, hg⟩ hrf hs' hro' hd ht, Hw⟩
        exact perm_cn fun c o h1 h2 h3 => by simp only [h1, h2, h3]; omega
  · refine ⟨_, fun w' hb => tab_look hb.2.1 (look_none hno), ready_none.mono ?_⟩
    rintro _ _ ⟨rfl, rfl⟩
    refine ⟨_, rfl, hS1, Br.f rfl ?_⟩
    refine KeyV.of (key4 h) ⟨H6.at 0 rfl, _, (H6.blk 2 rfl).cell 4, h.data.A, h.data.n, h.data.k, (H6.blk 2 rfl).cell 42, _, (H6.blk 2 rfl).cell 3, ?_⟩
    refine (lay_new (S := h.data) (d := d) (off := h.off) (more := h.mf) (most := 65515) H6s hno (by decide) (by decide) hSl).mono ?_
    rintro _ w7 ⟨r', g, hout, H7⟩
    have H7 := (turn H7).tail
    have dropC : ∀ {Δ Δ' : List Fct} {a : Fct} {w' : World}, Sep (a :: (Δ ++ Δ')) w' → Sep (a :: Δ) w' := fun H => H.sub (.cons_cons _ (List.sublist_append_left _ _))
    rcases hout with ⟨hrf, hs', rfl⟩ | ⟨hrf, hs', hro', rfl⟩
    · refine onRet_at (LaidV.of ⟨some ⟨g, 0, none⟩, true, FitV.z, false⟩ ⟨_, rfl, after4 H7 fun g4 w8 H8 => ?_⟩)
      have hcode : layErr (refusedS (HolS.start 65515) h.off d.length h.mf) ≠ 0 := by unfold layErr; split <;> omega
      have : verdict4 ⟨some ⟨g, 0, none⟩, true, FitV.z, false⟩ (layErr (refusedS (HolS.start 65515) h.off d.length h.mf)) = layErr (refusedS (HolS.start 65515) h.off d.length h.mf) := by unfold verdict4; rw [if_neg hcode]
      rw [this]
      exact err127 H8 hcode fun w' H9 => ⟨T, _, 0, _, rfl, .nrefused hno hrf, dropC H9.tail⟩
    · refine onRet_at (LaidV.of ⟨some ⟨g, 0, none⟩, true, fitS (HolS.start 65515) h.off d h.mf, endS (HolS.start 65515) h.off d h.mf⟩ ⟨_, rfl, after4 H7 fun g4 w8 H8 => ?_⟩)
      by_cases hd : dup4 (HolS.start 65515) h.off d h.mf
      · have : verdict4 ⟨some ⟨g, 0, none⟩, true, fitS (HolS.start 65515) h.off d h.mf, endS (HolS.start 65515) h.off d h.mf⟩ 0 = 121 := by unfold verdict4; exact (if_pos rfl).trans (if_pos (show _ ∧ _ from hd))
        rw [this]
        exact err127 H8 (by decide) fun w' H9 => ⟨T, _, 0, _, rfl, .ndup hno hrf hd, dropC H9.tail⟩
      · have : verdict4 ⟨some ⟨g, 0, none⟩, true, fitS (HolS.start 65515) h.off d h.mf, endS (HolS.start 65515) h.off d h.mf⟩ 0 = 0 := by unfold verdict4; exact (if_pos rfl).trans (if_neg (show ¬ (_ ∧ _) from hd))
        rw [this]
        unfold reasm_Table_Offer4_J127
        refine JoinVC.of (fun s w' => reasm_Table_Offer4_J255 _ g1 g2 g4 s w') ?_ fun _ _ h => h
        refine Br.t rfl (LaidV.of ⟨some ⟨g, 0, none⟩, true, fitS (HolS.start 65515) h.off d h.mf, endS (HolS.start 65515) h.off d h.mf⟩ ⟨H8.at 0 rfl, ?_⟩)
        refine (hold_new (T := T) (c := newC g (key4 h) T.ticks r') (p := ⟨some ⟨g, 0, none⟩, true, fitS (HolS.start 65515) h.off d h.mf, endS (HolS.start 65515) h.off d h.mf⟩) (H8.sub (List.sublist_append_right [_, _, _, _] _)) hT hno hb (by show (0 : Int) ≤ 0 ∧ (0 : Int) ≤ 1024; omega) rfl rfl).mono ?_
        rintro _ w9 (⟨hfull, rfl, H9⟩ | ⟨T1, hT1, rfl, H9⟩)
        · have H9 := Sep.turn (Γ := [_, _, _, _]) H8 H9
          refine ⟨_, rfl, err255 H9 (by decide) fun w' H10 => ⟨T, _, 0, 120, rfl, .nfull hno hrf hd hfull, H10.tail⟩⟩
        · have H9 := Sep.turn (Γ := [_, _, _, _]) H8 H9
          refine ⟨_, rfl, ?_⟩
          have hjn : (T1.join (newC g (key4 h) T.ticks r')).cs[T1.cs.length]? = some (joinC T1 (newC g (key4 h) T.ticks r')) := by
            show (T1.cs ++ [_])[T1.cs.length]? = _
            rw [List.getElem?_append_right (Nat.le_refl _)]
            simp [joinC]
          refine tail4 (p := ⟨some ⟨g, 0, none⟩, true, fitS (HolS.start 65515) h.off d h.mf, endS (HolS.start 65515) h.off d h.mf⟩) (T := T1.join (newC g (key4 h) T.ticks r')) (c := joinC T1 (newC g (key4 h) T.ticks r')) (r := r') (h := h) (os := os) (data := d) (Sep.perm H9 ?_) hjn (CtxOk.fresh hro') rfl hro' rfl hA (by show (1 : Int) ≤ 0 + 1; omega) fun T' o e w' res ht Hw => ⟨T', res, o, e, rfl, .nheld T1 g r' T' o e hno hrf hs' hro' hd hT1 ht, Hw⟩
          exact perm_cn fun c o h1 h2 h3 => by simp only [h1, h2, h3]; omega
end
end N6
end Go.Proofs.YthhgbpmihhljdaaDoor
/- Chapter 12: a datagram out of its first fragment and all the bytes. -/
namespace Go.Eng
open Go Go.RowKit
/-- append behind a row that is full, of elements of any size. -/
theorem AppVC.fullR {P : Program} {w : World} {e n size : Nat} {A A' : Option Addr} {xs : List Value} {t ty : TypeId} {z : Value} {bytes : Nat} (ht : P.underlying t = some (.slice e)) (hi : TypeIs P e z size bytes) (hzs : z.cells.size = size) (hsz : 0 < size)
    {m c' : Nat} {news : List Value} {F : Option Addr → Nat → Nat → World → Prop}
    (hd : Cells w A xs) (hl : xs.length = n * size) (hsrc : Cells w A' news) (hm : news.length = m * size) (h1 : ∀ u ∈ news, u.oneCell' = true) (hbytes : (n + m) * bytes ≤ 140737488355328) (hb0 : 0 < bytes)
    (h0' : m = 0 → F A n n w) (h : ∀ A2 c2 w', 0 < m → w'.ownsRow w.heap.size e size (.slice A2 (n + m) c2) (n + m) (xs ++ news) → Ext w w' → F A2 (n + m) c2 w') :
    AppVC P #[t, t] ty (.slice A n n) (.slice A' m c') w F := by
  rcases Nat.eq_zero_or_pos m with rfl | h0
  · have hnil : news = [] := List.length_eq_zero_iff.1 (by omega)
    subst hnil
    obtain ⟨i, hi, hz, hs, hy⟩ := hi
    have hrun : (Builtin.append_ #[t, t] ty #[.slice A n n, .slice A' 0 c']).run P w = .ok (.slice A n n) w := by
      cases A' <;> cases A <;> simp [Builtin.append_, run_underlying ht, sizeOf, typeInfo, hi, Builtin.lenOf, Builtin.firstCells, storeCells, loadCells, loadCellsFrom]
    exact ⟨A, n, n, w, hrun, h0' rfl⟩
  · rcases A with _ | a
    · have hx : xs = [] := by
        rcases xs with _ | ⟨u, r⟩
        · rfl
        · obtain ⟨_, ha, _⟩ := hd 0 u rfl
          cases ha
      subst hx
      have hn0 : n = 0 := by
        rcases Nat.mul_eq_zero.1 (by simpa using hl.symm : n * size = 0) with h | h <;> omega
      subst hn0
      refine AppVC.rec (base := w.heap.size) (xs := []) ht hi hzs hsz (World.ownsRow_nil _ _ _ _) hsrc hm h1 hbytes hb0 (Nat.le_refl _) fun A2 c2 w2 hown hm2 hc _ => ?_
      exact h A2 c2 w2 h0 hown (hm2.mono fun k hk e => by simp [Value.ownBlock] at e)
    · obtain ⟨i, hi, hz, hs, hy⟩ := hi
      have h63 : n + m ≤ maxLen := by
        have : (n + m) * 1 ≤ (n + m) * bytes := Nat.mul_le_mul_left _ hb0
        simp only [maxLen]; omega
      obtain ⟨b, hb, _⟩ := hsrc.at (i := 0) (by rw [hm]; exact Nat.mul_pos h0 hsz)
      subst hb
      obtain ⟨v', w', hr, ho, hg⟩ := run_append_arg_grows (P := P) (w := w) t ty e i z size bytes ht hi hz hs hy hzs hsz a n n xs hl
        (fun j u hu => by obtain ⟨a', ha, hc⟩ := hd j u hu; cases ha; exact hc) b m c' news hm
        (fun j u hu => by obtain ⟨b', ha, hc⟩ := hsrc j u hu; cases ha; exact hc) (by omega) h63 hbytes
      obtain ⟨A2, c2, rfl, hc2, _⟩ := own_form ho
      exact ⟨A2, n + m, c2, w', hr, h A2 c2 w' h0 ho ((Mod.grown hg).mono fun k hk e => by cases e)⟩
end Go.Eng
namespace Go.Proofs.YthhgbpmihhljdaaDoor
namespace N6
open Go Go.Eng Go.RowKit
section
variable {w : World} {s : Sl} {l : List Int}
theorem exts_cells {s : Sl} {rs : List ExtR} (h : ExtsAt w s rs) : Cells w s.A (rs.map fun r => r.v.cells).flatten := Recs.cells (size := 3) (fun r hr => by
  obtain ⟨x, _, rfl⟩ := List.mem_map.1 hr; rfl) h.recs
theorem exts_len (rs : List ExtR) : (rs.map fun r => r.v.cells).flatten.length = rs.length * 3 := by
  induction rs with
  | nil => rfl
  | cons x l ih => simp only [List.map_cons, List.flatten_cons, List.length_append, ih, List.length_cons]; show 3 + _ = _; omega
theorem ser6_few {d : Ip6D} (h : (ser6S d).2 = 0) : d.exts.length ≤ 8 := by
  obtain ⟨h1, _⟩ | ⟨_, _, h3, _, h5, h6⟩ := ser6S_cases d
  · exact absurd h h1
  · unfold headersS at h3
    split at h3
    · cases h3
    · omega
/-- The datagram that is joined. -/
def joinD (d : Ip6D) (l : List Int) : Ip6D := { d with exts := d.exts ++ (chained d.next l).1, frag := FragV.z, next := (chained d.next l).2.1, data := (chained d.next l).2.2.1 }
def joinOk (d : Ip6D) (l : List Int) : Bool := decide ((chained d.next l).2.2.2 = 0 ∧ (ser6S (joinD d l)).2 = 0)
set_option maxHeartbeats 2000000 in
theorem joined_spec {h : Ip6V} {es : List ExtR} (hX : ExtsAt w h.exts es) (hfew : es.length ≤ 1000) (hs1 : Bts h.src.bytes) (hs2 : Bts h.dst.bytes) (hB : BytesAt w s l) (hK : Kn w) (d0 : List Int) : Calls Tryd.prog 21 #[h.val, s.val] w fun e w' => ∃ (Δ : List Fct) (res : Ip6V), Sep (Fct.rest w None :: Δ) w' ∧
    e = .returned (.tuple #[res.val, .bool (joinOk (h.d es d0) l)]) ∧ (joinOk (h.d es d0) l = true → ∃ es' data', res.d es' data' = joinD (h.d es d0) l ∧ ∀ w'', (∀ f ∈ Δ, f.φ w'') → ExtsAt w'' h.exts es → BytesAt w'' s l → Ip6At w'' res es' data') := by
  refine reasm_joined_of h s.A s.n s.k w _ ?_
  unfold reasm_joined_VC
  refine NewVC.sep (Sep.start0 w) fun g1 w1 H => NewVC.sep H fun g2 w2 H => ⟨_, (H.blk 1 rfl).cell 42, ?_⟩
  refine (chain_spec (hB.ext (H.restOf 0 rfl)) (hK.ext (H.restOf 0 rfl))).mono ?_
  rintro _ w3 ⟨se, sd, xs, H', hn, hm⟩
  have H := H.mades H'
  cases hp : chainS h.next l with
  | error er =>
    rw [hp] at hm
    obtain ⟨rfl, rfl, rfl, rfl, he⟩ := hm
    have hj : joinOk (h.d es d0) l = false := decide_eq_false fun hh => by
      have h1 := hh.1
      unfold chained at h1
      rw [show (h.d es d0).next = h.next from rfl, hp] at h1
      exact he h1
    refine ⟨none, 0, 0, _, none, 0, 0, _, rfl, Br.t (decide_eq_true he) ?_⟩
    refine Stores.sep H 2 rfl (Ip6V.one _) (Nat.le_refl _) (splice_all rfl) fun w4 H => Ip6V.of Ip6V.z ⟨H.at 2 rfl, _, Ip6V.z, H.take 1, by rw [hj], fun hh => by rw [hj] at hh; cases hh⟩
  | ok t =>
    rw [hp] at hm
    obtain ⟨rfl, hA, rfl⟩ := hm
    have hp' : walkS l h.next true = .ok t ∧ (0 ≤ h.next ∧ h.next ≤ 255) := by
      unfold chainS at hp
      split at hp
      · cases hp
      · split at hp
        · cases hp
        · exact ⟨hp, by omega⟩
    obtain ⟨i1, i2, i3, i4⟩ := walkS_inside hB.bts hp'.2 hp'.1
    have hal := hA.len
    have hch : chained (h.d es d0).next l = (t.exts.map (EP.d l), t.next, l.drop t.p, 0) := by
      unfold chained
      rw [show (h.d es d0).next = h.next from rfl, hp]
    refine ⟨se.A, se.n, se.k, _, _, _, _, _, rfl, Br.f rfl ?_⟩
    have hlen := hX.len
    have hsm := hX.small
    have hcap := hX.cap
    refine ⟨h.exts.A, h.exts.n, h.exts.k, (H.blk 1 rfl).cell 37, h.exts.A, h.exts.n, h.exts.k, (H.blk 1 rfl).cell 37, h.exts.A, h.exts.n, h.exts.k, (H.blk 1 rfl).cell 37, ?_⟩
    refine ⟨by omega, by omega, by omega, ?_⟩
    rw [Int.toNat_natCast]
    have hseAt : ∀ w', (∀ f ∈ readX w2.heap.size se xs, f.φ w') → BytesAt w' s l → ExtsAt w' se xs := fun w' hf hB => extsAt_read (b := w2.heap.size) hf hB hA i1 hn.symm (by omega)
    have hX3 := hX.ext (H.restOf 0 rfl)
    have hse3 := hseAt w3 (fun f hf => H.mem (List.mem_append_right _ hf)) (hB.ext (H.restOf 0 rfl))
    have rest : ∀ (Δ : List Fct) (A2 : Option Addr) (c2 : Nat) (w4 : World), Sep (([Fct.rest w None, Fct.blk g1 43 h.cells, Fct.blk g2 43 (Ip6V.z : Ip6V).cells] ++ readX w2.heap.size se xs) ++ Δ) w4 →
        (∀ w', (∀ f ∈ readX w2.heap.size se xs ++ Δ, f.φ w') → ExtsAt w' h.exts es → BytesAt w' s l → ExtsAt w' ⟨A2, h.exts.n + se.n, c2⟩ (es ++ xs)) → SetVC w4 ⟨g1, 37, none⟩ (.slice A2 (h.exts.n + se.n) c2) fun w6 =>
        Stores ⟨g1, 38, none⟩ 0 (FragV.z : FragV).cells w6 fun w7 =>
        SetVC w7 ⟨g1, 42, none⟩ (.int .i64 t.next) fun w8 =>
        SetVC w8 ⟨g1, 43, none⟩ (winSl s t.p (l.length - t.p)).val fun w9 =>
        DrawVC w9 fun S1 w10 =>
        Ip6V.ex fun h1 => (∀ w' : World, S1 w' → CellsAt w' ⟨g1, 0, none⟩ 0 h1.cells) ∧
        Ip6V.ex fun h2 => (∀ w' : World, S1 w' → CellsAt w' ⟨g1, 0, none⟩ 0 h2.cells) ∧
        Calls Tryd.prog 19 #[h2.val] w10 (onRet (fun r_1 w11 => ∃ x2 : Int, r_1 = .int .i64 x2 ∧
        S1 w11 ∧
        Stores ⟨g2, 0, none⟩ 0 h1.cells w11 fun w12 =>
        S1 w12 ∧
        Ip6V.ex fun res1 => CellsAt w12 ⟨g2, 0, none⟩ 0 res1.cells ∧
        (∃ (Δ : List Fct) (res : Ip6V), Sep (Fct.rest w None :: Δ) w12 ∧ Ending.returned (.tuple #[res1.val, .bool (decide (x2 = 0))]) = .returned (.tuple #[res.val, .bool (joinOk (h.d es d0) l)]) ∧ (joinOk (h.d es d0) l = true → ∃ es' data', res.d es' data' = joinD (h.d es d0) l ∧ ∀ w'', (∀ f ∈ Δ, f.φ w'') → ExtsAt w'' h.exts es → BytesAt w'' s l → Ip6At w'' res es' data')))
          (fun _ _ => False)) := by
      intro Δ A2 c2 w4 H hat
      rw [List.append_assoc] at H
      refine SetVC.sep H 1 (k := 37) rfl (show 37 < 44 by decide) fun w5 H => Stores.sep (o := 38) H 1 (cs' := Ip6V.cells { h with exts := ⟨A2, h.exts.n + se.n, c2⟩, frag := FragV.z }) rfl (FragV.one _) (show 38 + 4 ≤ 44 by decide) rfl fun w6 H => ?_
      refine SetVC.sep H 1 (k := 42) rfl (show 42 < 44 by decide) fun w7 H => SetVC.sep H 1 (k := 43) rfl (show 43 < 44 by decide) fun w8 H => ?_
      refine DrawVC.sep H (fun w' => Blk w' g1 43 (Ip6V.cells { h with exts := ⟨A2, h.exts.n + se.n, c2⟩, frag := FragV.z, next := t.next, data := winSl s t.p (l.length - t.p) })) fun w9 H => ⟨H.blk 1 rfl, ?_⟩
      have hAt : ∀ w', (∀ f ∈ readX w2.heap.size se xs ++ Δ, f.φ w') → ExtsAt w' h.exts es → BytesAt w' s l →
          Ip6At w' { h with exts := ⟨A2, h.exts.n + se.n, c2⟩, frag := FragV.z, next := t.next, data := winSl s t.p (l.length - t.p) } (es ++ xs) (l.drop t.p) := fun w' hf hX hB => by
        refine ⟨hat w' hf hX hB, ?_, hs1, hs2⟩
        have := hB.win (p := t.p) (n := l.length - t.p) (by omega)
        rw [bpart_end i2] at this
        exact this
      have hd : Ip6V.d { h with exts := ⟨A2, h.exts.n + se.n, c2⟩, frag := FragV.z, next := t.next, data := winSl s t.p (l.length - t.p) } (es ++ xs) (l.drop t.p) = joinD (h.d es d0) l := by
        unfold joinD
        rw [hch]
        unfold Ip6V.d
        rw [List.map_append, hA.map_eq fun x r h => h.d]
      refine Ip6V.of { h with exts := ⟨A2, h.exts.n + se.n, c2⟩, frag := FragV.z, next := t.next, data := winSl s t.p (l.length - t.p) } ⟨fun w' hb => CellsAt.blk hb, Ip6V.of { h with exts := ⟨A2, h.exts.n + se.n, c2⟩, frag := FragV.z, next := t.next, data := winSl s t.p (l.length - t.p) } ⟨fun w' hb => CellsAt.blk hb, ?_⟩⟩
      refine (check6_spec (hAt w9 (fun f hf => H.mem (show f ∈ _ :: _ :: _ :: (readX w2.heap.size se xs ++ Δ) from .tail _ (.tail _ (.tail _ hf)))) (hX.ext (H.restOf 0 rfl)) (hB.ext (H.restOf 0 rfl))) (hK.ext (H.restOf 0 rfl))).mono ?_
      rintro _ w10 ⟨hE, rfl⟩
      have H := H.ext hE
      refine ⟨_, rfl, H.blk 1 rfl, Stores.sep H 2 rfl (Ip6V.one _) (Nat.le_refl _) (splice_all rfl) fun w11 H => ⟨H.blk 1 rfl, Ip6V.of _ ⟨H.at 2 rfl, _, _, H.sub (.cons_cons _ (.cons _ (.cons _ (List.Sublist.refl _)))), ?_, fun _ => ⟨_, _, hd, hAt⟩⟩⟩⟩
      rw [hd]
      unfold joinOk
      rw [hch]
      simp
    refine AppVC.fullR Tryd.underlying39 tE rfl (by decide) (exts_cells hX3) (by rw [exts_len, hlen]) (exts_cells hse3) (by rw [exts_len, hn]) (fun u hu => by
      obtain ⟨cs, hcs, hu⟩ := List.mem_flatten.1 hu
      obtain ⟨r, _, rfl⟩ := List.mem_map.1 hcs
      exact r.v.one u hu) (by omega) (by decide) (fun h0 => ?_) fun A2 c2 w4 hpos ho hE4 => ?_
    · have hxn : xs = [] := List.length_eq_zero_iff.1 (by omega)
      have h := rest [] h.exts.A h.exts.n w3 (by rw [List.append_nil]; exact H) fun w' _ hh _ => by
        rw [hxn, List.append_nil, h0, Nat.add_zero]
        exact ⟨hh.len, Nat.le_refl _, hh.small, hh.recs, hh.opts, hh.data⟩
      rw [h0, Nat.add_zero] at h
      exact h
    · refine rest _ A2 c2 w4 (H.pushOwn hE4 ho (Nat.le_refl _)) fun w' hf hX8 hB8 => ?_
      have hse8 := hseAt w' (fun f h => hf f (List.mem_append_left _ h)) hB8
      have ho8 : w'.ownsRow w3.heap.size 115 3 (.slice A2 (h.exts.n + se.n) c2) (h.exts.n + se.n) _ := hf _ (List.mem_append_right _ (List.mem_singleton.2 rfl))
      refine ⟨by rw [List.length_append]; show _ = h.exts.n + se.n; omega, own_le (s := ⟨A2, h.exts.n + se.n, c2⟩) ho8, by show h.exts.n + se.n ≤ 4000000; omega, Recs.of_cells (by decide) (fun r hr => ?_) ?_, fun r hr => ?_, fun r hr => ?_⟩
      · obtain ⟨x, _, rfl⟩ := List.mem_map.1 hr; rfl
      · rw [List.map_append, List.flatten_append]
        exact own_cells (c := c2) ho8
      · rcases List.mem_append.1 hr with hr | hr
        · exact hX8.opts r hr
        · exact hse8.opts r hr
      · rcases List.mem_append.1 hr with hr | hr
        · exact hX8.data r hr
        · exact hse8.data r hr
end
end N6
end Go.Proofs.YthhgbpmihhljdaaDoor
