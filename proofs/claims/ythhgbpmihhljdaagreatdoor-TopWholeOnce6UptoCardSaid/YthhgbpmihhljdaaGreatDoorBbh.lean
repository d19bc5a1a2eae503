/- Chapter 12: a piece is held. -/
import Derived.Test.YthhgbpmihhljdaaGreatDoorBbg
import Derived.Test.YthhgbpmihhljdaaGreatDoorBbc
import Derived.Test.YthhgbpmihhljdaaGreatDoorBaw
import Derived.Test.YthhgbpmihhljdaaGreatDoorBbe
namespace Go.Proofs.YthhgbpmihhljdaaGreatDoor
namespace N6
open Go Go.Eng Go.RowKit
/-- A new context joins. -/
def TabR.join (T : TabR) (c : CtxR) : TabR := { T with begun := T.begun + 1, cs := T.cs ++ [{ c with v := { c.v with began := T.begun, frags := c.v.frags + 1 } }] }
section
variable {w : World} {T : TabR} {p : LaidV} {j : Nat} {c : CtxR}
set_option maxHeartbeats 1000000 in
theorem hold_old (H : Sep (tabFs T) w) (hj : T.cs[j]? = some c) (hf : 0 ≤ c.v.frags ∧ c.v.frags ≤ 1024) (hp : p.c = some ⟨c.g, 0, none⟩) (hn : p.fresh = false) :
    Calls Tryz.prog 31 #[T.p, p.val] w fun e w' => e = .returned (.int .i64 0) ∧ Sep (Fct.rest w (Blocks (tabFs T)) :: tabFs (T.upd j { c with v := { c.v with frags := c.v.frags + 1 } })) w' := by
  refine reasm_Table_hold_of _ p w _ ?_
  unfold reasm_Table_hold_VC
  have H0 : Sep (Fct.rest w (Blocks (tabFs T)) :: (tabRest T j ++ ctxFs c)) w := H.begins.perm ((tab_focus hj).symm.cons _)
  generalize Blocks (tabFs T) = B at H0 ⊢
  obtain ⟨rows, hrows⟩ : ∃ rows, holOFs c.hole ++ (rows4 c.v.h4 c.os c.d4 ++ rows6 c.v.h6 c.es c.d6) = rows := ⟨_, rfl⟩
  have e0 : ctxFs c = ctxB c.g c.v :: rows := by rw [← hrows]; rfl
  have e1 : ctxFs { c with v := { c.v with frags := c.v.frags + 1 } } = ctxB c.g { c.v with frags := c.v.frags + 1 } :: rows := by rw [← hrows]; rfl
  have key : ∀ (a d : Fct) (l : List Fct), (a :: d :: (l ++ rows)).Perm (d :: (l ++ (a :: rows))) := fun a d l => perm_cn fun c o h1 h2 h3 => by simp only [h1, h2]; omega
  rw [e0] at H0
  refine NewVC.sep (H0.perm (key _ _ _)) fun g1 w1 H1 => ?_
  have H1 := H1.front
  refine ⟨_, (H1.blk 0 rfl).cell 1, ?_⟩
  rw [hn]
  refine Br.f rfl ⟨some ⟨c.g, 0, none⟩, by rw [← hp]; exact (H1.blk 0 rfl).cell 0, _, rfl, c.v.frags, (H1.blk 1 rfl).cell 41, _, rfl, SetVC.sep H1 1 (k := 41) rfl (show 41 < 130 by decide) fun w2 H2 => ⟨rfl, ?_⟩⟩
  refine Sep.perm ?_ ((tab_unfocus (T := T) (c' := { c with v := { c.v with frags := c.v.frags + 1 } }) hj rfl rfl).cons _)
  rw [e1]
  refine Sep.perm ?_ (key _ _ _).symm
  rw [show c.v.frags + 1 = IntKind.i64.wrap (c.v.frags + 1) from (w64 (by omega) (by omega)).symm]
  exact H2.tail
theorem join_fs (T : TabR) (c : CtxR) : tabFs (T.join c) = Fct.blk T.g 71 (TabR.cells { T with begun := T.begun + 1 }) :: Fct.mp T.m (kvs KeyV.val ((T.cs ++ [c]).map ck)) ::
    (T.cs.flatMap ctxFs ++ (ctxB c.g { c.v with began := T.begun, frags := c.v.frags + 1 } :: (holOFs c.hole ++ (rows4 c.v.h4 c.os c.d4 ++ rows6 c.v.h6 c.es c.d6)))) := by
  unfold tabFs
  have e1 : (T.join c).cs = T.cs ++ [{ c with v := { c.v with began := T.begun, frags := c.v.frags + 1 } }] := rfl
  have e2 : (T.cs ++ [({ c with v := { c.v with began := T.begun, frags := c.v.frags + 1 } } : CtxR)]).map ck = (T.cs ++ [c]).map ck := by rw [List.map_append, List.map_append]; rfl
  unfold tabM
  rw [e1, List.flatMap_append, e2]
  simp only [List.flatMap_cons, List.flatMap_nil, List.append_nil]
  rfl
set_option maxHeartbeats 2000000 in
theorem hold_new (H : Sep (tabFs T ++ ctxFs c) w) (hT : TabOk T) (hno : ∀ x ∈ T.cs, x.v.key ≠ c.v.key) (hb : T.begun ≤ 4611686018427387904) (hf : 0 ≤ c.v.frags ∧ c.v.frags ≤ 1024) (hp : p.c = some ⟨c.g, 0, none⟩) (hn : p.fresh = true) :
    Calls Tryz.prog 31 #[T.p, p.val] w fun e w' =>
      (¬ (T.cs.length : Int) < T.max ∧ e = .returned (.int .i64 120) ∧ Sep (Fct.rest w (Blocks (tabFs T ++ ctxFs c)) :: tabFs T) w') ∨
      ∃ T1 : TabR, ((T.cs.length : Int) < T.max ∧ T1 = T ∨ ¬ (T.cs.length : Int) < T.max ∧ ∃ j x, T.cs[j]? = some x ∧ T1 = { T with cs := T.cs.eraseIdx j }) ∧ e = .returned (.int .i64 0) ∧
        Sep (Fct.rest w (Blocks (tabFs T ++ ctxFs c)) :: tabFs (T1.join c)) w' := by
  refine reasm_Table_hold_of _ p w _ ?_
  unfold reasm_Table_hold_VC
  have H0 := H.begins
  have hb0 := hT.b1
  generalize Blocks (tabFs T ++ ctxFs c) = B at H0 ⊢
  obtain ⟨rows, hrows⟩ : ∃ rows, holOFs c.hole ++ (rows4 c.v.h4 c.os c.d4 ++ rows6 c.v.h6 c.es c.d6) = rows := ⟨_, rfl⟩
  have e0 : ctxFs c = ctxB c.g c.v :: rows := by rw [← hrows]; rfl
  rw [e0] at H0
  refine NewVC.sep H0 fun g1 w1 H1 => ?_
  have H1 := H1.front
  refine ⟨_, (H1.blk 0 rfl).cell 1, ?_⟩
  rw [hn]
  have key : ∀ (Δ : List Fct) (a b d : Fct), (([a, b, d] ++ rows) ++ Δ).Perm (a :: b :: (Δ ++ (d :: rows))) := fun Δ a b d => perm_cn fun c o h1 h2 h3 => by simp only [h1, h2, h3]; omega
  have H1' := H1.perm (key _ _ _ _)
  refine Br.t rfl ((room_spec (H1'.sub (List.sublist_append_right _ _)) hT hb).mono ?_)
  intro e w2 hroom
  have hr : (¬ (T.cs.length : Int) < T.max ∧ e = .returned (.int .i64 120) ∧ Sep (Fct.rest w1 (Blocks (tabFs T)) :: tabFs T) w2) ∨
      ∃ T1 : TabR, ((T.cs.length : Int) < T.max ∧ T1 = T ∨ ¬ (T.cs.length : Int) < T.max ∧ ∃ j x, T.cs[j]? = some x ∧ T1 = { T with cs := T.cs.eraseIdx j }) ∧ (∀ x ∈ T1.cs, x.v.key ≠ c.v.key) ∧ T1.begun = T.begun ∧ T1.g = T.g ∧ T1.m = T.m ∧
        e = .returned (.int .i64 0) ∧ Sep (Fct.rest w1 (Blocks (tabFs T)) :: tabFs T1) w2 := by
    rcases hroom with ⟨h1, h2, h3⟩ | ⟨h1, ⟨h2, h3⟩ | ⟨j, x, hx, h2, h3⟩⟩
    · exact .inr ⟨T, .inl ⟨h1, rfl⟩, hno, rfl, rfl, rfl, h2, h3⟩
    · exact .inl ⟨h1, h2, h3⟩
    · exact .inr ⟨_, .inr ⟨h1, j, x, hx, rfl⟩, fun y hy => hno y (List.mem_of_mem_eraseIdx hy), rfl, rfl, rfl, h2, h3⟩
  rcases hr with ⟨h1, rfl, H2⟩ | ⟨T1, hT1, hno, hbe, hg, hm, rfl, H2⟩
  · have H2 : Sep (([Fct.blk g1 86 p.cells, Fct.rest w B, ctxB c.g c.v] ++ rows) ++ tabFs T) w2 := Sep.turn H1' H2
    refine ⟨_, rfl, Br.t rfl (.inl ⟨h1, rfl, ?_⟩)⟩
    exact H2.sub (.cons _ (.cons_cons _ (.cons _ (List.sublist_append_right _ _))))
  · refine ⟨_, rfl, Br.f rfl ?_⟩
    have H2 : Sep (([Fct.blk g1 86 p.cells, Fct.rest w B, ctxB c.g c.v] ++ rows) ++ tabFs T1) w2 := Sep.turn H1' H2
    obtain ⟨rs, hrs⟩ : ∃ rs, T1.cs.flatMap ctxFs = rs := ⟨_, rfl⟩
    have e2 : tabFs T1 = tabB T1 :: tabM T1 :: rs := by rw [← hrs]; rfl
    rw [e2] at H2
    have key2 : ∀ (a b d e f : Fct), ([a, b, d, e, f] ++ (rs ++ rows)).Perm (([a, b, d] ++ rows) ++ e :: f :: rs) := fun a b d e f => perm_cn fun c o h1 h2 h3 => by simp only [h1, h2, h3]; omega
    have H2 := H2.perm (key2 _ _ _ _ _)
    rw [← hg]
    refine DrawVC.sep H2 (fun w' => Blk w' g1 86 p.cells ∧ Blk w' T1.g 71 T1.cells) fun w3 H3 => ⟨⟨H3.blk 0 rfl, H3.blk 3 rfl⟩, ?_⟩
    refine ⟨some ⟨c.g, 0, none⟩, fun w' hb => by rw [← hp]; exact hb.1.cell 0, _, rfl, _, fun w' hb => hb.2.cell 2, _, rfl, ?_⟩
    refine SetVC.sep H3 2 (k := 36) rfl (show 36 < 130 by decide) fun w4 H4 => ⟨_, rfl, T1.begun, (H4.blk 3 rfl).cell 2, _, rfl, SetVC.sep H4 3 (k := 2) rfl (show 2 < 4 by decide) fun w5 H5 => ?_⟩
    refine DrawVC.sep H5 (fun w' => Blk w' g1 86 p.cells ∧ Blk w' T1.g 71 (TabR.cells { T1 with begun := T1.begun + 1 }) ∧ Blk w' c.g 81 ({ c.v with began := T1.begun } : CtxV).cells) fun w6 H6 => ?_
    have H6 : Sep ([Fct.blk g1 86 p.cells, Fct.rest w B, ctxB c.g { c.v with began := T1.begun }, Fct.blk T1.g 71 (TabR.cells { T1 with begun := T1.begun + 1 }), tabM T1] ++ (rs ++ rows)) w6 := by
      have : IntKind.i64.wrap (T1.begun + 1) = T1.begun + 1 := w64 (by omega) (by omega)
      rw [this] at H6
      exact H6
    refine ⟨⟨H6.blk 0 rfl, H6.blk 3 rfl, H6.blk 2 rfl⟩, _, rfl, _, fun w' hb => hb.2.1.cell 3, some ⟨c.g, 0, none⟩, fun w' hb => by rw [← hp]; exact hb.1.cell 0, _, rfl, KeyV.of c.v.key ⟨fun w' hb => ctx_key (v := { c.v with began := T1.begun }) hb.2.2, some ⟨c.g, 0, none⟩, fun w' hb => by rw [← hp]; exact hb.1.cell 0, ?_⟩⟩
    refine MapSetVC.sep H6 4 keyv_key Tryz.underlying69 rfl c.v.key _ fun w7 H7 => ?_
    rw [set_ck hno] at H7
    refine ⟨some ⟨c.g, 0, none⟩, by rw [← hp]; exact (H7.blk 0 rfl).cell 0, _, rfl, c.v.frags, (H7.blk 2 rfl).cell 41, _, rfl, SetVC.sep H7 2 (k := 41) rfl (show 41 < 130 by decide) fun w8 H8 => ?_⟩
    refine .inr ⟨T1, by rw [hg]; exact hT1, rfl, ?_⟩
    rw [join_fs, hrows, hrs]
    have H8 := H8.tail
    have H8 : Sep (Fct.rest w B :: ctxB c.g { c.v with began := T1.begun, frags := c.v.frags + 1 } :: Fct.blk T1.g 71 (TabR.cells { T1 with begun := T1.begun + 1 }) :: Fct.mp T1.m (kvs KeyV.val ((T1.cs ++ [c]).map ck)) :: (rs ++ rows)) w8 := by
      rw [show c.v.frags + 1 = IntKind.i64.wrap (c.v.frags + 1) from (w64 (by omega) (by omega)).symm]
      exact H8
    exact H8.perm (perm_cn fun c o h1 h2 h3 => by simp only [h1, h2]; omega)
end
end N6
end Go.Proofs.YthhgbpmihhljdaaGreatDoor
/- Chapter 12: Offer4 behind a piece that was held. -/
namespace Go.Proofs.YthhgbpmihhljdaaGreatDoor
namespace N6
open Go Go.Eng Go.RowKit
theorem onRet_at {A : Value → World → Prop} {Q : List PanicEntry → World → Prop} {v : Value} {w' : World} (h : A v w') : onRet A Q (.returned v) w' := h
/-- The first fragment is noted. -/
inductive First4 (h : Ip4V) (os : List OptR) (data : List Int) (c : CtxR) : CtxR → Prop
  | yes (so sd : Sl) (os' : List OptR) : h.off = 0 → c.v.first = false → os'.map OptR.d = os.map OptR.d → OptsFine so os' → BFine sd data → First4 h os data c { c with v := { c.v with first := true, h4 := Ip4V.with_ h so sd }, os := os', d4 := data }
  | no : ¬ (h.off = 0 ∧ c.v.first = false) → First4 h os data c c
/-- What comes of a piece that was held. -/
inductive Tail4 (T : TabR) (j : Nat) (c : CtxR) (r : HolR) (h : Ip4V) (os : List OptR) (data : List Int) : TabR → Int → Int → Prop
  | part (c1 : CtxR) : First4 h os data c c1 → ¬ (0 ≤ r.s.fin ∧ r.s.gaps = []) → Tail4 T j c r h os data (T.upd j c1) 2 0
  | spoil (c1 : CtxR) : First4 h os data c c1 → 0 ≤ r.s.fin ∧ r.s.gaps = [] → Tail4 T j c r h os data (T.upd j (c1.shut 2 123 (c1.v.frags - 1))) 0 123
  | whole (c1 : CtxR) : First4 h os data c c1 → 0 ≤ r.s.fin ∧ r.s.gaps = [] → Tail4 T j c r h os data (T.upd j (c1.shut 1 c1.v.why 0)) 1 0
section
variable {w w0 : World} {T : TabR} {j : Nat} {c : CtxR} {r : HolR} {a b d e : Fct} {B : Nat → Prop}
theorem shut_fs {Δ rows : List Fct} {st why n : Int} (hj : T.cs[j]? = some c) {c1 : CtxR} (hk : c1.v.key = c.v.key) (hg : c1.g = c.g)
    (H : Sep (([a, b, d, e, ctxB c1.g (c1.shut st why n).v] ++ (tabRest T j ++ rows)) ++ Δ) w) : Sep (e :: tabFs (T.upd j (c1.shut st why n))) w := by
  refine Sep.perm ?_ ((tab_unfocus (T := T) (c' := c1.shut st why n) hj hk hg).cons _)
  have e1 : ctxFs (c1.shut st why n) = ctxB c1.g (c1.shut st why n).v :: (rows4 Ip4V.z [] [] ++ rows6 Ip6V.z [] []) := rfl
  rw [e1]
  have H := Sep.nils H
  generalize rows4 Ip4V.z [] [] ++ rows6 Ip6V.z [] [] = z at H ⊢
  exact Sep.sub (H.perm (perm_cn fun c o h1 h2 h3 => by simp only [h1, h2, h3]; omega)) (List.sublist_append_left _ ([a, b, d] ++ (rows ++ Δ)))
theorem keep_fs (hj : T.cs[j]? = some c) {c1 : CtxR} (hh : c1.hole = some r) (hk : c1.v.key = c.v.key) (hg : c1.g = c.g)
    (H : Sep (([a, b, d, e, ctxB c1.g c1.v] ++ (tabRest T j ++ (rows4 c1.v.h4 c1.os c1.d4 ++ rows6 c1.v.h6 c1.es c1.d6))) ++ holFs r) w) : Sep (e :: tabFs (T.upd j c1)) w := by
  refine Sep.perm ?_ ((tab_unfocus (T := T) (c' := c1) hj hk hg).cons _)
  have e1 : ctxFs c1 = ctxB c1.g c1.v :: (holFs r ++ (rows4 c1.v.h4 c1.os c1.d4 ++ rows6 c1.v.h6 c1.es c1.d6)) := by unfold ctxFs; rw [hh]; rfl
  rw [e1]
  generalize rows4 c1.v.h4 c1.os c1.d4 ++ rows6 c1.v.h6 c1.es c1.d6 = z at H ⊢
  exact Sep.sub (H.perm (perm_cn fun c o h1 h2 h3 => by simp only [h1, h2, h3]; omega)) (List.sublist_append_left _ [a, b, d])
theorem open_fs (hj : T.cs[j]? = some c) (hh : c.hole = some r) (H : Sep (a :: b :: d :: e :: tabFs T) w) :
    Sep (([a, b, d, e, ctxB c.g c.v] ++ (tabRest T j ++ (rows4 c.v.h4 c.os c.d4 ++ rows6 c.v.h6 c.es c.d6))) ++ holFs r) w := by
  have H := H.perm (((((tab_focus hj).symm.cons _).cons _).cons _).cons _)
  have e1 : ctxFs c = ctxB c.g c.v :: (holFs r ++ (rows4 c.v.h4 c.os c.d4 ++ rows6 c.v.h6 c.es c.d6)) := by unfold ctxFs; rw [hh]; rfl
  rw [e1] at H
  generalize rows4 c.v.h4 c.os c.d4 ++ rows6 c.v.h6 c.es c.d6 = z at H ⊢
  exact H.perm (perm_cn fun c o h1 h2 h3 => by simp only [h1, h2, h3]; omega)
theorem First4.same {h : Ip4V} {os : List OptR} {data : List Int} {c1 : CtxR} (h1 : First4 h os data c c1) : c1.hole = c.hole ∧ c1.v.key = c.v.key ∧ c1.g = c.g ∧ c1.v.holes = c.v.holes ∧ c1.v.frags = c.v.frags ∧ c1.v.state = c.v.state ∧ c1.v.why = c.v.why ∧ c1.v.left = c.v.left ∧ c1.v.began = c.v.began ∧ c1.v.h6 = c.v.h6 ∧ c1.es = c.es ∧ c1.d6 = c.d6 := by
  cases h1 <;> exact ⟨rfl, rfl, rfl, rfl, rfl, rfl, rfl, rfl, rfl, rfl, rfl, rfl⟩
theorem First4.fine {h : Ip4V} {os : List OptR} {data : List Int} {c1 : CtxR} (h1 : First4 h os data c c1) (hs : Bts h.src.bytes) (hd : Bts h.dst.bytes) (hf : Fine4 c.v.h4 c.os c.d4) : Fine4 c1.v.h4 c1.os c1.d4 := by
  cases h1 with
  | yes so sd os' _ _ _ h3 h4 => exact ⟨h3, h4, hs, hd⟩
  | no _ => exact hf
end
end N6
end Go.Proofs.YthhgbpmihhljdaaGreatDoor
/- Chapter 12: Offer4. -/
namespace Go.Proofs.YthhgbpmihhljdaaGreatDoor
namespace N6
open Go Go.Eng Go.RowKit
def key4 (h : Ip4V) : KeyV := ⟨h.src, h.dst, h.proto, h.id⟩
def holdC (c : CtxR) (r : HolR) : CtxR := { c with hole := some r, v := { c.v with frags := c.v.frags + 1 } }
def layC (c : CtxR) (r : HolR) : CtxR := { c with hole := some r }
def joinC (T : TabR) (c : CtxR) : CtxR := { c with v := { c.v with began := T.begun, frags := c.v.frags + 1 } }
def endS (s : HolS) (off : Int) (d : List Int) (more : Bool) : Bool := decide (0 ≤ (putS s off d more).fin) && !decide (0 ≤ s.fin)
def dup4 (s : HolS) (off : Int) (d : List Int) (more : Bool) : Prop := (fitS s off d more).nw = 0 ∧ endS s off d more = false
/-- A fragment's context is there and takes it. -/
structure Open (T : TabR) (k : KeyV) (done spoiled : Int) (j : Nat) (c : CtxR) (r r' : HolR) : Prop where
  at_ : T.cs[j]? = some c
  key : c.v.key = k
  rdy : readyS c.v done spoiled = 0
  hole : c.hole = some r
  ok : HolOk r.s
  g : r'.g = r.g
/-- Room for one more. -/
def Roomed (T T1 : TabR) : Prop := (T.cs.length : Int) < T.max ∧ T1 = T ∨ ¬ (T.cs.length : Int) < T.max ∧ ∃ j x, T.cs[j]? = some x ∧ T1 = { T with cs := T.cs.eraseIdx j }
/-- What Offer4 answers, and what the table is then. -/
inductive Out4 (T : TabR) (h : Ip4V) (os : List OptR) (d : List Int) : TabR → Int → Int → Prop
  | bad : check4S (h.d os d) ≠ 0 → Out4 T h os d T 0 (check4S (h.d os d))
  | whole : check4S (h.d os d) = 0 → h.mf = false → h.off = 0 → Out4 T h os d T 1 0
  | unready (j : Nat) (c : CtxR) : T.cs[j]? = some c → c.v.key = key4 h → readyS c.v 125 123 ≠ 0 → Out4 T h os d T 0 (readyS c.v 125 123)
  | refused (j : Nat) (c : CtxR) (r r' : HolR) : Open T (key4 h) 125 123 j c r r' → r'.s = r.s → refusedS r.s h.off d.length h.mf ≠ 0 → Out4 T h os d (T.upd j (layC c r')) 0 (layErr (refusedS r.s h.off d.length h.mf))
  | dup (j : Nat) (c : CtxR) (r r' : HolR) : Open T (key4 h) 125 123 j c r r' → refusedS r.s h.off d.length h.mf = 0 → r'.s = putS r.s h.off d h.mf → HolOk r'.s → dup4 r.s h.off d h.mf → Out4 T h os d (T.upd j (layC c r')) 0 121
  | held (j : Nat) (c : CtxR) (r r' : HolR) (T' : TabR) (o e : Int) : Open T (key4 h) 125 123 j c r r' → refusedS r.s h.off d.length h.mf = 0 → r'.s = putS r.s h.off d h.mf → HolOk r'.s → ¬ dup4 r.s h.off d h.mf →
      Tail4 (T.upd j (holdC c r')) j (holdC c r') r' h os d T' o e → Out4 T h os d T' o e
  | nrefused : (∀ c ∈ T.cs, c.v.key ≠ key4 h) → refusedS (HolS.start 65515) h.off d.length h.mf ≠ 0 → Out4 T h os d T 0 (layErr (refusedS (HolS.start 65515) h.off d.length h.mf))
  | ndup : (∀ c ∈ T.cs, c.v.key ≠ key4 h) → refusedS (HolS.start 65515) h.off d.length h.mf = 0 → dup4 (HolS.start 65515) h.off d h.mf → Out4 T h os d T 0 121
  | nfull : (∀ c ∈ T.cs, c.v.key ≠ key4 h) → refusedS (HolS.start 65515) h.off d.length h.mf = 0 → ¬ dup4 (HolS.start 65515) h.off d h.mf → ¬ (T.cs.length : Int) < T.max → Out4 T h os d T 0 120
  | nheld (T1 : TabR) (g : Nat) (r' : HolR) (T' : TabR) (o e : Int) : (∀ c ∈ T.cs, c.v.key ≠ key4 h) → refusedS (HolS.start 65515) h.off d.length h.mf = 0 → r'.s = putS (HolS.start 65515) h.off d h.mf → HolOk r'.s →
      ¬ dup4 (HolS.start 65515) h.off d h.mf → Roomed T T1 → Tail4 (T1.join (newC g (key4 h) T.ticks r')) T1.cs.length (joinC T1 (newC g (key4 h) T.ticks r')) r' h os d T' o e → Out4 T h os d T' o e
theorem CtxOk.hold {c : CtxR} {r r' : HolR} (h : CtxOk c) (hh : c.hole = some r) (hg : r'.g = r.g) (hk : HolOk r'.s) (hf : c.v.frags ≠ 1024) : CtxOk (holdC c r') where
  holes := by show c.v.holes = some _; rw [h.holes, hh]; show some (⟨r.g, 0, none⟩ : Addr) = some ⟨r'.g, 0, none⟩; rw [hg]
  st := h.st
  open_ := fun _ => ⟨r', rfl, hk⟩
  frags := by have := h.frags; show 0 ≤ c.v.frags + 1 ∧ c.v.frags + 1 ≤ 1024; omega
  f4 := h.f4
  f6 := h.f6
  why := h.why
theorem CtxOk.lay {c : CtxR} {r r' : HolR} (h : CtxOk c) (hh : c.hole = some r) (hg : r'.g = r.g) (hk : HolOk r'.s) : CtxOk (layC c r') where
  holes := by show c.v.holes = some _; rw [h.holes, hh]; show some (⟨r.g, 0, none⟩ : Addr) = some ⟨r'.g, 0, none⟩; rw [hg]
  st := h.st
  open_ := fun _ => ⟨r', rfl, hk⟩
  frags := h.frags
  f4 := h.f4
  f6 := h.f6
  why := h.why
theorem CtxOk.fresh {T : TabR} {g : Nat} {k : KeyV} {ticks : Int} {r : HolR} (hk : HolOk r.s) : CtxOk (joinC T (newC g k ticks r)) where
  holes := rfl
  st := .inl rfl
  open_ := fun _ => ⟨r, rfl, hk⟩
  frags := by show (0 : Int) ≤ 0 + 1 ∧ (0 : Int) + 1 ≤ 1024; omega
  f4 := fine4_z
  f6 := fine6_z
  why := fun h => by have h : (0 : Int) = 2 := h; cases h
section
variable {w w0 : World} {T : TabR} {j : Nat} {c : CtxR} {r : HolR} {Δ : List Fct} {R : Ending → World → Prop} {t : Option Addr} {g1 g2 g4 : Nat} {p : LaidV}
end
end N6
end Go.Proofs.YthhgbpmihhljdaaGreatDoor
/- Chapter 12: a datagram out of its first fragment and all the bytes. -/
namespace Go.Eng
open Go Go.RowKit
/-- append behind a row that is full, of elements of any size. -/
theorem AppVC.fullR {P : Program} {w : World} {e n size : Nat} {A A' : Option Addr} {xs : List Value} {t ty : TypeId} {z : Value} {bytes : Nat} (ht : P.underlying t = some (.slice e)) (hi : TypeIs P e z size bytes) (hzs : z.cells.size = size) (hsz : 0 < size)
    {m c' : Nat} {news : List Value} {F : Option Addr → Nat → Nat → World → Prop}
    (hd : Cells w A xs) (hl : xs.length = n * size) (hsrc : Cells w A' news) (hm : news.length = m * size) (h1 : ∀ u ∈ news, u.oneCell' = true) (hbytes : (n + m) * bytes ≤ 140737488355328) (hb0 : 0 < bytes)
    (h0' : m = 0 → F A n n w) (h : ∀ A2 c2 w', 0 < m → w'.ownsRow w.heap.size e size (.slice A2 (n + m) c2) (n + m) (xs ++ news) → Ext w w' → F A2 (n + m) c2 w') :
    AppVC P #[t, t] ty (.slice A n n) (.slice A' m c') w F := by
  rcases Nat.eq_zero_or_pos m with rfl | h0
  · have hnil : news = [] := List.length_eq_zero_iff.1 (by omega)
    subst hnil
    obtain ⟨i, hi, hz, hs, hy⟩ := hi
    have hrun : (Builtin.append_ #[t, t] ty #[.slice A n n, .slice A' 0 c']).run P w = .ok (.slice A n n) w := by
      cases A' <;> cases A <;> simp [Builtin.append_, run_underlying ht, sizeOf, typeInfo, hi, Builtin.lenOf, Builtin.firstCells, storeCells, loadCells, loadCellsFrom]
    exact ⟨A, n, n, w, hrun, h0' rfl⟩
  · rcases A with _ | a
    · have hx : xs = [] := by
        rcases xs with _ | ⟨u, r⟩
        · rfl
        · obtain ⟨_, ha, _⟩ := hd 0 u rfl
          cases ha
      subst hx
      have hn0 : n = 0 := by
        rcases Nat.mul_eq_zero.1 (by simpa using hl.symm : n * size = 0) with h | h <;> omega
      subst hn0
      refine AppVC.rec (base := w.heap.size) (xs := []) ht hi hzs hsz (World.ownsRow_nil _ _ _ _) hsrc hm h1 hbytes hb0 (Nat.le_refl _) fun A2 c2 w2 hown hm2 hc _ => ?_
      exact h A2 c2 w2 h0 hown (hm2.mono fun k hk e => by simp [Value.ownBlock] at e)
    · obtain ⟨i, hi, hz, hs, hy⟩ := hi
      have h63 : n + m ≤ maxLen := by
        have : (n + m) * 1 ≤ (n + m) * bytes := Nat.mul_le_mul_left _ hb0
        simp only [maxLen]; omega
      obtain ⟨b, hb, _⟩ := hsrc.at (i := 0) (by rw [hm]; exact Nat.mul_pos h0 hsz)
      subst hb
      obtain ⟨v', w', hr, ho, hg⟩ := run_append_arg_grows (P := P) (w := w) t ty e i z size bytes ht hi hz hs hy hzs hsz a n n xs hl
        (fun j u hu => by obtain ⟨a', ha, hc⟩ := hd j u hu; cases ha; exact hc) b m c' news hm
        (fun j u hu => by obtain ⟨b', ha, hc⟩ := hsrc j u hu; cases ha; exact hc) (by omega) h63 hbytes
      obtain ⟨A2, c2, rfl, hc2, _⟩ := own_form ho
      exact ⟨A2, n + m, c2, w', hr, h A2 c2 w' h0 ho ((Mod.grown hg).mono fun k hk e => by cases e)⟩
end Go.Eng
namespace Go.Proofs.YthhgbpmihhljdaaGreatDoor
namespace N6
open Go Go.Eng Go.RowKit
section
variable {w : World} {s : Sl} {l : List Int}
theorem exts_cells {s : Sl} {rs : List ExtR} (h : ExtsAt w s rs) : Cells w s.A (rs.map fun r => r.v.cells).flatten := Recs.cells (size := 3) (fun r hr => by
  obtain ⟨x, _, rfl⟩ := List.mem_map.1 hr; rfl) h.recs
theorem exts_len (rs : List ExtR) : (rs.map fun r => r.v.cells).flatten.length = rs.length * 3 := by
  induction rs with
  | nil => rfl
  | cons x l ih => simp only [List.map_cons, List.flatten_cons, List.length_append, ih, List.length_cons]; show 3 + _ = _; omega
theorem ser6_few {d : Ip6D} (h : (ser6S d).2 = 0) : d.exts.length ≤ 8 := by
  obtain ⟨h1, _⟩ | ⟨_, _, h3, _, h5, h6⟩ := ser6S_cases d
  · exact absurd h h1
  · unfold headersS at h3
    split at h3
    · cases h3
    · omega
/-- The datagram that is joined. -/
def joinD (d : Ip6D) (l : List Int) : Ip6D := { d with exts := d.exts ++ (chained d.next l).1, frag := FragV.z, next := (chained d.next l).2.1, data := (chained d.next l).2.2.1 }
def joinOk (d : Ip6D) (l : List Int) : Bool := decide ((chained d.next l).2.2.2 = 0 ∧ (ser6S (joinD d l)).2 = 0)
set_option maxHeartbeats 2000000 in
theorem joined_spec {h : Ip6V} {es : List ExtR} (hX : ExtsAt w h.exts es) (hfew : es.length ≤ 1000) (hs1 : Bts h.src.bytes) (hs2 : Bts h.dst.bytes) (hB : BytesAt w s l) (hK : Kn w) (d0 : List Int) : Calls Tryz.prog 27 #[h.val, s.val] w fun e w' => ∃ (Δ : List Fct) (res : Ip6V), Sep (Fct.rest w None :: Δ) w' ∧
    e = .returned (.tuple #[res.val, .bool (joinOk (h.d es d0) l)]) ∧ (joinOk (h.d es d0) l = true → ∃ es' data', res.d es' data' = joinD (h.d es d0) l ∧ ∀ w'', (∀ f ∈ Δ, f.φ w'') → ExtsAt w'' h.exts es → BytesAt w'' s l → Ip6At w'' res es' data') := by
  refine reasm_joined_of h s.A s.n s.k w _ ?_
  unfold reasm_joined_VC
  refine NewVC.sep (Sep.start0 w) fun g1 w1 H => NewVC.sep H fun g2 w2 H => ⟨_, (H.blk 1 rfl).cell 42, ?_⟩
  refine (chain_spec (hB.ext (H.restOf 0 rfl)) (hK.ext (H.restOf 0 rfl))).mono ?_
  rintro _ w3 ⟨se, sd, xs, H', hn, hm⟩
  have H := H.mades H'
  cases hp : chainS h.next l with
  | error er =>
    rw [hp] at hm
    obtain ⟨rfl, rfl, rfl, rfl, he⟩ := hm
    have hj : joinOk (h.d es d0) l = false := decide_eq_false fun hh => by
      have h1 := hh.1
      unfold chained at h1
      rw [show (h.d es d0).next = h.next from rfl, hp] at h1
      exact he h1
    refine ⟨none, 0, 0, _, none, 0, 0, _, rfl, Br.t (decide_eq_true he) ?_⟩
    refine Stores.sep H 2 rfl (Ip6V.one _) (Nat.le_refl _) (splice_all rfl) fun w4 H => Ip6V.of Ip6V.z ⟨H.at 2 rfl, _, Ip6V.z, H.take 1, by rw [hj], fun hh => by rw [hj] at hh; cases hh⟩
  | ok t =>
    rw [hp] at hm
    obtain ⟨rfl, hA, rfl⟩ := hm
    have hp' : walkS l h.next true = .ok t ∧ (0 ≤ h.next ∧ h.next ≤ 255) := by
      unfold chainS at hp
      split at hp
      · cases hp
      · split at hp
        · cases hp
        · exact ⟨hp, by omega⟩
    obtain ⟨i1, i2, i3, i4⟩ := walkS_inside hB.bts hp'.2 hp'.1
    have hal := hA.len
    have hch : chained (h.d es d0).next l = (t.exts.map (EP.d l), t.next, l.drop t.p, 0) := by
      unfold chained
      rw [show (h.d es d0).next = h.next from rfl, hp]
    refine ⟨se.A, se.n, se.k, _, _, _, _, _, rfl, Br.f rfl ?_⟩
    have hlen := hX.len
    have hsm := hX.small
    have hcap := hX.cap
    refine ⟨h.exts.A, h.exts.n, h.exts.k, (H.blk 1 rfl).cell 37, h.exts.A, h.exts.n, h.exts.k, (H.blk 1 rfl).cell 37, h.exts.A, h.exts.n, h.exts.k, (H.blk 1 rfl).cell 37, ?_⟩
    refine ⟨by omega, by omega, by omega, ?_⟩
    rw [Int.toNat_natCast]
    have hseAt : ∀ w', (∀ f ∈ readX w2.heap.size se xs, f.φ w') → BytesAt w' s l → ExtsAt w' se xs := fun w' hf hB => extsAt_read (b := w2.heap.size) hf hB hA i1 hn.symm (by omega)
    have hX3 := hX.ext (H.restOf 0 rfl)
    have hse3 := hseAt w3 (fun f hf => H.mem (List.mem_append_right _ hf)) (hB.ext (H.restOf 0 rfl))
    have rest : ∀ (Δ : List Fct) (A2 : Option Addr) (c2 : Nat) (w4 : World), Sep (([Fct.rest w None, Fct.blk g1 30 h.cells, Fct.blk g2 30 (Ip6V.z : Ip6V).cells] ++ readX w2.heap.size se xs) ++ Δ) w4 →
        (∀ w', (∀ f ∈ readX w2.heap.size se xs ++ Δ, f.φ w') → ExtsAt w' h.exts es → BytesAt w' s l → ExtsAt w' ⟨A2, h.exts.n + se.n, c2⟩ (es ++ xs)) → SetVC w4 ⟨g1, 37, none⟩ (.slice A2 (h.exts.n + se.n) c2) fun w6 =>
        Stores ⟨g1, 38, none⟩ 0 (FragV.z : FragV).cells w6 fun w7 =>
        SetVC w7 ⟨g1, 42, none⟩ (.int .i64 t.next) fun w8 =>
        SetVC w8 ⟨g1, 43, none⟩ (winSl s t.p (l.length - t.p)).val fun w9 =>
        DrawVC w9 fun S1 w10 =>
        Ip6V.ex fun h1 => (∀ w' : World, S1 w' → CellsAt w' ⟨g1, 0, none⟩ 0 h1.cells) ∧
        Ip6V.ex fun h2 => (∀ w' : World, S1 w' → CellsAt w' ⟨g1, 0, none⟩ 0 h2.cells) ∧
        Calls Tryz.prog 19 #[h2.val] w10 (onRet (fun r_1 w11 => ∃ x2 : Int, r_1 = .int .i64 x2 ∧
        S1 w11 ∧
        Stores ⟨g2, 0, none⟩ 0 h1.cells w11 fun w12 =>
        S1 w12 ∧
        Ip6V.ex fun res1 => CellsAt w12 ⟨g2, 0, none⟩ 0 res1.cells ∧
        (∃ (Δ : List Fct) (res : Ip6V), Sep (Fct.rest w None :: Δ) w12 ∧ Ending.returned (.tuple #[res1.val, .bool (decide (x2 = 0))]) = .returned (.tuple #[res.val, .bool (joinOk (h.d es d0) l)]) ∧ (joinOk (h.d es d0) l = true → ∃ es' data', res.d es' data' = joinD (h.d es d0) l ∧ ∀ w'', (∀ f ∈ Δ, f.φ w'') → ExtsAt w'' h.exts es → BytesAt w'' s l → Ip6At w'' res es' data')))
          (fun _ _ => False)) := by
      intro Δ A2 c2 w4 H hat
      rw [List.append_assoc] at H
      refine SetVC.sep H 1 (k := 37) rfl (show 37 < 44 by decide) fun w5 H => Stores.sep (o := 38) H 1 (cs' := Ip6V.cells { h with exts := ⟨A2, h.exts.n + se.n, c2⟩, frag := FragV.z }) rfl (FragV.one _) (show 38 + 4 ≤ 44 by decide) rfl fun w6 H => ?_
      refine SetVC.sep H 1 (k := 42) rfl (show 42 < 44 by decide) fun w7 H => SetVC.sep H 1 (k := 43) rfl (show 43 < 44 by decide) fun w8 H => ?_
      refine DrawVC.sep H (fun w' => Blk w' g1 30 (Ip6V.cells { h with exts := ⟨A2, h.exts.n + se.n, c2⟩, frag := FragV.z, next := t.next, data := winSl s t.p (l.length - t.p) })) fun w9 H => ⟨H.blk 1 rfl, ?_⟩
      have hAt : ∀ w', (∀ f ∈ readX w2.heap.size se xs ++ Δ, f.φ w') → ExtsAt w' h.exts es → BytesAt w' s l →
          Ip6At w' { h with exts := ⟨A2, h.exts.n + se.n, c2⟩, frag := FragV.z, next := t.next, data := winSl s t.p (l.length - t.p) } (es ++ xs) (l.drop t.p) := fun w' hf hX hB => by
        refine ⟨hat w' hf hX hB, ?_, hs1, hs2⟩
        have := hB.win (p := t.p) (n := l.length - t.p) (by omega)
        rw [bpart_end i2] at this
        exact this
      have hd : Ip6V.d { h with exts := ⟨A2, h.exts.n + se.n, c2⟩, frag := FragV.z, next := t.next, data := winSl s t.p (l.length - t.p) } (es ++ xs) (l.drop t.p) = joinD (h.d es d0) l := by
        unfold joinD
        rw [hch]
        unfold Ip6V.d
        rw [List.map_append, hA.map_eq fun x r h => h.d]
      refine Ip6V.of { h with exts := ⟨A2, h.exts.n + se.n, c2⟩, frag := FragV.z, next := t.next, data := winSl s t.p (l.length - t.p) } ⟨fun w' hb => CellsAt.blk hb, Ip6V.of { h with exts := ⟨A2, h.exts.n + se.n, c2⟩, frag := FragV.z, next := t.next, data := winSl s t.p (l.length - t.p) } ⟨fun w' hb => CellsAt.blk hb, ?_⟩⟩
      refine (check6_spec (hAt w9 (fun f hf => H.mem (show f ∈ _ :: _ :: _ :: (readX w2.heap.size se xs ++ Δ) from .tail _ (.tail _ (.tail _ hf)))) (hX.ext (H.restOf 0 rfl)) (hB.ext (H.restOf 0 rfl))) (hK.ext (H.restOf 0 rfl))).mono ?_
      rintro _ w10 ⟨hE, rfl⟩
      have H := H.ext hE
      refine ⟨_, rfl, H.blk 1 rfl, Stores.sep H 2 rfl (Ip6V.one _) (Nat.le_refl _) (splice_all rfl) fun w11 H => ⟨H.blk 1 rfl, Ip6V.of _ ⟨H.at 2 rfl, _, _, H.sub (.cons_cons _ (.cons _ (.cons _ (List.Sublist.refl _)))), ?_, fun _ => ⟨_, _, hd, hAt⟩⟩⟩⟩
      rw [hd]
      unfold joinOk
      rw [hch]
      simp
    refine AppVC.fullR Tryz.underlying25 tE rfl (by decide) (exts_cells hX3) (by rw [exts_len, hlen]) (exts_cells hse3) (by rw [exts_len, hn]) (fun u hu => by
      obtain ⟨cs, hcs, hu⟩ := List.mem_flatten.1 hu
      obtain ⟨r, _, rfl⟩ := List.mem_map.1 hcs
      exact r.v.one u hu) (by omega) (by decide) (fun h0 => ?_) fun A2 c2 w4 hpos ho hE4 => ?_
    · have hxn : xs = [] := List.length_eq_zero_iff.1 (by omega)
      have h := rest [] h.exts.A h.exts.n w3 (by rw [List.append_nil]; exact H) fun w' _ hh _ => by
        rw [hxn, List.append_nil, h0, Nat.add_zero]
        exact ⟨hh.len, Nat.le_refl _, hh.small, hh.recs, hh.opts, hh.data⟩
      rw [h0, Nat.add_zero] at h
      exact h
    · refine rest _ A2 c2 w4 (H.pushOwn hE4 ho (Nat.le_refl _)) fun w' hf hX8 hB8 => ?_
      have hse8 := hseAt w' (fun f h => hf f (List.mem_append_left _ h)) hB8
      have ho8 : w'.ownsRow w3.heap.size 56 3 (.slice A2 (h.exts.n + se.n) c2) (h.exts.n + se.n) _ := hf _ (List.mem_append_right _ (List.mem_singleton.2 rfl))
      refine ⟨by rw [List.length_append]; show _ = h.exts.n + se.n; omega, own_le (s := ⟨A2, h.exts.n + se.n, c2⟩) ho8, by show h.exts.n + se.n ≤ 4000000; omega, Recs.of_cells (by decide) (fun r hr => ?_) ?_, fun r hr => ?_, fun r hr => ?_⟩
      · obtain ⟨x, _, rfl⟩ := List.mem_map.1 hr; rfl
      · rw [List.map_append, List.flatten_append]
        exact own_cells (c := c2) ho8
      · rcases List.mem_append.1 hr with hr | hr
        · exact hX8.opts r hr
        · exact hse8.opts r hr
      · rcases List.mem_append.1 hr with hr | hr
        · exact hX8.data r hr
        · exact hse8.data r hr
end
end N6
end Go.Proofs.YthhgbpmihhljdaaGreatDoor
/- Chapter 12: Offer6 behind a piece that was held. -/
namespace Go.Proofs.YthhgbpmihhljdaaGreatDoor
namespace N6
open Go Go.Eng Go.RowKit
/-- The first fragment is noted. -/
inductive First6 (h : Ip6V) (es : List ExtR) (data : List Int) (c : CtxR) : CtxR → Prop
  | yes (se sd : Sl) (es' : List ExtR) : h.frag.off = 0 → c.v.first = false → es'.map ExtR.d = es.map ExtR.d → ExtsFine se es' → BFine sd data → First6 h es data c { c with v := { c.v with first := true, h6 := Ip6V.with_ h se sd }, es := es', d6 := data }
  | no : ¬ (h.frag.off = 0 ∧ c.v.first = false) → First6 h es data c c
/-- All the bytes. -/
def allB (r : HolR) : List Int := r.s.buf.take r.s.fin.toNat
/-- What comes of a piece that was held. -/
inductive Tail6' (T : TabR) (j : Nat) (c : CtxR) (r : HolR) (h : Ip6V) (es : List ExtR) (data : List Int) (id : Int) : TabR → Int → Int → Int → Option Ip6D → Prop
  | part (c1 : CtxR) : First6 h es data c c1 → ¬ (0 ≤ r.s.fin ∧ r.s.gaps = []) → Tail6' T j c r h es data id (T.upd j c1) 0 2 0 none
  | spoil (c1 : CtxR) : First6 h es data c c1 → 0 ≤ r.s.fin ∧ r.s.gaps = [] → joinOk (c1.v.h6.d c1.es c1.d6) (allB r) = false → Tail6' T j c r h es data id (T.upd j (c1.shut 2 126 (c1.v.frags - 1))) 0 0 126 none
  | whole (c1 : CtxR) : First6 h es data c c1 → 0 ≤ r.s.fin ∧ r.s.gaps = [] → joinOk (c1.v.h6.d c1.es c1.d6) (allB r) = true → Tail6' T j c r h es data id (T.upd j (c1.shut 1 c1.v.why 0)) id 1 0 (some (joinD (c1.v.h6.d c1.es c1.d6) (allB r)))
/-- A datagram that is handed back. -/
def Back6 (w : World) (res : Ip6V) (od : Option Ip6D) : Prop := ∀ D, od = some D → ∃ es' data', Ip6At w res es' data' ∧ res.d es' data' = D
section
variable {w w0 : World} {T : TabR} {j : Nat} {c : CtxR} {r : HolR} {a b d e : Fct} {B : Nat → Prop}
theorem First6.same {h : Ip6V} {es : List ExtR} {data : List Int} {c1 : CtxR} (h1 : First6 h es data c c1) : c1.hole = c.hole ∧ c1.v.key = c.v.key ∧ c1.g = c.g ∧ c1.v.holes = c.v.holes ∧ c1.v.frags = c.v.frags ∧ c1.v.state = c.v.state ∧ c1.v.why = c.v.why ∧ c1.v.left = c.v.left ∧ c1.v.began = c.v.began ∧ c1.v.h4 = c.v.h4 ∧ c1.os = c.os ∧ c1.d4 = c.d4 := by
  cases h1 <;> exact ⟨rfl, rfl, rfl, rfl, rfl, rfl, rfl, rfl, rfl, rfl, rfl, rfl⟩
theorem First6.fine {h : Ip6V} {es : List ExtR} {data : List Int} {c1 : CtxR} (h1 : First6 h es data c c1) (hs : Bts h.src.bytes) (hd : Bts h.dst.bytes) (hn : es.length ≤ 1000) (hf : Fine6 c.v.h6 c.es c.d6) : Fine6 c1.v.h6 c1.es c1.d6 := by
  cases h1 with
  | yes so sd es' _ _ h2 h3 h4 => exact ⟨h3, h4, hs, hd, by have := congrArg List.length h2; rw [List.length_map, List.length_map] at this; show es'.length ≤ 1000; omega⟩
  | no _ => exact hf
set_option maxHeartbeats 4000000 in
theorem tail6 {g1 g2 g4 : Nat} {p : LaidV} {id : Int} {h : Ip6V} {es : List ExtR} {data : List Int} {R : Ending → World → Prop}
    (H : Sep (Fct.blk g2 30 (Ip6V.z : Ip6V).cells :: Fct.blk g4 86 p.cells :: Fct.blk g1 30 h.cells :: Fct.rest w0 B :: tabFs T) w)
    (hj : T.cs[j]? = some c) (hk : CtxOk c) (hc : c.hole = some r) (hr : HolOk r.s) (hp : p.c = some ⟨c.g, 0, none⟩) (hA : ∀ w', Mod B w0 w' → Ip6At w' h es data) (hf : 1 ≤ c.v.frags)
    (hfew : es.length ≤ 1000) (hK : ∀ w', Mod B w0 w' → Kn w')
    (hR : ∀ T' n o e od w' (res : Ip6V), Tail6' T j c r h es data id T' n o e od → Sep (Fct.rest w0 B :: tabFs T') w' → Back6 w' res od → R (.returned (.tuple #[res.val, .int .i64 n, .int .i64 o, .int .i64 e])) w') :
    reasm_Table_Offer6_J2047 R g1 g2 id g4 0 w := by
  unfold reasm_Table_Offer6_J2047
  have hv : c.v.holes = some ⟨r.g, 0, none⟩ := by rw [hk.holes, hc]; rfl
  have H := open_fs hj hc H
  refine Br.f rfl ?_
  refine JoinVC.of (fun _ w' => ∃ c1, First6 h es data c c1 ∧ Sep (([Fct.blk g2 30 (Ip6V.z : Ip6V).cells, Fct.blk g4 86 p.cells, Fct.blk g1 30 h.cells, Fct.rest w0 B, ctxB c1.g c1.v] ++ (tabRest T j ++ (rows4 c1.v.h4 c1.os c1.d4 ++ rows6 c1.v.h6 c1.es c1.d6))) ++ holFs r) w') ?_ ?_
  · refine JoinVC.of (fun x w' => w' = w ∧ x = decide (h.frag.off = 0 ∧ c.v.first = false)) ?_ ?_
    · refine ⟨_, (H.blk 2 rfl).cell 41, Br.dec (fun h0 => ⟨some ⟨c.g, 0, none⟩, by rw [← hp]; exact (H.blk 1 rfl).cell 0, _, rfl, _, (H.blk 4 rfl).cell 42, rfl, ?_⟩) fun h0 => ⟨rfl, ?_⟩⟩
      · rw [Bool.eq_iff_iff]
        simp [h0]
      · rw [decide_eq_false fun h => h0 h.1]
    · rintro _ _ ⟨rfl, rfl⟩
      unfold reasm_Table_Offer6_J16382
      refine Br.dec (fun hy => ?_) fun hn => ⟨c, .no hn, H⟩
      refine DrawVC.sep H (fun w' => Blk w' g4 86 p.cells ∧ CellsAt w' ⟨g1, 0, none⟩ 0 h.cells) fun w1 H1 => ⟨⟨H1.blk 1 rfl, H1.at 2 rfl⟩, ?_⟩
      refine ⟨some ⟨c.g, 0, none⟩, fun w' hb => by rw [← hp]; exact hb.1.cell 0, some ⟨c.g, 0, none⟩, fun w' hb => by rw [← hp]; exact hb.1.cell 0, Ip6V.of h ⟨fun w' hb => hb.2, ?_⟩⟩
      refine (rclone6_spec (hA w1 (H1.restOf 3 rfl))).mono ?_
      rintro _ w2 ⟨so, sd, es', rfl, h1, h2, h3, H2⟩
      have H2 := H1.mades H2
      refine onRet_at (Ip6V.of (Ip6V.with_ h so sd) ⟨rfl, ⟨H2.blk 1 rfl, H2.at 2 rfl⟩, _, rfl, ?_⟩)
      refine SetVC.sep H2 4 (k := 42) rfl (show 42 < 130 by decide) fun w3 H3 => ⟨⟨H3.blk 1 rfl, H3.at 2 rfl⟩, _, rfl, ?_⟩
      refine Stores.sep (o := 86) H3 4 (cs' := CtxV.cells { c.v with first := true, h6 := Ip6V.with_ h so sd }) rfl (Ip6V.one _) (show 86 + 44 ≤ 130 by decide) rfl fun w4 H4 => ⟨_, .yes so sd es' hy.1 hy.2 h1 h2 h3, ?_⟩
      have H4 : Sep ((([Fct.blk g2 30 (Ip6V.z : Ip6V).cells, Fct.blk g4 86 p.cells, Fct.blk g1 30 h.cells, Fct.rest w0 B, ctxB c.g { c.v with first := true, h6 := Ip6V.with_ h so sd }] ++ (tabRest T j ++ (rows4 c.v.h4 c.os c.d4 ++ rows6 c.v.h6 c.es c.d6))) ++ holFs r) ++ rows6 (Ip6V.with_ h so sd) es' data) w4 := H4
      show Sep (([_, _, _, _, ctxB c.g { c.v with first := true, h6 := Ip6V.with_ h so sd }] ++ (tabRest T j ++ (rows4 c.v.h4 c.os c.d4 ++ rows6 (Ip6V.with_ h so sd) es' data))) ++ holFs r) w4
      generalize rows6 c.v.h6 c.es c.d6 = z1 at H4
      generalize rows6 (Ip6V.with_ h so sd) es' data = z2 at H4 ⊢
      exact Sep.sub (H4.perm (perm_cn fun c o h1 h2 h3 => by simp only [h1, h2, h3]; omega)) (List.sublist_append_left _ z1)
  rintro _ w1 ⟨c1, hc1, H1⟩
  obtain ⟨s1, s2, s3, s4, s5, _, _, _, _, _⟩ := hc1.same
  unfold reasm_Table_Offer6_J8191
  have hb := hk.frags
  refine ⟨some ⟨c.g, 0, none⟩, by rw [← hp]; exact (H1.blk 1 rfl).cell 0, _, rfl, some ⟨r.g, 0, none⟩, by rw [← hv, ← s4, ← s3]; exact (H1.blk 4 rfl).cell 40, ?_⟩
  refine (bytes_spec (H1.sub (List.sublist_append_right _ _)) hr).mono ?_
  rintro _ w2 (⟨hw1, hw2, s', rfl, hbf, H2⟩ | ⟨hn, rfl, hE⟩)
  · have H2 := H1.made H2
    refine ⟨s'.A, s'.n, s'.k, true, rfl, Br.f rfl ?_⟩
    refine ⟨some ⟨c.g, 0, none⟩, by rw [← hp]; exact (H2.blk 1 rfl).cell 0, _, rfl, Ip6V.of c1.v.h6 ⟨by rw [← s3]; exact ctx_h6 (H2.blk 4 rfl), ?_⟩⟩
    have hfi := hc1.fine (hA w0 (Mod.refl _ _)).src (hA w0 (Mod.refl _ _)).dst hfew hk.f6
    have exAt : ∀ {w' : World}, (∀ f ∈ extFs 0 c1.v.h6.exts c1.es, f.φ w') → ExtsAt w' c1.v.h6.exts c1.es := fun hf => extsAt_of (b := 0) hf hfi.exts
    have byAt : ∀ {w' : World}, (rowB 0 s' (allB r)).φ w' → BytesAt w' s' (allB r) := fun hf => bytesAt_of (b := 0) hf hbf
    refine (joined_spec (exAt fun f hf => H2.mem (List.mem_append_left _ (List.mem_append_left _ (List.mem_append_right _ (List.mem_append_right _ (List.mem_append_right _ (List.mem_append_left _ hf))))))) hfi.few hfi.src hfi.dst (byAt (H2.mem (List.mem_append_right _ (List.mem_singleton.2 rfl)))) (hK w2 (H2.restOf 3 rfl)) c1.d6).mono ?_
    rintro _ w3 ⟨Δ, res, Hj, rfl, hback⟩
    have H3 := H2.mades Hj
    refine onRet_at (Ip6V.of res ⟨_, rfl, NewVC.sep H3 fun g8 w4 H4 => Stores.sep H4.front 0 (cs' := res.cells) rfl (Ip6V.one _) (Nat.le_refl _) (splice_all rfl) fun w5 H5 => ?_⟩)
    cases hjo : joinOk (c1.v.h6.d c1.es c1.d6) (allB r) with
    | false =>
      have H8 := H5.tail
      refine Br.t rfl ?_
      refine DrawVC.sep H8 (fun w' => Blk w' g4 86 p.cells ∧ Blk w' c1.g 81 c1.v.cells) fun w9 H9 => ⟨⟨H9.blk 1 rfl, H9.blk 4 rfl⟩, ?_⟩
      refine ⟨some ⟨c.g, 0, none⟩, fun w' hb => by rw [← hp]; exact hb.1.cell 0, some ⟨c.g, 0, none⟩, fun w' hb => by rw [← hp]; exact hb.1.cell 0, _, rfl, c1.v.frags, fun w' hb => by rw [← s3]; exact hb.2.cell 41, ?_⟩
      rw [w64 (by omega) (by omega), ← s3]
      refine (spoil_spec (H9.blk 4 rfl)).mono ?_
      rintro _ w10 ⟨rfl, H10⟩
      have H10 := H9.call 4 rfl (fun k hk => hk) H10
      refine ⟨rfl, Stores.sep H10 0 rfl (Ip6V.one _) (Nat.le_refl _) (splice_all rfl) fun w11 H11 => Ip6V.of Ip6V.z ⟨H11.at 0 rfl, ?_⟩⟩
      have H12 : Sep (([Fct.blk g2 30 (Ip6V.z : Ip6V).cells, Fct.blk g4 86 p.cells, Fct.blk g1 30 h.cells, Fct.rest w0 B, ctxB c1.g (c1.shut 2 126 (c1.v.frags - 1)).v] ++ (tabRest T j ++ (rows4 c1.v.h4 c1.os c1.d4 ++ rows6 c1.v.h6 c1.es c1.d6))) ++ (holFs r ++ ([rowB 0 s' (r.s.buf.take r.s.fin.toNat)] ++ Δ))) w11 := by
        rw [← List.append_assoc, ← List.append_assoc]
        exact H11
      exact hR _ 0 0 126 none _ _ (.spoil c1 hc1 ⟨hw1, hw2⟩ hjo) (shut_fs hj s2 s3 H12) fun D h => by cases h
    | true =>
      refine Br.f rfl ⟨some ⟨c.g, 0, none⟩, by rw [← hp]; exact (H5.blk 2 rfl).cell 0, ?_⟩
      rw [← s3]
      refine (finish_spec (H5.blk 5 rfl)).mono ?_
      rintro _ w10 ⟨rfl, H10⟩
      have H10 := H5.call 5 rfl (fun k hk => hk) H10
      refine ⟨rfl, Ip6V.of res ⟨H10.at 0 rfl, ?_⟩⟩
      refine Stores.sep H10 1 rfl (Ip6V.one _) (Nat.le_refl _) (splice_all rfl) fun w11 H11 => Ip6V.of res ⟨H11.at 1 rfl, ?_⟩
      have H11 : Sep (((([Fct.blk g2 30 res.cells, Fct.blk g4 86 p.cells, Fct.blk g1 30 h.cells, Fct.rest w0 B, ctxB c1.g (c1.shut 1 c1.v.why 0).v] ++ (tabRest T j ++ (rows4 c1.v.h4 c1.os c1.d4 ++ rows6 c1.v.h6 c1.es c1.d6))) ++ holFs r) ++ [rowB 0 s' (r.s.buf.take r.s.fin.toNat)]) ++ Δ) w11 := H11.tail
      have hb6 : Back6 w11 res (some (joinD (c1.v.h6.d c1.es c1.d6) (allB r))) := fun D hD => by
        cases hD
        obtain ⟨es', data', hd, hat⟩ := hback hjo
        exact ⟨es', data', hat w11 (fun f hf => H11.mem (List.mem_append_right _ hf)) (exAt fun f hf => H11.mem (List.mem_append_left _ (List.mem_append_left _ (List.mem_append_left _ (List.mem_append_right _ (List.mem_append_right _ (List.mem_append_right _ (List.mem_append_left _ hf)))))))) (byAt (H11.mem (List.mem_append_left _ (List.mem_append_right _ (List.mem_singleton.2 rfl))))), hd⟩
      rw [List.append_assoc, List.append_assoc] at H11
      exact hR _ id 1 0 _ _ _ (.whole c1 hc1 ⟨hw1, hw2⟩ hjo) (shut_fs hj s2 s3 H11) hb6
  · have H2 := H1.ext hE
    refine ⟨none, 0, 0, false, rfl, Br.t rfl ?_⟩
    refine Stores.sep H2 0 rfl (Ip6V.one _) (Nat.le_refl _) (splice_all rfl) fun w11 H11 => Ip6V.of Ip6V.z ⟨H11.at 0 rfl, ?_⟩
    exact hR _ 0 2 0 none _ _ (.part c1 hc1 hn) (keep_fs hj (by rw [s1, hc]) s2 s3 H11) fun D h => by cases h
end
end N6
end Go.Proofs.YthhgbpmihhljdaaGreatDoor
