/- Chapter 12: Tick, New. -/
import Derived.Test.YthhgbpmihhljdaaDoorBbf
namespace Go.Proofs.YthhgbpmihhljdaaDoor
namespace N6
open Go Go.Eng Go.RowKit
theorem tL : TypeIs Tryd.prog 78 (LateV.z : LateV).val 90 320 := .of (by kernel_rfl)
/-- One tick of a context. -/
def dec (c : CtxR) : Option CtxR := if 0 < c.v.left - 1 then some { c with v := { c.v with left := c.v.left - 1 } } else none
def lateC (l : List LateV) : List Value := (l.map LateV.cells).flatten
abbrev rowL (s : Sl) (l : List LateV) : Fct := Fct.own 0 78 90 s.val s.n (lateC l)
theorem late_len (l : List LateV) : (lateC l).length = l.length * 90 := by
  induction l with
  | nil => rfl
  | cons x l ih =>
    have : lateC (x :: l) = x.cells ++ lateC l := rfl
    rw [this, List.length_append, ih, List.length_cons]
    show 90 + _ = _
    omega
section
variable {w : World} {Γ : List Fct} {T : TabR}
theorem appL (H : Sep Γ w) (i : Nat) {n c : Nat} {A A' : Option Addr} {l : List LateV} {x : LateV} {c' : Nat} (hi : Γ[i]? = some (rowL ⟨A, n, c⟩ l)) (hs : Cells w A' x.cells) (hn : n ≤ 1000000)
    {F : Option Addr → Nat → Nat → World → Prop} (h : ∀ A2 c2 w', Sep (Γ.set i (rowL ⟨A2, n + 1, c2⟩ (l ++ [x]))) w' → F A2 (n + 1) c2 w') :
    AppVC Tryd.prog #[46, 46] 46 (.slice A n c) (.slice A' 1 c') w F :=
  AppVC.sep H i Tryd.underlying46 tL rfl (by decide) hi hs (by show 90 = 1 * 90; rfl) (x.one) (by omega) (by decide) (Nat.zero_le _) fun A2 c2 w' H _ => h A2 c2 w' (by
    have : rowL ⟨A2, n + 1, c2⟩ (l ++ [x]) = Fct.own 0 78 90 (.slice A2 (n + 1) c2) (n + 1) (lateC l ++ x.cells) := by
      show Fct.own 0 _ 90 _ _ (lateC (l ++ [x])) = _
      congr 1
      unfold lateC
      simp
    rw [this]; exact H)
theorem del_keys {j : Nat} {c : CtxR} (hk : T.cs.Pairwise fun a b => a.v.key ≠ b.v.key) (hj : T.cs[j]? = some c) : mdel KeyV.beq c.v.key (T.cs.map ck) = (T.cs.eraseIdx j).map ck := by
  unfold mdel
  rw [find_some c.v.key T.cs 0 j c hk hj rfl]
  simp only [Nat.zero_add]
  rw [mp_erase]
theorem erase_perm {α : Type} : ∀ {l : List α} {j : Nat} {x : α}, l[j]? = some x → l.Perm (x :: l.eraseIdx j)
  | [], j, x, h => by simp at h
  | y :: l, 0, x, h => by simp at h; subst h; exact .refl _
  | y :: l, j + 1, x, h => by
    have := erase_perm (l := l) (j := j) (x := x) (by simpa using h)
    rw [List.eraseIdx_cons_succ]
    exact (this.cons y).trans (.swap x y _)
theorem set_perm {α : Type} {l : List α} {j : Nat} {x y : α} (h : l[j]? = some x) : (l.set j y).Perm (y :: l.eraseIdx j) := by
  have h1 : (l.set j y)[j]? = some y := by rw [List.getElem?_set]; simp [(List.getElem?_eq_some_iff.1 h).1]
  have := erase_perm h1
  rwa [erase_set] at this
theorem set_keys {j : Nat} {c c' : CtxR} {l : List CtxR} (hk : l.Pairwise fun a b => a.v.key ≠ b.v.key) (hj : l[j]? = some c) (he : c'.v.key = c.v.key) : (l.set j c').Pairwise fun a b => a.v.key ≠ b.v.key := by
  have h1 := (erase_perm hj).pairwise_iff (R := fun a b : CtxR => a.v.key ≠ b.v.key) (fun h => h.symm)
  have h2 := (set_perm (y := c') hj).pairwise_iff (R := fun a b : CtxR => a.v.key ≠ b.v.key) (fun h => h.symm)
  rw [h2]
  rw [h1] at hk
  have h3 := List.pairwise_cons.1 hk
  exact List.pairwise_cons.2 ⟨fun x hx => by rw [he]; exact h3.1 x hx, h3.2⟩
theorem erase_keys {j : Nat} {l : List CtxR} (hk : l.Pairwise fun a b => a.v.key ≠ b.v.key) : (l.eraseIdx j).Pairwise fun a b => a.v.key ≠ b.v.key := hk.sublist (List.eraseIdx_sublist _ _)
set_option maxHeartbeats 4000000 in
/-- Tick. -/
theorem tick_spec (H : Sep (tabFs T) w) (hT : TabOk T) (hb : T.begun ≤ 4611686018427387904) : Calls Tryd.prog 9 #[T.p] w fun e w' => ∃ (s : Sl) (cs : List CtxR), e = .returned s.val ∧ cs.Perm (T.cs.filterMap dec) ∧
    cs.Pairwise (fun a b => a.v.key ≠ b.v.key) ∧ Sep (Fct.rest w (Blocks (tabFs T)) :: tabFs { T with cs := cs }) w' := by
  refine reasm_Table_Tick_of _ w _ ?_
  unfold reasm_Table_Tick_VC
  have hlen := hT.len
  have hm2 := hT.m2
  refine (oldest_spec (st := -1) H hT hb).mono ?_
  rintro _ w1 ⟨s, l, rfl, hp, hn, H⟩
  generalize Blocks (tabFs T) = B at H ⊢
  have hall : T.cs.filter (selS (-1)) = T.cs := List.filter_eq_self.2 fun c _ => by unfold selS; rfl
  rw [hall] at hp
  have hll : l.length = T.cs.length := hp.length_eq
  refine ⟨s.A, s.n, s.k, rfl, ?_⟩
  have H : Sep (Fct.rest w B :: rowC s (l.map cp) :: rowL Sl.z [] :: tabFs { T with cs := T.cs }) w1 := by
    have H := H.nil 0 78 90
    have key : ∀ (a b d : Fct) (L : List Fct), (a :: b :: d :: L).Perm ((a :: b :: L) ++ [d]) := fun a b d L => perm_cn fun c o h1 h2 h3 => by simp only [h1, h2, h3]; omega
    exact H.perm (key _ _ _ _)
  refine LoopVC.of (fun st w' => ∃ (i : Nat) (cs : List CtxR) (ls : List LateV), st.2 = i ∧ i ≤ l.length ∧ ls.length ≤ i ∧ cs.Perm ((l.take i).filterMap dec ++ l.drop i) ∧ cs.Pairwise (fun a b => a.v.key ≠ b.v.key) ∧
      Sep (Fct.rest w B :: rowC s (l.map cp) :: rowL ⟨st.1.1, st.1.2.1, st.1.2.2⟩ ls :: tabFs { T with cs := cs }) w') (fun st _ => l.length - st.2.toNat)
    ⟨0, T.cs, [], rfl, Nat.zero_le _, Nat.le_refl _, by simpa using hp.symm, hT.keys, H⟩ ?_
  rintro ⟨⟨oA, on, oc⟩, _⟩ w2 ⟨i, cs, ls, rfl, hi, hls, hcs, hks, H⟩
  unfold reasm_Table_Tick_L58
  have hon : on = ls.length := by have : (lateC ls).length = on * 90 := (H.own 2 rfl).1; rw [late_len] at this; omega
  refine Br.dec (fun hlt => ?_) fun hge => ?_
  · have hlt : i < l.length := by show i < l.length; simp only at hlt; omega
    obtain ⟨c, hc⟩ : ∃ c, l[i]? = some c := ⟨_, List.getElem?_eq_getElem hlt⟩
    have hcl : c ∈ l := List.mem_of_getElem? hc
    have hcT : c ∈ T.cs := hp.subset hcl
    obtain ⟨hok, hl1, hl2, hb1, hb2⟩ := hT.ctx c hcT
    have ht2 := hT.t2
    have hdrop : l.drop i = c :: l.drop (i + 1) := by rw [List.drop_eq_getElem_cons hlt]; congr 1; exact (List.getElem?_eq_some_iff.1 hc).2
    have htake : (l.take (i + 1)).filterMap dec = (l.take i).filterMap dec ++ (dec c).toList := by
      rw [List.take_add_one, hc, List.filterMap_append]
      cases hd : dec c <;> simp [hd]
    have hccs : c ∈ cs := hcs.symm.subset (List.mem_append_right _ (by rw [hdrop]; exact List.mem_cons_self ..))
    obtain ⟨j, hj⟩ := List.mem_iff_getElem?.1 hccs
    refine IdxVC.sep H 1 rfl (Int.natCast_nonneg _) (by simp only; omega) (by simp only at *; omega) fun a ha _ => ?_
    refine ⟨some ⟨c.g, 0, none⟩, ?_, _, rfl, ?_⟩
    · rw [ha]
      simp only [Int.toNat_natCast]
      rw [List.getElem?_map, List.getElem?_map, hc]
      rfl
    have e0 : ctxFs c = ctxB c.g c.v :: (ctxFs c).tail := rfl
    obtain ⟨rows, hrows⟩ : ∃ rows, rows = (ctxFs c).tail := ⟨_, rfl⟩
    have H1 := H.perm ((((tab_focus (T := { T with cs := cs }) hj).symm.cons _).cons _).cons _)
    rw [e0, ← hrows] at H1
    have key : ∀ (a b c d : Fct) (L : List Fct), (a :: b :: c :: d :: (L ++ rows)).Perm (a :: b :: c :: (L ++ (d :: rows))) := fun a b c d L => perm_cn fun c o h1 h2 h3 => by simp only [h1, h2]; omega
    have H1 := H1.perm (key _ _ _ _ _)
    obtain ⟨c', hc'⟩ : ∃ c' : CtxR, c' = { c with v := { c.v with left := c.v.left - 1 } } := ⟨_, rfl⟩
    have e1 : ctxFs c' = ctxB c.g c'.v :: rows := by rw [hrows, hc']; rfl
    refine ⟨_, (H1.blk 3 rfl).cell 37, _, rfl, ?_⟩
    rw [w64 (by omega) (by omega)]
    refine SetVC.sep H1 3 (k := 37) rfl (show 37 < 130 by decide) fun w3 H2 => ?_
    have H2 : Sep (Fct.rest w B :: rowC s (l.map cp) :: rowL ⟨oA, on, oc⟩ ls :: ctxB c.g c'.v :: (tabRest { T with cs := cs } j ++ rows)) w3 := by rw [hc']; exact H2
    have hcv : c'.v.left = c.v.left - 1 := by rw [hc']
    refine ⟨_, rfl, c'.v.left, (H2.blk 3 rfl).cell 37, ?_⟩
    have H3 := H2.perm (key _ _ _ _ _).symm
    rw [← e1] at H3
    have H3 := H3.perm ((((tab_unfocus (T := { T with cs := cs }) (c' := c') hj (by rw [hc']) (by rw [hc'])).cons _).cons _).cons _)
    have hwi : IntKind.i64.wrap ((i : Int) + 1) = ((i + 1 : Nat) : Int) := by rw [w64 (by omega) (by omega)]; omega
    have hmu : l.length - (((i + 1 : Nat) : Int)).toNat < l.length - ((i : Int)).toNat := by simp only [Int.toNat_natCast]; omega
    have hjl : (cs.set j c')[j]? = some c' := by rw [List.getElem?_set]; simp [(List.getElem?_eq_some_iff.1 hj).1]
    have hks' : (cs.set j c').Pairwise (fun a b => a.v.key ≠ b.v.key) := set_keys hks hj (by rw [hc'])
    have hpe : (cs.eraseIdx j).Perm ((l.take i).filterMap dec ++ l.drop (i + 1)) := by
      have h1 := (erase_perm hj).symm.trans hcs
      rw [hdrop] at h1
      have h2 : ((l.take i).filterMap dec ++ c :: l.drop (i + 1)).Perm (c :: ((l.take i).filterMap dec ++ l.drop (i + 1))) := List.perm_middle
      exact (h1.trans h2).cons_inv
    refine Br.dec (fun hpos => ?_) fun hneg => ?_
    · have hd : dec c = some c' := by unfold dec; rw [if_pos (by omega), hc']
      rw [hwi]
      refine ⟨⟨i + 1, cs.set j c', ls, rfl, by omega, by omega, ?_, hks', H3⟩, hmu⟩
      rw [htake, hd]
      refine (set_perm hj).trans ((hpe.cons c').trans ?_)
      simp only [Option.toList, List.append_assoc, List.singleton_append]
      exact List.perm_middle.symm
    · have hd : dec c = none := by unfold dec; rw [if_neg (by omega)]
      have hcs' : (cs.eraseIdx j).Perm ((l.take (i + 1)).filterMap dec ++ l.drop (i + 1)) := by
        rw [htake, hd]; simpa using hpe
      have H4 : Sep ((Fct.rest w B :: rowC s (l.map cp) :: rowL ⟨oA, on, oc⟩ ls :: Fct.blk T.g 51 T.cells :: Fct.mp T.m (kvs KeyV.val ((cs.set j c').map ck)) :: []) ++ (cs.set j c').flatMap ctxFs) w3 := H3
      refine DrawVC.sep H4 (fun w' => Blk w' T.g 51 T.cells ∧ Blk w' c.g 66 c'.v.cells) fun w4 H5 => ?_
      have hcg : ∀ {w' : World} {Γ : List Fct}, Sep (Γ ++ (cs.set j c').flatMap ctxFs) w' → Blk w' c.g 66 c'.v.cells := fun H => by
        have := tab_blk (T := { T with cs := cs.set j c' }) H (List.mem_of_getElem? hjl)
        rwa [show c'.g = c.g by rw [hc']] at this
      refine ⟨⟨H5.blk 3 rfl, hcg H5⟩, _, rfl, _, fun w' hb => hb.1.cell 3, _, rfl, KeyV.of c'.v.key ⟨fun w' hb => ctx_key hb.2, ?_⟩⟩
      refine DelVC.sep H5 4 keyv_key Tryd.underlying49 rfl c'.v.key fun w5 H6 => ?_
      rw [del_keys (T := { T with cs := cs.set j c' }) hks' hjl] at H6
      have H6 : Sep ((Fct.rest w B :: rowC s (l.map cp) :: rowL ⟨oA, on, oc⟩ ls :: Fct.blk T.g 51 T.cells :: Fct.mp T.m (kvs KeyV.val (((cs.set j c').eraseIdx j).map ck)) :: []) ++ (cs.set j c').flatMap ctxFs) w5 := H6
      rw [erase_set] at H6
      have fin : ∀ {a b d : Fct} {w' : World} {Δ : List Fct}, Sep ((a :: b :: d :: Fct.blk T.g 51 T.cells :: Fct.mp T.m (kvs KeyV.val ((cs.eraseIdx j).map ck)) :: []) ++ (cs.set j c').flatMap ctxFs) w' → Sep (a :: b :: d :: tabFs { T with cs := cs.eraseIdx j }) w' := fun H => by
        have := flat_sub (T := { T with cs := cs.set j c' }) hjl H
        rw [show ({ T with cs := cs.set j c' } : TabR).cs = cs.set j c' from rfl, erase_set] at this
        exact this
      refine ⟨_, rfl, _, (hcg H6).cell 38, Br.dec (fun h1 => ?_) fun h1 => ?_⟩
      · rw [hwi]
        exact ⟨⟨i + 1, cs.eraseIdx j, ls, rfl, by omega, by omega, hcs', erase_keys hks, fin (Δ := []) H6⟩, hmu⟩
      · refine DrawVC.sep H6 (fun w' => Blk w' c.g 66 c'.v.cells) fun w6 H7 => ⟨hcg H7, ?_⟩
        refine ⟨_, rfl, _, fun w' hb => hb.cell 41, _, rfl, _, fun w' hb => hb.cell 42, _, rfl, Ip4V.of c'.v.h4 ⟨fun w' hb => ctx_h4 hb, _, rfl, Ip6V.of c'.v.h6 ⟨fun w' hb => ctx_h6 hb, ?_⟩⟩⟩
        refine NewVC.sep H7 fun g1 w7 H8 => ?_
        have H8 := H8.front
        refine ⟨hcg (Γ := [_, _, _, _, _, _]) H8, Stores.sep H8 0 (cs' := (⟨4, c'.v.frags, c'.v.first, c'.v.h4, c'.v.h6⟩ : LateV).cells) rfl (LateV.one _) (Nat.le_refl _) (splice_all rfl) fun w8 H9 => ⟨_, rfl, _, (hcg (Γ := [_, _, _, _, _, _]) H9).cell 0, ?_⟩⟩
        refine Br.dec (fun h6 => ?_) fun h6 => ?_
        · refine SetVC.sep H9 0 (k := 0) rfl (show 0 < 90 by decide) fun w9 H10 => LateV.of ⟨6, c'.v.frags, c'.v.first, c'.v.h4, c'.v.h6⟩ ⟨H10.at 0 rfl, NewVC.sep H10 fun g2 w10 H11 => ?_⟩
          have H11 := H11.front
          refine appL (x := ⟨6, c'.v.frags, c'.v.first, c'.v.h4, c'.v.h6⟩) H11 4 rfl (Cells.blk0 (H11.blk 0 rfl)) (by omega) fun A2 c2 w11 H12 => ?_
          rw [hwi]
          have H13 : Sep ((Fct.rest w B :: rowC s (l.map cp) :: rowL ⟨A2, on + 1, c2⟩ (ls ++ [⟨6, c'.v.frags, c'.v.first, c'.v.h4, c'.v.h6⟩]) :: Fct.blk T.g 51 T.cells :: Fct.mp T.m (kvs KeyV.val ((cs.eraseIdx j).map ck)) :: []) ++ (cs.set j c').flatMap ctxFs) w11 := H12.tail.tail
          exact ⟨⟨i + 1, cs.eraseIdx j, ls ++ [⟨6, c'.v.frags, c'.v.first, c'.v.h4, c'.v.h6⟩], rfl, by omega, by simp; omega, hcs', erase_keys hks, fin (Δ := []) H13⟩, hmu⟩
        · refine LateV.of ⟨4, c'.v.frags, c'.v.first, c'.v.h4, c'.v.h6⟩ ⟨H9.at 0 rfl, NewVC.sep H9 fun g2 w10 H11 => ?_⟩
          have H11 := H11.front
          refine appL (x := ⟨4, c'.v.frags, c'.v.first, c'.v.h4, c'.v.h6⟩) H11 4 rfl (Cells.blk0 (H11.blk 0 rfl)) (by omega) fun A2 c2 w11 H12 => ?_
          rw [hwi]
          have H13 : Sep ((Fct.rest w B :: rowC s (l.map cp) :: rowL ⟨A2, on + 1, c2⟩ (ls ++ [⟨4, c'.v.frags, c'.v.first, c'.v.h4, c'.v.h6⟩]) :: Fct.blk T.g 51 T.cells :: Fct.mp T.m (kvs KeyV.val ((cs.eraseIdx j).map ck)) :: []) ++ (cs.set j c').flatMap ctxFs) w11 := H12.tail.tail
          exact ⟨⟨i + 1, cs.eraseIdx j, ls ++ [⟨4, c'.v.frags, c'.v.first, c'.v.h4, c'.v.h6⟩], rfl, by omega, by simp; omega, hcs', erase_keys hks, fin (Δ := []) H13⟩, hmu⟩
  · have hie : i = l.length := by simp only at hge; omega
    refine ⟨⟨oA, on, oc⟩, cs, rfl, ?_, hks, H.sub (.cons_cons _ (.cons _ (.cons _ (List.Sublist.refl _))))⟩
    rw [hie, List.take_length, List.drop_length, List.append_nil] at hcs
    exact hcs.trans (hp.filterMap dec)
/-- New. -/
theorem new_spec {max ticks : Int} (h1 : 1 ≤ max) (h2 : max ≤ 256) (h3 : 1 ≤ ticks) (h4 : ticks ≤ 1048576) : Calls Tryd.prog 4 #[.int .i64 max, .int .i64 ticks] w fun e w' => ∃ g m, e = .returned (.tuple #[(⟨g, m, max, ticks, 0, []⟩ : TabR).p, .int .i64 0]) ∧
    Sep (Fct.rest w None :: tabFs ⟨g, m, max, ticks, 0, []⟩) w' := by
  refine reasm_New_of max ticks w _ ?_
  unfold reasm_New_VC
  refine Br.no (by omega) (Br.no (by omega) (Br.no (by omega) (Br.no (by omega) (NewMapVC.sep (Sep.start0 w) fun g1 w1 H => NewVC.sep H fun g2 w2 H => ?_))))
  exact ⟨g2, g1, rfl, H.perm (.cons _ (.swap _ _ _))⟩
theorem new_ok {g m : Nat} {max ticks : Int} (h1 : 1 ≤ max) (h2 : max ≤ 256) (h3 : 1 ≤ ticks) (h4 : ticks ≤ 1048576) : TabOk ⟨g, m, max, ticks, 0, []⟩ where
  m1 := h1
  m2 := h2
  t1 := h3
  t2 := h4
  b1 := Int.le_refl _
  len := by show ((0 : Nat) : Int) ≤ max; omega
  ctx := fun c hc => by cases hc
  keys := List.Pairwise.nil
end
end N6
end Go.Proofs.YthhgbpmihhljdaaDoor
/- Chapter 12: what a table keeps, whatever is offered; calls in any company. -/
namespace Go.Proofs.YthhgbpmihhljdaaDoor
namespace N6
open Go Go.Eng Go.RowKit
structure R4 where
  v : Ip4V
  opts : List OptR
  data : List Int
structure R6 where
  v : Ip6V
  exts : List ExtR
  data : List Int
structure L4At (w : World) (s : Sl) (rs : List R4) : Prop where
  len : rs.length = s.n
  small : s.n ≤ 4000000
  recs : Recs w s.A 43 (rs.map fun r => r.v.cells)
  each : ∀ r ∈ rs, Ip4At w r.v r.opts r.data
structure L6At (w : World) (s : Sl) (rs : List R6) : Prop where
  len : rs.length = s.n
  small : s.n ≤ 4000000
  recs : Recs w s.A 44 (rs.map fun r => r.v.cells)
  each : ∀ r ∈ rs, Ip6At w r.v r.exts r.data
/-- What an offer may do to a table: at most one context, of the key, is touched, or a new one joins. -/
inductive Step (T : TabR) (k : KeyV) : TabR → Prop
  | same : Step T k T
  | upd (j : Nat) (c c' : CtxR) : T.cs[j]? = some c → c.v.key = k → CtxOk c' → c'.v.key = c.v.key → c'.v.left = c.v.left → c'.v.began = c.v.began → Step T k (T.upd j c')
  | join (T1 : TabR) (c' : CtxR) : Roomed T T1 → (∀ c ∈ T.cs, c.v.key ≠ k) → CtxOk c' → c'.v.key = k → c'.v.left = T.ticks → c'.v.began = T1.begun → Step T k { T1 with begun := T1.begun + 1, cs := T1.cs ++ [c'] }
theorem Roomed.same {T T1 : TabR} (h : Roomed T T1) (hT : TabOk T) : T1.g = T.g ∧ T1.m = T.m ∧ T1.max = T.max ∧ T1.ticks = T.ticks ∧ T1.begun = T.begun ∧ (∀ c ∈ T1.cs, c ∈ T.cs) ∧ (T1.cs.length : Int) + 1 ≤ T.max ∧ T1.cs.Pairwise (fun a b => a.v.key ≠ b.v.key) ∧ ((T.cs.length : Int) < T.max → T1 = T) := by
  rcases h with ⟨h1, rfl⟩ | ⟨h1, j, x, hj, rfl⟩
  · exact ⟨rfl, rfl, rfl, rfl, rfl, fun _ h => h, by omega, hT.keys, fun _ => rfl⟩
  · have hlt := (List.getElem?_eq_some_iff.1 hj).1
    have hlen := hT.len
    refine ⟨rfl, rfl, rfl, rfl, rfl, fun c hc => List.mem_of_mem_eraseIdx hc, ?_, erase_keys hT.keys, fun h => absurd h h1⟩
    show ((T.cs.eraseIdx j).length : Int) + 1 ≤ T.max
    rw [List.length_eraseIdx_of_lt hlt]
    omega
theorem Step.ok {T T' : TabR} {k : KeyV} (h : Step T k T') (hT : TabOk T) : TabOk T' ∧ T'.g = T.g ∧ T'.m = T.m ∧ T'.max = T.max ∧ T'.ticks = T.ticks ∧ T.begun ≤ T'.begun ∧ T'.begun ≤ T.begun + 1 := by
  cases h with
  | same => exact ⟨hT, rfl, rfl, rfl, rfl, by omega, by omega⟩
  | upd j c c' hj hk hc h1 h2 h3 =>
    have hc0 := hT.ctx c (List.mem_of_getElem? hj)
    refine ⟨⟨hT.m1, hT.m2, hT.t1, hT.t2, hT.b1, ?_, fun x hx => ?_, set_keys hT.keys hj h1⟩, rfl, rfl, rfl, rfl, Int.le_refl _, ?_⟩
    · show ((T.cs.set j c').length : Int) ≤ T.max
      rw [List.length_set]; exact hT.len
    · rcases List.mem_or_eq_of_mem_set hx with hx | rfl
      · exact hT.ctx x hx
      · exact ⟨hc, by rw [h2]; exact hc0.2.1, by rw [h2]; exact hc0.2.2.1, by rw [h3]; exact hc0.2.2.2.1, by rw [h3]; exact hc0.2.2.2.2⟩
    · show T.begun ≤ T.begun + 1; omega
  | join T1 c' hR hno hc h1 h2 h3 =>
    obtain ⟨r1, r2, r3, r4, r5, r6, r7, r8, _⟩ := hR.same hT
    have ht := hT.t1
    have hb := hT.b1
    refine ⟨⟨by show 1 ≤ T1.max; rw [r3]; exact hT.m1, by show T1.max ≤ 256; rw [r3]; exact hT.m2, by show 1 ≤ T1.ticks; rw [r4]; exact hT.t1, by show T1.ticks ≤ 1048576; rw [r4]; exact hT.t2, by show 0 ≤ T1.begun + 1; omega, ?_, fun x hx => ?_, ?_⟩, r1, r2, r3, r4, by show T.begun ≤ T1.begun + 1; omega, by show T1.begun + 1 ≤ _; omega⟩
    · show ((T1.cs ++ [c']).length : Int) ≤ T1.max
      rw [List.length_append, List.length_singleton]; omega
    · show CtxOk x ∧ 1 ≤ x.v.left ∧ x.v.left ≤ T1.ticks ∧ 0 ≤ x.v.began ∧ x.v.began < T1.begun + 1
      rcases List.mem_append.1 hx with hx | hx
      · obtain ⟨q1, q2, q3, q4, q5⟩ := hT.ctx x (r6 x hx)
        exact ⟨q1, q2, by omega, q4, by omega⟩
      · rw [List.mem_singleton.1 hx]
        exact ⟨hc, by omega, by omega, by omega, by omega⟩
    · refine List.pairwise_append.2 ⟨r8, List.pairwise_singleton _ _, fun a ha b hb => ?_⟩
      rw [List.mem_singleton.1 hb, h1]
      exact hno a (r6 a ha)
theorem join_upd (T1 : TabR) (c c' : CtxR) : (T1.join c).upd T1.cs.length c' = { T1 with begun := T1.begun + 1, cs := T1.cs ++ [c'] } := by
  unfold TabR.upd TabR.join
  congr 1
  simp
theorem CtxOk.first4 {c c1 : CtxR} {h : Ip4V} {os : List OptR} {d : List Int} (hk : CtxOk c) (h1 : First4 h os d c c1) (hs : Bts h.src.bytes) (hd : Bts h.dst.bytes) : CtxOk c1 := by
  have hf := h1.fine hs hd hk.f4
  cases h1 with
  | yes so sd os' _ _ _ _ _ => exact ⟨hk.holes, hk.st, hk.open_, hk.frags, hf, hk.f6, hk.why⟩
  | no _ => exact hk
theorem CtxOk.first6 {c c1 : CtxR} {h : Ip6V} {es : List ExtR} {d : List Int} (hk : CtxOk c) (h1 : First6 h es d c c1) (hs : Bts h.src.bytes) (hd : Bts h.dst.bytes) (hn : es.length ≤ 1000) : CtxOk c1 := by
  have hf := h1.fine hs hd hn hk.f6
  cases h1 with
  | yes so sd os' _ _ _ _ _ => exact ⟨hk.holes, hk.st, hk.open_, hk.frags, hk.f4, hf, hk.why⟩
  | no _ => exact hk
/-- A held piece: the one context of its table that is touched. -/
theorem Tail4.at {T T' : TabR} {j : Nat} {c : CtxR} {r : HolR} {h : Ip4V} {os : List OptR} {d : List Int} {o e : Int} (ht : Tail4 T j c r h os d T' o e) (hk : CtxOk c) (hf : 1 ≤ c.v.frags) (hs : Bts h.src.bytes) (hd : Bts h.dst.bytes) :
    ∃ c', T' = T.upd j c' ∧ CtxOk c' ∧ c'.v.key = c.v.key ∧ c'.v.left = c.v.left ∧ c'.v.began = c.v.began := by
  have hfr := hk.frags
  cases ht with
  | part c1 h1 _ => obtain ⟨s1, s2, s3, s4, s5, s6, s7, s8, s9, _⟩ := h1.same; exact ⟨c1, rfl, hk.first4 h1 hs hd, s2, s8, s9⟩
  | spoil c1 h1 _ => obtain ⟨s1, s2, s3, s4, s5, s6, s7, s8, s9, _⟩ := h1.same; exact ⟨_, rfl, CtxOk.shut (.inr rfl) (fun _ => by decide) (by omega), s2, s8, s9⟩
  | whole c1 h1 _ => obtain ⟨s1, s2, s3, s4, s5, s6, s7, s8, s9, _⟩ := h1.same; exact ⟨_, rfl, CtxOk.shut (.inl rfl) (fun h => by cases h) (by omega), s2, s8, s9⟩
theorem Tail6'.at {T T' : TabR} {j : Nat} {c : CtxR} {r : HolR} {h : Ip6V} {es : List ExtR} {d : List Int} {id n o e : Int} {od : Option Ip6D} (ht : Tail6' T j c r h es d id T' n o e od) (hk : CtxOk c) (hf : 1 ≤ c.v.frags) (hs : Bts h.src.bytes) (hd : Bts h.dst.bytes) (hn : es.length ≤ 1000) :
    ∃ c', T' = T.upd j c' ∧ CtxOk c' ∧ c'.v.key = c.v.key ∧ c'.v.left = c.v.left ∧ c'.v.began = c.v.began := by
  have hfr := hk.frags
  cases ht with
  | part c1 h1 _ => obtain ⟨s1, s2, s3, s4, s5, s6, s7, s8, s9, _⟩ := h1.same; exact ⟨c1, rfl, hk.first6 h1 hs hd hn, s2, s8, s9⟩
  | spoil c1 h1 _ => obtain ⟨s1, s2, s3, s4, s5, s6, s7, s8, s9, _⟩ := h1.same; exact ⟨_, rfl, CtxOk.shut (.inr rfl) (fun _ => by decide) (by omega), s2, s8, s9⟩
  | whole c1 h1 _ => obtain ⟨s1, s2, s3, s4, s5, s6, s7, s8, s9, _⟩ := h1.same; exact ⟨_, rfl, CtxOk.shut (.inl rfl) (fun h => by cases h) (by omega), s2, s8, s9⟩
theorem Open.free {T : TabR} {k : KeyV} {done spoiled : Int} {j : Nat} {c : CtxR} {r r' : HolR} (hT : TabOk T) (h : Open T k done spoiled j c r r') (h1 : done ≠ 0) (h2 : c.v.state = 2 → spoiled ≠ 0) : CtxOk c ∧ c.v.state = 0 ∧ c.v.frags ≠ 1024 := by
  have hok := (hT.ctx c (List.mem_of_getElem? h.at_)).1
  refine ⟨hok, ?_⟩
  have hr := h.rdy
  have hst := hok.st
  unfold readyS at hr
  split at hr
  · exact absurd hr h1
  split at hr
  · rename_i hs; exact absurd hr (h2 hs)
  split at hr
  · cases hr
  · omega
theorem Out4.step {T T' : TabR} {h : Ip4V} {os : List OptR} {d : List Int} {o e : Int} (ho : Out4 T h os d T' o e) (hT : TabOk T) (hs : Bts h.src.bytes) (hd : Bts h.dst.bytes) : Step T (key4 h) T' := by
  cases ho with
  | bad _ => exact .same
  | whole _ _ _ => exact .same
  | unready j c _ _ _ => exact .same
  | refused j c r r' hop hs' _ => 
    have hok := (hop.free hT (by decide) fun _ => by decide).1
    exact .upd j c _ hop.at_ hop.key (hok.lay hop.hole hop.g (by rw [hs']; exact hop.ok)) rfl rfl rfl
  | dup j c r r' hop _ _ hro _ =>
    have hok := (hop.free hT (by decide) fun _ => by decide).1
    exact .upd j c _ hop.at_ hop.key (hok.lay hop.hole hop.g hro) rfl rfl rfl
  | held j c r r' T' o e hop _ _ hro _ ht =>
    obtain ⟨hok, _, hf0⟩ := hop.free hT (by decide) fun _ => by decide
    obtain ⟨c', rfl, q1, q2, q3, q4⟩ := ht.at (hok.hold hop.hole hop.g hro hf0) (by have := hok.frags; show 1 ≤ c.v.frags + 1; omega) hs hd
    rw [upd_upd]
    exact .upd j c c' hop.at_ hop.key q1 q2 q3 q4
  | nrefused _ _ => exact .same
  | ndup _ _ _ => exact .same
  | nfull _ _ _ _ => exact .same
  | nheld T1 g r' T' o e hno _ _ hro _ hR ht =>
    obtain ⟨c', rfl, q1, q2, q3, q4⟩ := ht.at (CtxOk.fresh hro) (by show (1 : Int) ≤ 0 + 1; omega) hs hd
    rw [join_upd]
    exact .join T1 c' hR hno q1 q2 q3 q4
theorem Out6.step {T T' : TabR} {h : Ip6V} {es : List ExtR} {d : List Int} {n o e : Int} {od : Option Ip6D} (ho : Out6 T h es d T' n o e od) (hT : TabOk T) (hs : Bts h.src.bytes) (hd : Bts h.dst.bytes) (hn : es.length ≤ 1000) : Step T (key6 h) T' := by
  have why : ∀ {j : Nat} {c : CtxR} {r r' : HolR}, Open T (key6 h) 125 c.v.why j c r r' → CtxOk c ∧ c.v.state = 0 ∧ c.v.frags ≠ 1024 := fun hop => hop.free hT (by decide) ((hT.ctx _ (List.mem_of_getElem? hop.at_)).1.why)
  cases ho with
  | bad _ => exact .same
  | plain _ _ => exact .same
  | atomBad _ _ _ _ _ => exact .same
  | atom _ _ _ _ _ => exact .same
  | unready j c _ _ _ => exact .same
  | refused j c r r' hop hs' _ => exact .upd j c _ hop.at_ hop.key ((why hop).1.lay hop.hole hop.g (by rw [hs']; exact hop.ok)) rfl rfl rfl
  | same j c r r' hop _ _ hro _ => exact .upd j c _ hop.at_ hop.key ((why hop).1.lay hop.hole hop.g hro) rfl rfl rfl
  | overlap j c r r' hop _ _ _ => exact .upd j c _ hop.at_ hop.key (CtxOk.shut (.inr rfl) (fun _ => by decide) (why hop).1.frags) rfl rfl rfl
  | held j c r r' T' n o e od hop _ _ hro _ _ ht =>
    obtain ⟨hok, _, hf0⟩ := why hop
    obtain ⟨c', rfl, q1, q2, q3, q4⟩ := ht.at (hok.hold hop.hole hop.g hro hf0) (by have := hok.frags; show 1 ≤ c.v.frags + 1; omega) hs hd hn
    rw [upd_upd]
    exact .upd j c c' hop.at_ hop.key q1 q2 q3 q4
  | nrefused _ _ => exact .same
  | nfull _ _ _ => exact .same
  | nheld T1 g r' T' n o e od hno _ _ hro hR ht =>
    obtain ⟨c', rfl, q1, q2, q3, q4⟩ := ht.at (CtxOk.fresh hro) (by show (1 : Int) ≤ 0 + 1; omega) hs hd hn
    rw [join_upd]
    exact .join T1 c' hR hno q1 q2 q3 q4
theorem Out6.weak {T T' : TabR} {h : Ip6V} {es : List ExtR} {d : List Int} {n o e : Int} {od : Option Ip6D} (ho : Out6 T h es d T' n o e od) (hn : T' = T ∨ es.length ≤ 1000) (hT : TabOk T) (hs : Bts h.src.bytes) (hd : Bts h.dst.bytes) : Step T (key6 h) T' := by
  rcases hn with rfl | hn
  · exact .same
  · exact ho.step hT hs hd hn
/-! ### Calls in any company -/
section
variable {w : World} {Γ : List Fct} {T : TabR}
theorem tab_part (H : Sep (Γ ++ tabFs T) w) : Sep (tabFs T) w := H.sub (List.sublist_append_right _ _)
theorem step4 {h : Ip4V} {os : List OptR} {d : List Int} (H : Sep (Γ ++ tabFs T) w) (hT : TabOk T) (hb : T.begun ≤ 4611686018427387904) (hA : ∀ w', Sep Γ w' → Ip4At w' h os d) :
    Calls Tryd.prog 5 #[T.p, h.val] w fun e w' => ∃ (T' : TabR) (res : Ip4V) (o er : Int), e = .returned (.tuple #[res.val, .int .i64 o, .int .i64 er]) ∧ Out4 T h os d T' o er ∧ Sep (Γ ++ tabFs T') w' := by
  refine (offer4_spec (tab_part H) hT hb fun w' hm => hA w' (H.keep hm)).mono ?_
  rintro _ w' ⟨T', res, o, er, rfl, ho, H'⟩
  exact ⟨T', res, o, er, rfl, ho, Sep.turn H H'⟩
theorem step6 {h : Ip6V} {es : List ExtR} {d : List Int} (H : Sep (Γ ++ tabFs T) w) (hT : TabOk T) (hb : T.begun ≤ 4611686018427387904) (hA : ∀ w', Sep Γ w' → Ip6At w' h es d) (hK : ∀ w', Sep Γ w' → Kn w') :
    Calls Tryd.prog 8 #[T.p, h.val] w fun e w' => ∃ (T' : TabR) (res : Ip6V) (n o er : Int) (od : Option Ip6D), e = .returned (.tuple #[res.val, .int .i64 n, .int .i64 o, .int .i64 er]) ∧ Out6 T h es d T' n o er od ∧ Sep (Γ ++ tabFs T') w' ∧ Back6 w' res od ∧ (T' = T ∨ es.length ≤ 1000) := by
  refine (offer6_spec (tab_part H) hT hb (fun w' hm => hA w' (H.keep hm)) fun w' hm => hK w' (H.keep hm)).mono ?_
  rintro _ w' ⟨T', res, n, o, er, od, rfl, ho, H', hb6⟩
  exact ⟨T', res, n, o, er, od, rfl, ho, Sep.turn H H', hb6⟩
theorem tick_ok {cs : List CtxR} (hT : TabOk T) (hp : cs.Perm (T.cs.filterMap dec)) (hk : cs.Pairwise (fun a b => a.v.key ≠ b.v.key)) : TabOk { T with cs := cs } where
  m1 := hT.m1
  m2 := hT.m2
  t1 := hT.t1
  t2 := hT.t2
  b1 := hT.b1
  len := by
    have h1 := hp.length_eq
    have h2 := List.length_filterMap_le dec T.cs
    have := hT.len
    show (cs.length : Int) ≤ T.max
    omega
  ctx := fun c hc => by
    obtain ⟨x, hx, hd⟩ := List.mem_filterMap.1 (hp.subset hc)
    obtain ⟨q1, q2, q3, q4, q5⟩ := hT.ctx x hx
    unfold dec at hd
    split at hd
    · cases hd
      refine ⟨⟨q1.holes, q1.st, q1.open_, q1.frags, q1.f4, q1.f6, q1.why⟩, ?_, ?_, q4, q5⟩
      · show 1 ≤ x.v.left - 1; omega
      · show x.v.left - 1 ≤ T.ticks; omega
    · cases hd
  keys := hk
theorem stepT (H : Sep (Γ ++ tabFs T) w) (hT : TabOk T) (hb : T.begun ≤ 4611686018427387904) : Calls Tryd.prog 9 #[T.p] w fun e w' => ∃ (s : Sl) (cs : List CtxR), e = .returned s.val ∧ cs.Perm (T.cs.filterMap dec) ∧ TabOk { T with cs := cs } ∧ Sep (Γ ++ tabFs { T with cs := cs }) w' := by
  refine (tick_spec (tab_part H) hT hb).mono ?_
  rintro _ w' ⟨s, cs, rfl, hp, hk, H'⟩
  exact ⟨s, cs, rfl, hp, tick_ok hT hp hk, Sep.turn H H'⟩
theorem stepL (H : Sep (Γ ++ tabFs T) w) : Calls Tryd.prog 6 #[T.p] w fun e w' => w' = w ∧ e = .returned (.int .i64 (T.cs.length : Int)) := live_spec (tab_part H)
theorem stepH (H : Sep (Γ ++ tabFs T) w) (hT : TabOk T) : Calls Tryd.prog 7 #[T.p] w fun e w' => e = .returned (.int .i64 (T.cs.map (·.v.frags)).sum) ∧ Sep (Γ ++ tabFs T) w' := by
  refine (held_spec (tab_part H) hT).mono ?_
  rintro _ w' ⟨rfl, H'⟩
  exact ⟨rfl, Sep.turn H H'⟩
theorem stepF (H : Sep (Γ ++ tabFs T) w) (hT : TabOk T) (hb : T.begun ≤ 4611686018427387904) : Calls Tryd.prog 10 #[T.p] w fun e w' => e = .returned (.int .i64 ((T.cs.filter (selS 1)).length : Int)) ∧ Sep (Γ ++ tabFs T) w' := by
  refine (finished_spec (tab_part H) hT hb).mono ?_
  rintro _ w' ⟨rfl, H'⟩
  exact ⟨rfl, Sep.turn H H'⟩
end
end N6
end Go.Proofs.YthhgbpmihhljdaaDoor
/- TopBounded: the first fragment, and the same of one further on. -/
namespace Go.Proofs.YthhgbpmihhljdaaDoor
namespace N6
open Go Go.Eng Go.RowKit
def fstV (g1 : Nat) (off : Int) : Ip4V := ⟨0, 65535, false, true, off, 9, 253, ⟨4, 192, 0, 2, 1, 0, 0, 0, 0, 0, 0, 0, 0, 0, 0, 0, 0⟩, ⟨4, 192, 0, 2, 2, 0, 0, 0, 0, 0, 0, 0, 0, 0, 0, 0, 0⟩, ⟨none, 0, 0⟩, ⟨some ⟨g1, 0, none⟩, 8, 8⟩⟩
def zs8 : List Int := List.replicate 8 0
theorem fst_check {g1 : Nat} {i : Nat} (hi : i ≤ 1000) : check4S ((fstV g1 (8 * (i : Int))).d [] zs8) = 0 := by
  have h1 : ¬ bad4 ((fstV g1 (8 * (i : Int))).d [] zs8) := by
    have f1 : four4 (fstV g1 (8 * (i : Int))).src := ⟨rfl, rfl, rfl, rfl, rfl, rfl, rfl, rfl, rfl, rfl, rfl, rfl, rfl⟩
    have f2 : four4 (fstV g1 (8 * (i : Int))).dst := ⟨rfl, rfl, rfl, rfl, rfl, rfl, rfl, rfl, rfl, rfl, rfl, rfl, rfl⟩
    unfold bad4
    rintro (h | h | h | h | h | h | h | h | h | h | h | h | h)
    · have h : (0 : Int) < 0 := h; omega
    · have h : (255 : Int) < 0 := h; omega
    · have h : (65535 : Int) < 0 := h; omega
    · have h : (65535 : Int) < 65535 := h; omega
    · have h : 8 * (i : Int) < 0 := h; omega
    · have h : 65528 < 8 * (i : Int) := h; omega
    · have h : 8 * (i : Int) % 8 ≠ 0 := h; omega
    · have h : (9 : Int) < 0 := h; omega
    · have h : (255 : Int) < 9 := h; omega
    · have h : (253 : Int) < 0 := h; omega
    · have h : (255 : Int) < 253 := h; omega
    · exact h f1
    · exact h f2
  have h2 : ¬ frag4 true (8 * (i : Int)) 8 := by
    unfold frag4
    rintro (⟨_, h | h⟩ | h)
    · cases h
    · exact absurd h (by decide)
    · omega
  unfold check4S
  have h3 : ¬ (putOpts4 []).2 ≠ 0 := by decide
  have h4 : ¬ 65535 < 20 + (putOpts4 []).1.length + zs8.length := by decide
  rw [if_neg h1]
  exact (if_neg h3).trans ((if_neg h4).trans (if_neg h2))
/-- Holes that are whole from here on. -/
structure From (s : HolS) (i : Nat) : Prop where
  ok : HolOk s
  max : s.max = 65515
  fin : s.fin = -1
  miss : ∀ p : Int, Miss s.gaps p ↔ 8 * (i : Int) ≤ p ∧ p < 65515
theorem From.start : From (HolS.start 65515) 0 := ⟨HolOk.start (by decide) (by decide), rfl, rfl, fun p => by
  constructor
  · rintro ⟨g, hg, h1, h2⟩
    rw [List.mem_singleton.1 hg] at h1 h2
    exact ⟨h1, h2⟩
  · rintro ⟨h1, h2⟩
    exact ⟨(0, 65515), List.mem_singleton.2 rfl, h1, h2⟩⟩
theorem bts8 : Bts zs8 := fun x hx => by rw [(List.mem_replicate.1 hx).2]; omega
theorem From.take {s : HolS} {i : Nat} (h : From s i) (hi : i ≤ 1000) : refusedS s (8 * (i : Int)) zs8.length true = 0 ∧ ¬ dup4 s (8 * (i : Int)) zs8 true ∧ From (putS s (8 * (i : Int)) zs8 true) (i + 1) ∧ (putS s (8 * (i : Int)) zs8 true).gaps ≠ [] := by
  have hl : zs8.length = 8 := rfl
  have hmax := h.max
  have hfin := h.fin
  have hr : refusedS s (8 * (i : Int)) zs8.length true = 0 := by
    unfold refusedS
    rw [hl, if_neg (by decide), if_neg (by omega), if_neg (by decide), if_neg (by rw [hmax]; omega), if_neg (by rintro ⟨_, h, _⟩; cases h), if_neg (by rw [hfin]; omega), if_neg (by rintro ⟨_, h, _⟩; cases h)]
  have hn : newN (8 * (i : Int)) (8 * (i : Int) + zs8.length) s.gaps = 8 := by
    have := newN_all (off := 8 * (i : Int)) (to := 8 * (i : Int) + zs8.length) (by rw [hl]; omega) h.ok.gs fun p h1 h2 => (h.miss p).2 ⟨h1, by rw [hl] at h2; omega⟩
    rw [this, hl]; omega
  have hp := put_ok h.ok bts8 hr
  have hm : ∀ p : Int, Miss (putS s (8 * (i : Int)) zs8 true).gaps p ↔ 8 * ((i + 1 : Nat) : Int) ≤ p ∧ p < 65515 := fun p => by
    rw [hp.2.2.1 p, h.miss p, hl]
    constructor
    · rintro ⟨h1, h2, _⟩; omega
    · rintro ⟨h1, h2⟩
      exact ⟨by omega, by omega, fun h => by cases h⟩
  refine ⟨hr, ?_, ⟨hp.1, hmax, ?_, hm⟩, ?_⟩
  · rintro ⟨h1, _⟩
    have h1 : newN (8 * (i : Int)) (8 * (i : Int) + zs8.length) s.gaps = 0 := h1
    omega
  · unfold putS
    simp only [Bool.true_eq_false, false_and, if_false]
    exact hfin
  · intro h0
    have := (hm 65514).2 ⟨by omega, by omega⟩
    rw [h0] at this
    obtain ⟨g, hg, _⟩ := this
    cases hg
/-- One context, of the first fragment's key. -/
structure Mid (g1 : Nat) (T : TabR) (i : Nat) (c : CtxR) : Prop where
  cs : T.cs = [c]
  key : c.v.key = key4 (fstV g1 0)
  st : c.v.state = 0
  frags : c.v.frags = i
  hole : ∃ r, c.hole = some r ∧ From r.s i
theorem tail_part {T T' : TabR} {j : Nat} {c : CtxR} {r : HolR} {h : Ip4V} {os : List OptR} {d : List Int} {o e : Int} (ht : Tail4 T j c r h os d T' o e) (hg : r.s.gaps ≠ []) : o = 2 ∧ e = 0 ∧ ∃ c1, First4 h os d c c1 ∧ T' = T.upd j c1 := by
  cases ht with
  | part c1 h1 _ => exact ⟨rfl, rfl, c1, h1, rfl⟩
  | spoil c1 _ hw => exact absurd hw.2 hg
  | whole c1 _ hw => exact absurd hw.2 hg
theorem one_at {α : Type} {x c : α} {j : Nat} (h : [x][j]? = some c) : j = 0 ∧ c = x := by
  cases j with
  | zero => simp at h; exact ⟨rfl, h.symm⟩
  | succ j => simp at h
theorem first_new {g1 : Nat} {T T' : TabR} {o e : Int} (hT : TabOk T) (h0 : T.cs = []) (ho : Out4 T (fstV g1 0) [] zs8 T' o e) : o = 2 ∧ e = 0 ∧ ∃ c, Mid g1 T' 1 c ∧ c.v.left = T.ticks := by
  obtain ⟨t1, t2, t3, t4⟩ := From.start.take (Nat.zero_le _)
  have hc : check4S ((fstV g1 0).d [] zs8) = 0 := fst_check (i := 0) (Nat.zero_le _)
  have no : ∀ {j : Nat} {c : CtxR}, T.cs[j]? = some c → False := fun h => by rw [h0] at h; simp at h
  cases ho with
  | bad h => exact absurd hc h
  | whole _ h _ => cases h
  | unready j c h _ _ => exact (no h).elim
  | refused j c r r' hop _ _ => exact (no hop.at_).elim
  | dup j c r r' hop _ _ _ _ => exact (no hop.at_).elim
  | held j c r r' T' o e hop _ _ _ _ _ => exact (no hop.at_).elim
  | nrefused _ h => exact absurd t1 h
  | ndup _ _ h => exact absurd h t2
  | nfull _ _ _ h => exact absurd (by rw [h0]; have := hT.m1; show ((0 : Nat) : Int) < T.max; omega) h
  | nheld T1 g r' T' o e hno hrf hs' hro hd hR ht =>
    have e1 : T1 = T := (hR.same hT).2.2.2.2.2.2.2.2 (by rw [h0]; have := hT.m1; show ((0 : Nat) : Int) < T.max; omega)
    subst e1
    have hs' : r'.s = putS (HolS.start 65515) (8 * ((0 : Nat) : Int)) zs8 true := hs'
    obtain ⟨rfl, rfl, c1, hf, rfl⟩ := tail_part ht (by rw [hs']; exact t4)
    obtain ⟨s1, s2, s3, s4, s5, s6, s7, s8, s9, _⟩ := hf.same
    refine ⟨rfl, rfl, c1, ⟨?_, s2, s6, s5, r', s1, ?_⟩, s8⟩
    · rw [join_upd]
      show T1.cs ++ [c1] = [c1]
      rw [h0]; rfl
    · rw [hs']; exact t3
theorem first_old {g1 : Nat} {T T' : TabR} {i : Nat} {c : CtxR} {o e : Int} (hm : Mid g1 T i c) (hi : i ≤ 1000) (h1 : 1 ≤ i) (ho : Out4 T (fstV g1 (8 * (i : Int))) [] zs8 T' o e) : o = 2 ∧ e = 0 ∧ ∃ c', Mid g1 T' (i + 1) c' ∧ c'.v.left = c.v.left := by
  obtain ⟨r0, hr0, hF⟩ := hm.hole
  obtain ⟨t1, t2, t3, t4⟩ := hF.take hi
  have hc : check4S ((fstV g1 (8 * (i : Int))).d [] zs8) = 0 := fst_check hi
  have at0 : ∀ {j : Nat} {x : CtxR}, T.cs[j]? = some x → j = 0 ∧ x = c := fun h => by rw [hm.cs] at h; exact one_at h
  have hnk : ¬ ∀ x ∈ T.cs, x.v.key ≠ key4 (fstV g1 (8 * (i : Int))) := fun h => h c (by rw [hm.cs]; exact List.mem_singleton.2 rfl) hm.key
  have hrd : readyS c.v 125 123 = 0 := by
    unfold readyS
    rw [hm.st, hm.frags, if_neg (by decide), if_neg (by decide), if_neg (by omega)]
  cases ho with
  | bad h => exact absurd hc h
  | whole _ h _ => cases h
  | unready j x h _ hne => obtain ⟨rfl, rfl⟩ := at0 h; exact absurd hrd hne
  | refused j x r r' hop _ hrf =>
    obtain ⟨rfl, rfl⟩ := at0 hop.at_
    have : r = r0 := Option.some.inj (hop.hole.symm.trans hr0)
    subst this
    exact absurd t1 hrf
  | dup j x r r' hop _ _ _ hd =>
    obtain ⟨rfl, rfl⟩ := at0 hop.at_
    have : r = r0 := Option.some.inj (hop.hole.symm.trans hr0)
    subst this
    exact absurd hd t2
  | held j x r r' T' o e hop hrf hs' hro hd ht =>
    obtain ⟨rfl, rfl⟩ := at0 hop.at_
    have : r = r0 := Option.some.inj (hop.hole.symm.trans hr0)
    subst this
    have hs' : r'.s = putS r.s (8 * (i : Int)) zs8 true := hs'
    obtain ⟨rfl, rfl, c1, hf, rfl⟩ := tail_part ht (by rw [hs']; exact t4)
    obtain ⟨s1, s2, s3, s4, s5, s6, s7, s8, s9, _⟩ := hf.same
    refine ⟨rfl, rfl, c1, ⟨?_, s2.trans hm.key, s6.trans hm.st, ?_, r', s1, ?_⟩, s8⟩
    · rw [upd_upd]
      show T.cs.set 0 c1 = [c1]
      rw [hm.cs]; rfl
    · rw [s5]
      show x.v.frags + 1 = _
      rw [hm.frags]; omega
    · rw [hs']; exact t3
  | nrefused h _ => exact absurd h hnk
  | ndup h _ _ => exact absurd h hnk
  | nfull h _ _ _ => exact absurd h hnk
  | nheld T1 g r' T' o e h _ _ _ _ _ _ => exact absurd h hnk
theorem perm_one {α : Type} {l : List α} {x : α} (h : l.Perm [x]) : l = [x] := List.perm_singleton.1 h
end N6
end Go.Proofs.YthhgbpmihhljdaaDoor
