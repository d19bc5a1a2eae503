/- Chapter 12: contexts and tables in memory; what a context may do. -/
import Derived.Test.YthhgbpmihhljdaaGreatDoorBbf
import Derived.Test.YthhgbpmihhljdaaGreatDoorBan
namespace Go.Proofs.YthhgbpmihhljdaaGreatDoor
namespace N6
open Go Go.Eng Go.RowKit
theorem ipv_bq {a b : IPV} : IPV.beq a b = true ↔ a = b := by
  cases a; cases b
  unfold IPV.beq
  simp only [Bool.and_eq_true, decide_eq_true_eq, IPV.mk.injEq, and_true]
theorem keyv_beq {a b : KeyV} : KeyV.beq a b = true ↔ a = b := by
  unfold KeyV.beq
  simp only [Bool.and_eq_true, decide_eq_true_eq, ipv_bq, and_true]
  constructor
  · rintro ⟨h1, h2, h3, h4⟩
    cases a; cases b
    simp only at h1 h2 h3 h4
    subst h1; subst h2; subst h3; subst h4; rfl
  · rintro rfl; exact ⟨rfl, rfl, rfl, rfl⟩
set_option maxRecDepth 100000 in
theorem keyv_bits (x : KeyV) : Instr.sameBits 10000 x.val x.val = true := by
  simp [Instr.sameBits, KeyV.val]
set_option maxRecDepth 100000 in
theorem keyv_key : KeyOk Tryz.prog 75 KeyV.val KeyV.beq where
  wide := by kernel_rfl
  check x em w := ck_sound 6 9994 _ _ (by kernel_rfl) w
  eq x y w := eqV_sound 6 9994 _ _ _ _ (by kernel_rfl) w
  same x y := keyv_beq
  bits x := keyv_bits x
structure CtxR where
  g : Nat
  v : CtxV
  hole : Option HolR
  os : List OptR
  d4 : List Int
  es : List ExtR
  d6 : List Int
def holOFs : Option HolR → List Fct
  | none => []
  | some r => holFs r
def rows4 (h : Ip4V) (os : List OptR) (d : List Int) : List Fct := optFs 0 h.opts os ++ [rowB 0 h.data d]
def rows6 (h : Ip6V) (es : List ExtR) (d : List Int) : List Fct := extFs 0 h.exts es ++ [rowB 0 h.data d]
abbrev ctxB (g : Nat) (v : CtxV) : Fct := Fct.blk g 81 v.cells
def ctxFs (c : CtxR) : List Fct := ctxB c.g c.v :: (holOFs c.hole ++ (rows4 c.v.h4 c.os c.d4 ++ rows6 c.v.h6 c.es c.d6))
structure Fine4 (h : Ip4V) (os : List OptR) (d : List Int) : Prop where
  opts : OptsFine h.opts os
  data : BFine h.data d
  src : Bts h.src.bytes
  dst : Bts h.dst.bytes
structure Fine6 (h : Ip6V) (es : List ExtR) (d : List Int) : Prop where
  exts : ExtsFine h.exts es
  data : BFine h.data d
  src : Bts h.src.bytes
  dst : Bts h.dst.bytes
  few : es.length ≤ 1000
structure CtxOk (c : CtxR) : Prop where
  holes : c.v.holes = c.hole.map fun r => ⟨r.g, 0, none⟩
  st : c.v.state = 0 ∨ c.v.state = 1 ∨ c.v.state = 2
  open_ : c.v.state = 0 → ∃ r, c.hole = some r ∧ HolOk r.s
  frags : 0 ≤ c.v.frags ∧ c.v.frags ≤ 1024
  f4 : Fine4 c.v.h4 c.os c.d4
  f6 : Fine6 c.v.h6 c.es c.d6
  why : c.v.state = 2 → c.v.why ≠ 0
/-- A context that holds nothing. -/
def CtxR.shut (c : CtxR) (state why frags : Int) : CtxR := ⟨c.g, { c.v with state := state, why := why, holes := none, frags := frags, first := false, h4 := Ip4V.z, h6 := Ip6V.z }, none, [], [], [], []⟩
theorem bts_z : Bts (IPV.z : IPV).bytes := fun x hx => by
  have : x = 0 := by simpa [IPV.bytes, IPV.z] using hx
  omega
theorem fine4_z : Fine4 Ip4V.z [] [] := ⟨⟨rfl, Nat.zero_le _, fun _ h => by cases h⟩, ⟨Nat.zero_le _, fun _ h => by cases h⟩, bts_z, bts_z⟩
theorem fine6_z : Fine6 Ip6V.z [] [] := ⟨⟨rfl, Nat.zero_le _, (fun _ h => by cases h), fun _ h => by cases h⟩, ⟨Nat.zero_le _, fun _ h => by cases h⟩, bts_z, bts_z, Nat.zero_le _⟩
theorem CtxOk.shut {c : CtxR} {state why frags : Int} (hs : state = 1 ∨ state = 2) (hw : state = 2 → why ≠ 0) (hf : 0 ≤ frags ∧ frags ≤ 1024) : CtxOk (c.shut state why frags) :=
  ⟨rfl, .inr hs, fun h => by have h : state = 0 := h; omega, hf, fine4_z, fine6_z, hw⟩
section
variable {w : World} {Γ : List Fct} {g : Nat} {v : CtxV} {c : CtxR}
/-- Parts that hold nothing. -/
theorem Sep.nils (H : Sep Γ w) : Sep (Γ ++ (rows4 Ip4V.z [] [] ++ rows6 Ip6V.z [] [])) w := by
  have H := (((H.nil 0 127 2).nil 0 5 1).nil 0 56 3).nil 0 5 1
  simp only [List.append_assoc] at H
  exact H
theorem end_spec {st : Int} (hb : Blk w g 81 v.cells) : Calls Tryz.prog 58 #[.pointer (some ⟨g, 0, none⟩), .int .i64 st] w fun e w' => e = .returned (.tuple #[]) ∧
    Sep [Fct.rest w (fun k => k = g), ctxB g { v with state := st, holes := none, first := false, h4 := Ip4V.z, h6 := Ip6V.z }] w' := by
  refine reasm_context_end_of _ st w _ ?_
  unfold reasm_context_end_VC
  have H : Sep [Fct.rest w (fun k => k = g), ctxB g v] w := Sep.begin hb (fun _ e => e) fun k hk => by cases hk; exact hb.lt
  refine ⟨_, rfl, SetVC.sep H 1 (k := 38) rfl (show 38 < 130 by decide) fun w1 H => ⟨_, rfl, SetVC.sep H 1 (k := 40) rfl (show 40 < 130 by decide) fun w2 H => ⟨_, rfl, SetVC.sep H 1 (k := 42) rfl (show 42 < 130 by decide) fun w3 H => ⟨_, rfl, ?_⟩⟩⟩⟩
  have H : Sep [Fct.rest w (fun k => k = g), ctxB g { v with state := st, holes := none, first := false }] w3 := H
  refine Stores.sep (o := 43) H 1 (cs' := CtxV.cells { v with state := st, holes := none, first := false, h4 := Ip4V.z }) rfl (Ip4V.one _) (show 43 + 43 ≤ 130 by decide) rfl fun w4 H => ⟨_, rfl, ?_⟩
  refine Stores.sep (o := 86) H 1 (cs' := CtxV.cells { v with state := st, holes := none, first := false, h4 := Ip4V.z, h6 := Ip6V.z }) rfl (Ip6V.one _) (show 86 + 44 ≤ 130 by decide) rfl fun w5 H => ⟨rfl, H⟩
theorem spoil_spec {why n : Int} (hb : Blk w g 81 v.cells) : Calls Tryz.prog 30 #[.pointer (some ⟨g, 0, none⟩), .int .i64 why, .int .i64 n] w fun e w' => e = .returned (.tuple #[]) ∧
    Sep [Fct.rest w (fun k => k = g), ctxB g { v with state := 2, why := why, holes := none, frags := n, first := false, h4 := Ip4V.z, h6 := Ip6V.z }] w' := by
  refine reasm_context_spoil_of _ why n w _ ?_
  unfold reasm_context_spoil_VC
  refine (end_spec hb).mono ?_
  rintro _ w1 ⟨rfl, H⟩
  exact ⟨rfl, _, rfl, SetVC.sep H 1 (k := 39) rfl (show 39 < 130 by decide) fun w2 H => ⟨_, rfl, SetVC.sep H 1 (k := 41) rfl (show 41 < 130 by decide) fun w3 H => ⟨rfl, H⟩⟩⟩
theorem finish_spec (hb : Blk w g 81 v.cells) : Calls Tryz.prog 33 #[.pointer (some ⟨g, 0, none⟩)] w fun e w' => e = .returned (.tuple #[]) ∧
    Sep [Fct.rest w (fun k => k = g), ctxB g { v with state := 1, holes := none, frags := 0, first := false, h4 := Ip4V.z, h6 := Ip6V.z }] w' := by
  refine reasm_context_finish_of _ w _ ?_
  unfold reasm_context_finish_VC
  refine (end_spec hb).mono ?_
  rintro _ w1 ⟨rfl, H⟩
  exact ⟨rfl, _, rfl, SetVC.sep H 1 (k := 41) rfl (show 41 < 130 by decide) fun w2 H => ⟨rfl, H⟩⟩
/-- Why a context takes nothing; 0: it does. -/
def readyS (v : CtxV) (done spoiled : Int) : Int := if v.state = 1 then done else if v.state = 2 then spoiled else if v.frags = 1024 then 124 else 0
theorem ready_none {done spoiled : Int} : Calls Tryz.prog 28 #[.pointer none, .int .i64 done, .int .i64 spoiled] w fun e w' => w' = w ∧ e = .returned (.int .i64 0) := by
  refine reasm_context_ready_of none done spoiled w _ ?_
  unfold reasm_context_ready_VC
  exact Br.t rfl ⟨rfl, rfl⟩
theorem ready_spec {done spoiled : Int} (hb : Blk w g 81 v.cells) : Calls Tryz.prog 28 #[.pointer (some ⟨g, 0, none⟩), .int .i64 done, .int .i64 spoiled] w fun e w' => w' = w ∧ e = .returned (.int .i64 (readyS v done spoiled)) := by
  refine reasm_context_ready_of _ done spoiled w _ ?_
  unfold reasm_context_ready_VC readyS
  refine Br.f rfl ⟨_, rfl, v.state, hb.cell 38, Br.dec (fun h1 => ⟨rfl, by rw [if_pos h1]⟩) fun h1 => ⟨_, rfl, v.state, hb.cell 38, Br.dec (fun h2 => ⟨rfl, by rw [if_neg h1, if_pos h2]⟩) fun h2 => ⟨_, rfl, v.frags, hb.cell 41, Br.dec (fun h3 => ⟨rfl, by rw [if_neg h1, if_neg h2, if_pos h3]⟩) fun h3 => ⟨rfl, by rw [if_neg h1, if_neg h2, if_neg h3]⟩⟩⟩⟩
end
/-! ### Tables -/
structure TabR where
  g : Nat
  m : Nat
  max : Int
  ticks : Int
  begun : Int
  cs : List CtxR
def TabR.cells (T : TabR) : List Value := [.int .i64 T.max, .int .i64 T.ticks, .int .i64 T.begun, .map (some T.m)]
abbrev TabR.p (T : TabR) : Value := .pointer (some ⟨T.g, 0, none⟩)
abbrev CtxR.p (c : CtxR) : Value := .pointer (some ⟨c.g, 0, none⟩)
def ck (c : CtxR) : KeyV × Value := (c.v.key, c.p)
abbrev tabB (T : TabR) : Fct := Fct.blk T.g 71 T.cells
abbrev tabM (T : TabR) : Fct := Fct.mp T.m (kvs KeyV.val (T.cs.map ck))
def tabFs (T : TabR) : List Fct := tabB T :: tabM T :: T.cs.flatMap ctxFs
structure TabOk (T : TabR) : Prop where
  m1 : 1 ≤ T.max
  m2 : T.max ≤ 256
  t1 : 1 ≤ T.ticks
  t2 : T.ticks ≤ 1048576
  b1 : 0 ≤ T.begun
  len : (T.cs.length : Int) ≤ T.max
  ctx : ∀ c ∈ T.cs, CtxOk c ∧ 1 ≤ c.v.left ∧ c.v.left ≤ T.ticks ∧ 0 ≤ c.v.began ∧ c.v.began < T.begun
  keys : T.cs.Pairwise fun a b => a.v.key ≠ b.v.key
/-- All but one context. -/
def tabRest (T : TabR) (j : Nat) : List Fct := tabB T :: tabM T :: (T.cs.eraseIdx j).flatMap ctxFs
def TabR.upd (T : TabR) (j : Nat) (c : CtxR) : TabR := { T with cs := T.cs.set j c }
theorem flat_erase {α β : Type} (f : α → List β) : ∀ (l : List α) (j : Nat) (x : α), l[j]? = some x → (l.flatMap f).Perm ((l.eraseIdx j).flatMap f ++ f x)
  | [], j, x, h => by simp at h
  | y :: l, 0, x, h => by
    simp at h; subst h
    rw [List.flatMap_cons]
    exact List.perm_append_comm
  | y :: l, j + 1, x, h => by
    rw [List.flatMap_cons, List.eraseIdx_cons_succ, List.flatMap_cons, List.append_assoc]
    exact (flat_erase f l j x (by simpa using h)).append_left _
theorem tab_focus {T : TabR} {j : Nat} {c : CtxR} (h : T.cs[j]? = some c) : (tabFs T).Perm (tabRest T j ++ ctxFs c) :=
  ((flat_erase ctxFs T.cs j c h).cons _).cons _
theorem erase_set {α : Type} : ∀ (l : List α) (j : Nat) (x : α), (l.set j x).eraseIdx j = l.eraseIdx j
  | [], _, _ => rfl
  | _ :: _, 0, _ => rfl
  | y :: l, j + 1, x => by simp [erase_set l j x]
theorem tab_unfocus {T : TabR} {j : Nat} {c c' : CtxR} (h : T.cs[j]? = some c) (hk : c'.v.key = c.v.key) (hg : c'.g = c.g) : (tabFs (T.upd j c')).Perm (tabRest T j ++ ctxFs c') := by
  have hlt := (List.getElem?_eq_some_iff.1 h).1
  have h1 : (T.upd j c').cs[j]? = some c' := by show (T.cs.set j c')[j]? = _; rw [List.getElem?_set]; simp [hlt]
  have h2 := tab_focus h1
  have e1 : (T.upd j c').cs.map ck = T.cs.map ck := by
    show (T.cs.set j c').map ck = _
    apply List.ext_getElem?
    intro m
    rw [List.getElem?_map, List.getElem?_map, List.getElem?_set]
    by_cases hm : j = m
    · subst hm
      rw [if_pos rfl, if_pos hlt, h]
      show some (c'.v.key, c'.p) = some (c.v.key, c.p)
      rw [hk]
      unfold CtxR.p
      rw [hg]
    · rw [if_neg hm]
  have e2 : tabRest (T.upd j c') j = tabRest T j := by
    unfold tabRest tabM
    rw [e1]
    show tabB (T.upd j c') :: _ = _
    unfold TabR.upd
    rw [erase_set]
    rfl
  rw [e2] at h2
  exact h2
end N6
end Go.Proofs.YthhgbpmihhljdaaGreatDoor
/- Chapter 12: all contexts of a table, in the order in which they began; how many; room. -/
namespace Go.Proofs.YthhgbpmihhljdaaGreatDoor
namespace N6
open Go Go.Eng Go.RowKit
def selS (st : Int) (c : CtxR) : Bool := decide (st < 0) || decide (c.v.state = st)
def cp (c : CtxR) : CtxP := (c.g, c.v.began)
abbrev rowC (s : Sl) (l : List CtxP) : Fct := Fct.own 0 76 1 s.val s.n (l.map ptrV)
theorem tC : TypeIs Tryz.prog 76 (.pointer none) 1 8 := .of (by kernel_rfl)
section
variable {w : World} {Γ : List Fct} {T : TabR}
theorem appC (H : Sep Γ w) (i : Nat) {n c : Nat} {A A' : Option Addr} {l : List CtxP} {x : CtxP} {c' : Nat} (hi : Γ[i]? = some (rowC ⟨A, n, c⟩ l)) (hs : Cells w A' [ptrV x]) (hn : n ≤ 1000000000)
    {F : Option Addr → Nat → Nat → World → Prop} (h : ∀ A2 c2 w', Sep (Γ.set i (rowC ⟨A2, n + 1, c2⟩ (l ++ [x]))) w' → n + 1 ≤ c2 → F A2 (n + 1) c2 w') :
    AppVC Tryz.prog #[97, 97] 97 (.slice A n c) (.slice A' 1 c') w F :=
  AppVC.sep H i Tryz.underlying97 tC rfl (by decide) hi hs rfl (fun u hu => by simp at hu; subst hu; rfl) (by omega) (by decide) (Nat.zero_le _) fun A2 c2 w' H hc => h A2 c2 w' (by
    have : rowC ⟨A2, n + 1, c2⟩ (l ++ [x]) = Fct.own 0 76 1 (.slice A2 (n + 1) c2) (n + 1) (l.map ptrV ++ [ptrV x]) := by
      show Fct.own 0 _ 1 _ _ ((l ++ [x]).map ptrV) = _
      rw [List.map_append]; rfl
    rw [this]; exact H) hc
theorem ctx_mem {c : CtxR} (hc : c ∈ T.cs) : ctxB c.g c.v ∈ T.cs.flatMap ctxFs := List.mem_flatMap.2 ⟨c, hc, List.mem_cons_self ..⟩
theorem tab_blk {c : CtxR} (H : Sep (Γ ++ T.cs.flatMap ctxFs) w) (hc : c ∈ T.cs) : Blk w c.g 81 c.v.cells := H.mem (List.mem_append_right _ (ctx_mem hc))
/-- The next of a map's contexts. -/
theorem next_ctx {e : MapEntry} {left left' : List MapEntry} {lc : List CtxR} (hl : left.map (·.val) = lc.map CtxR.p) (hp : left.Perm (e :: left')) : ∃ c lc', lc.Perm (c :: lc') ∧ e.val = c.p ∧ left'.map (·.val) = lc'.map CtxR.p := by
  have h1 : (lc.map CtxR.p).Perm (e.val :: left'.map (·.val)) := by
    rw [← hl]
    exact hp.map (·.val)
  obtain ⟨l2, h2, h3⟩ := perm_back CtxR.p h1
  cases l2 with
  | nil => cases h3
  | cons c lc' =>
    injection h3 with h4 h5
    exact ⟨c, lc', h2.symm, h4.symm, h5.symm⟩
theorem vals_of {es : Array MapEntry} {clock : Nat} (hm : MapIs es clock (kvs KeyV.val (T.cs.map ck))) : es.toList.map (·.val) = T.cs.map CtxR.p := by
  have := congrArg (List.map Prod.snd) hm.kv
  unfold kvs at this
  rw [List.map_map, List.map_map, List.map_map] at this
  exact this
set_option maxHeartbeats 1000000 in
/-- The contexts of a state. -/
theorem oldest_spec {st : Int} (H : Sep (tabFs T) w) (hT : TabOk T) (hb : T.begun ≤ 4611686018427387904) : Calls Tryz.prog 38 #[T.p, .int .i64 st] w fun e w' => ∃ (s : Sl) (l : List CtxR), e = .returned s.val ∧ l.Perm (T.cs.filter (selS st)) ∧
    s.n = l.length ∧ Sep (Fct.rest w (Blocks (tabFs T)) :: rowC s (l.map cp) :: tabFs T) w' := by
  refine reasm_Table_oldest_of _ st w _ ?_
  unfold reasm_Table_oldest_VC
  have hlen := hT.len
  have hm2 := hT.m2
  obtain ⟨B, hB⟩ : ∃ B, B = Blocks (tabFs T) := ⟨_, rfl⟩
  obtain ⟨F, hF⟩ : ∃ F, F = T.cs.flatMap ctxFs := ⟨_, rfl⟩
  have H : Sep ([Fct.rest w B, tabB T, tabM T] ++ F) w := by rw [hB, hF]; exact H.begins
  rw [← hB]
  have blk : ∀ {Γ : List Fct} {w' : World} {c : CtxR}, Sep (Γ ++ F) w' → c ∈ T.cs → Blk w' c.g 81 c.v.cells := fun H hc => by rw [hF] at H; exact tab_blk H hc
  refine ⟨_, rfl, _, (H.blk 1 rfl).cell 3, RangeVC.sep H 2 Tryz.underlying69 rfl fun r es clock w1 hm H => ?_⟩
  have key : ∀ (a b c x : Fct), (a :: b :: c :: x :: F).Perm (a :: b :: c :: (F ++ [x])) := fun a b c x => perm_cn fun c o h1 h2 h3 => by simp only [h1, h2, h3]; omega
  have H : Sep ([Fct.rest w B, tabB T, Fct.mpx T.m es clock, Fct.it r T.m es clock es.toList] ++ F) w1 := H.perm (key _ _ _ _)
  have key2 : ∀ (a b c d x : Fct), (a :: b :: c :: d :: x :: F).Perm (a :: b :: c :: d :: (F ++ [x])) := fun a b c d x => perm_cn fun c o h1 h2 h3 => by simp only [h1, h2, h3]; omega
  refine LoopVC.of (fun st' w' => ∃ (left : List MapEntry) (lc done : List CtxR), left.map (·.val) = lc.map CtxR.p ∧ (done ++ lc).Perm T.cs ∧
      Sep ([Fct.rest w B, tabB T, Fct.mpx T.m es clock, Fct.it r T.m es clock left, rowC ⟨st'.1, st'.2.1, st'.2.2⟩ ((done.filter (selS st)).map cp)] ++ F) w') (fun _ w' => leftN w' T.m r)
    ⟨es.toList, T.cs, [], vals_of hm, .refl _, (H.nil 0 76 1).perm (key2 _ _ _ _ _)⟩ ?_
  rintro ⟨A1, n1, c1⟩ w2 ⟨left, lc, done, hlc, hd, H⟩
  have H : Sep ([Fct.rest w B, tabB T, Fct.mpx T.m es clock, Fct.it r T.m es clock left, rowC ⟨A1, n1, c1⟩ ((done.filter (selS st)).map cp)] ++ F) w2 := H
  show reasm_Table_oldest_L58 _ st r A1 n1 c1 w2 _
  unfold reasm_Table_oldest_L58
  have hn1 : n1 = ((done.filter (selS st)).map cp).length := by have : (((done.filter (selS st)).map cp).map ptrV).length = n1 * 1 := (H.own 4 rfl).1; rw [List.length_map] at this; omega
  have hdone : ∀ c ∈ done, c ∈ T.cs := fun c hc => hd.subset (List.mem_append_left _ hc)
  have hdl : (done.filter (selS st)).length ≤ T.cs.length := Nat.le_trans (List.length_filter_le _ _) (by have := hd.length_eq; rw [List.length_append] at this; omega)
  have hln := H.leftN 2 3 rfl rfl
  refine NextVC.sep H 2 3 rfl rfl hm.nodup (fun h0 => ?_) fun e left' w3 hp hem H hentry => ?_
  · subst h0
    have hlc0 : lc = [] := by cases lc with | nil => rfl | cons c lc => cases hlc
    subst hlc0
    rw [List.append_nil] at hd
    refine (sortCtx_spec H 4 rfl (fun x hx => ?_) (by rw [List.length_map]; omega)).mono ?_
    · obtain ⟨c, hc, rfl⟩ := List.mem_map.1 hx
      have hcT := hdone c (List.mem_filter.1 hc).1
      have hco := (hT.ctx c hcT).2.2.2
      have hbk := blk H hcT
      refine ⟨hbk.cell 36, hco.1, by show c.v.began < _; omega, fun g hg => ?_⟩
      rintro rfl
      exact H.far (i := 4) rfl (by rw [hF]; exact ctx_mem hcT) c.g (by show (Value.slice A1 n1 c1).ownBlock = _; rw [show A1 = _ from hg]; rfl) rfl
    · rintro _ w3 ⟨rfl, l', hl', H⟩
      obtain ⟨l2, hl2, hl3⟩ := perm_back cp hl'.symm
      refine ⟨rfl, ⟨A1, n1, c1⟩, l2, rfl, hl2.trans (hd.filter _), ?_, ?_⟩
      · show n1 = _
        rw [hn1, hl2.length_eq, List.length_map]
      · rw [hl3]
        have H := H.mpOf 2 rfl hm
        have key3 : ∀ (a b c d x : Fct), (d :: a :: x :: b :: c :: F).Perm (a :: b :: c :: d :: x :: F) := fun a b c d x => perm_cn fun c o h1 h2 h3 => by simp only [h2]; omega
        have H := (H.perm (key3 _ _ _ _ _)).tail
        rw [hF] at H
        exact H
  · obtain ⟨c, lc', hpl, hev, hl'⟩ := next_ctx hlc hp
    have hcT : c ∈ T.cs := hd.subset (List.mem_append_right _ (hpl.symm.subset (List.mem_cons_self ..)))
    have hd' : ((done ++ [c]) ++ lc').Perm T.cs := by
      rw [List.append_assoc]
      exact (hpl.symm.append_left done).trans hd
    have H : Sep ([Fct.rest w B, tabB T, Fct.mpx T.m es clock, Fct.it r T.m es clock left', rowC ⟨A1, n1, c1⟩ ((done.filter (selS st)).map cp)] ++ F) w3 := H
    have hbk := blk H hcT
    have hmu : ∀ {w' : World}, leftN w' T.m r = left'.length → leftN w' T.m r < leftN w2 T.m r := fun h => by
      rw [h, hln, hp.length_eq]; simp
    refine ⟨e.key, some ⟨c.g, 0, none⟩, by rw [hentry, hev], ?_⟩
    have yes : selS st c = true → ∀ w4 : World, w4 = w3 → NewVC w4 (.cells #[.pointer (some ⟨c.g, 0, none⟩)] 76) fun g2 w6 => AppVC Tryz.prog #[97, 97] 97 (.slice A1 n1 c1) (.slice (some ⟨g2, 0, none⟩) 1 1) w6 fun lA1 ln1 lc1 w7 =>
        (∃ (left : List MapEntry) (lc done : List CtxR), left.map (·.val) = lc.map CtxR.p ∧ (done ++ lc).Perm T.cs ∧ Sep ([Fct.rest w B, tabB T, Fct.mpx T.m es clock, Fct.it r T.m es clock left, rowC ⟨lA1, ln1, lc1⟩ ((done.filter (selS st)).map cp)] ++ F) w7) ∧ leftN w7 T.m r < leftN w2 T.m r := by
      rintro hs _ rfl
      refine NewVC.sep H fun g2 w6 H => ?_
      have H := H.front
      refine appC (x := cp c) H 5 rfl (Cells.blk0 (H.blk 0 rfl)) (by rw [List.length_map] at hn1; omega) fun A2 c2 w7 H hc2 => ?_
      have H := H.tail
      refine ⟨⟨left', lc', done ++ [c], hl', hd', ?_⟩, hmu (H.leftN 2 3 rfl rfl)⟩
      have e1 : (done ++ [c]).filter (selS st) = done.filter (selS st) ++ [c] := by rw [List.filter_append, List.filter_cons_of_pos hs, List.filter_nil]
      rw [e1, List.map_append]
      exact H
    refine Br.dec (fun hneg => yes (by unfold selS; rw [decide_eq_true hneg]; rfl) _ rfl) fun hneg => ⟨_, rfl, c.v.state, hbk.cell 38, Br.dec (fun he => yes (by unfold selS; rw [decide_eq_true he, Bool.or_true]) _ rfl) fun he => ?_⟩
    refine ⟨⟨left', lc', done ++ [c], hl', hd', ?_⟩, hmu (H.leftN 2 3 rfl rfl)⟩
    have e1 : (done ++ [c]).filter (selS st) = done.filter (selS st) := by
      rw [List.filter_append, List.filter_cons_of_neg (by unfold selS; rw [decide_eq_false hneg, decide_eq_false he]; decide), List.filter_nil, List.append_nil]
    rw [e1]
    exact H
/-- How many have delivered. -/
theorem finished_spec (H : Sep (tabFs T) w) (hT : TabOk T) (hb : T.begun ≤ 4611686018427387904) : Calls Tryz.prog 12 #[T.p] w fun e w' => e = .returned (.int .i64 ((T.cs.filter (selS 1)).length : Int)) ∧ Sep (Fct.rest w (Blocks (tabFs T)) :: tabFs T) w' := by
  refine reasm_Table_Finished_of _ w _ ?_
  unfold reasm_Table_Finished_VC
  refine (oldest_spec (st := 1) H hT hb).mono ?_
  rintro _ w1 ⟨s, l, rfl, hp, hn, H⟩
  refine ⟨_, _, _, rfl, by rw [hn, hp.length_eq], ?_⟩
  exact H.sub (.cons_cons _ (.cons _ (List.Sublist.refl _)))
end
end N6
end Go.Proofs.YthhgbpmihhljdaaGreatDoor
/- Chapter 12: room for one more context; a piece is laid into the holes of one; it is held. -/
namespace Go.Proofs.YthhgbpmihhljdaaGreatDoor
namespace N6
open Go Go.Eng Go.RowKit
section
variable {w : World} {Γ : List Fct} {T : TabR}
theorem cells_pre {w : World} {g t : Nat} {pre xs post : List Value} (h : Blk w g t (pre ++ (xs ++ post))) : CellsAt w ⟨g, pre.length, none⟩ 0 xs := by
  have key : ∀ (xs : List Value) (i : Nat), (∀ j v, xs[j]? = some v → w.cell? ⟨g, pre.length + (i + j), none⟩ = some v) → CellsAt w ⟨g, pre.length, none⟩ i xs := by
    intro xs
    induction xs with
    | nil => intro _ _; trivial
    | cons x r ih =>
      intro i h
      refine ⟨by rw [addr_add]; simpa using h 0 x rfl, ih (i + 1) fun j v hv => ?_⟩
      have := h (j + 1) v (by simpa using hv)
      rw [← this]; congr 2; omega
  refine key xs 0 fun j v hv => ?_
  have hj := (List.getElem?_eq_some_iff.1 hv).1
  rw [h.cell, Nat.zero_add, List.getElem?_append_right (by omega), show pre.length + j - pre.length = j by omega, List.getElem?_append_left hj]
  exact hv
theorem ctx_key {w : World} {g : Nat} {v : CtxV} (h : Blk w g 81 v.cells) : CellsAt w ⟨g, 0, none⟩ 0 v.key.cells := cells_pre (pre := []) (post := v.cells.drop 36) h
theorem ctx_h6 {w : World} {g : Nat} {v : CtxV} (h : Blk w g 81 v.cells) : CellsAt w ⟨g, 86, none⟩ 0 v.h6.cells := cells_pre (pre := v.cells.take 86) (post := []) (by rw [List.append_nil]; exact h)
theorem find_none (k : KeyV) : ∀ (l : List CtxR) (i : Nat), (∀ c ∈ l, c.v.key ≠ k) → findS KeyV.beq k (l.map ck) i = none
  | [], _, _ => rfl
  | c :: l, i, h => by
    show (if KeyV.beq k c.v.key then some (i, c.p) else findS KeyV.beq k (l.map ck) (i + 1)) = none
    have : KeyV.beq k c.v.key = false := by
      cases hb : KeyV.beq k c.v.key with
      | false => rfl
      | true => exact absurd (keyv_beq.1 hb).symm (h c (List.mem_cons_self ..))
    rw [this, if_neg (by decide)]
    exact find_none k l (i + 1) fun x hx => h x (List.mem_cons_of_mem _ hx)
theorem find_some (k : KeyV) : ∀ (l : List CtxR) (i j : Nat) (c : CtxR), l.Pairwise (fun a b => a.v.key ≠ b.v.key) → l[j]? = some c → c.v.key = k → findS KeyV.beq k (l.map ck) i = some (i + j, c.p)
  | [], _, _, _, _, h, _ => by simp at h
  | x :: l, i, 0, c, _, h, hk => by
    simp at h; subst h
    show (if KeyV.beq k x.v.key then some (i, x.p) else findS KeyV.beq k (l.map ck) (i + 1)) = _
    rw [if_pos (keyv_beq.2 hk.symm)]; rfl
  | x :: l, i, j + 1, c, hp, h, hk => by
    have hp := List.pairwise_cons.1 hp
    have hc : l[j]? = some c := by simpa using h
    show (if KeyV.beq k x.v.key then some (i, x.p) else findS KeyV.beq k (l.map ck) (i + 1)) = _
    have : KeyV.beq k x.v.key = false := by
      cases hb : KeyV.beq k x.v.key with
      | false => rfl
      | true => exact absurd ((keyv_beq.1 hb).symm.trans hk.symm) (hp.1 c (List.mem_of_getElem? hc))
    rw [this, if_neg (by decide), find_some k l (i + 1) j c hp.2 hc hk]
    congr 2; omega
/-- Is there a context of the key? -/
theorem tab_find (T : TabR) (k : KeyV) : (∃ (j : Nat) (c : CtxR), T.cs[j]? = some c ∧ c.v.key = k) ∨ ∀ c ∈ T.cs, c.v.key ≠ k := by
  by_cases h : ∃ c ∈ T.cs, c.v.key = k
  · obtain ⟨c, hc, hk⟩ := h
    obtain ⟨j, hj⟩ := List.mem_iff_getElem?.1 hc
    exact .inl ⟨j, c, hj, hk⟩
  · exact .inr fun c hc hk => h ⟨c, hc, hk⟩
/-- The context of a key, or none, looked up. -/
theorem tab_look {w' : World} {k : KeyV} {p : Option Addr} (hm : MapAt w' T.m (kvs KeyV.val (T.cs.map ck))) (hp : (mget KeyV.beq k (T.cs.map ck)).getD (.pointer none) = .pointer p) :
    (Instr.lookup 69 (.map (some T.m)) k.val false).run Tryz.prog w' = .ok (.pointer p) w' := by
  have := run_look keyv_key Tryz.underlying69 (z := .pointer none) (by kernel_rfl) k false hm
  rw [hp] at this
  exact this
theorem look_some {k : KeyV} {j : Nat} {c : CtxR} (hT : TabOk T) (hj : T.cs[j]? = some c) (hk : c.v.key = k) : (mget KeyV.beq k (T.cs.map ck)).getD (.pointer none) = .pointer (some ⟨c.g, 0, none⟩) := by
  unfold mget
  rw [find_some k T.cs 0 j c hT.keys hj hk]; rfl
theorem look_none {k : KeyV} (h : ∀ c ∈ T.cs, c.v.key ≠ k) : (mget KeyV.beq k (T.cs.map ck)).getD (.pointer none) = .pointer none := by
  unfold mget
  rw [find_none k T.cs 0 h]; rfl
theorem del_ck {j : Nat} {c : CtxR} (hT : TabOk T) (hj : T.cs[j]? = some c) : mdel KeyV.beq c.v.key (T.cs.map ck) = (T.cs.eraseIdx j).map ck := by
  unfold mdel
  rw [find_some c.v.key T.cs 0 j c hT.keys hj rfl]
  simp only [Nat.zero_add]
  rw [mp_erase]
theorem set_ck {c : CtxR} (h : ∀ x ∈ T.cs, x.v.key ≠ c.v.key) : mset KeyV.beq c.v.key c.p (T.cs.map ck) = (T.cs ++ [c]).map ck := by
  unfold mset
  rw [find_none c.v.key T.cs 0 h, List.map_append]; rfl
theorem len_ck {w' : World} (hm : MapAt w' T.m (kvs KeyV.val (T.cs.map ck))) : (Builtin.len_ #[69] 3 #[.map (some T.m)]).run Tryz.prog w' = .ok (.int .i64 (T.cs.length : Int)) w' := by
  have := run_len (l := T.cs.map ck) (enc := KeyV.val) Tryz.underlying69 3 hm
  rwa [List.length_map] at this
theorem flat_sub {j : Nat} {c : CtxR} (hj : T.cs[j]? = some c) (H : Sep (Γ ++ T.cs.flatMap ctxFs) w) : Sep (Γ ++ (T.cs.eraseIdx j).flatMap ctxFs) w := by
  have H := H.perm ((flat_erase ctxFs T.cs j c hj).symm.append_left Γ)
  rw [← List.append_assoc] at H
  exact H.sub (List.sublist_append_left _ _)
set_option maxHeartbeats 1000000 in
theorem room_spec (H : Sep (tabFs T) w) (hT : TabOk T) (hb : T.begun ≤ 4611686018427387904) : Calls Tryz.prog 59 #[T.p] w fun e w' =>
    ((T.cs.length : Int) < T.max ∧ e = .returned (.int .i64 0) ∧ Sep (Fct.rest w (Blocks (tabFs T)) :: tabFs T) w') ∨
    (¬ (T.cs.length : Int) < T.max ∧ ((e = .returned (.int .i64 120) ∧ Sep (Fct.rest w (Blocks (tabFs T)) :: tabFs T) w') ∨
      ∃ j c, T.cs[j]? = some c ∧ e = .returned (.int .i64 0) ∧ Sep (Fct.rest w (Blocks (tabFs T)) :: tabFs { T with cs := T.cs.eraseIdx j }) w')) := by
  refine reasm_Table_room_of _ w _ ?_
  unfold reasm_Table_room_VC
  refine DrawVC.sep H.begins (fun w' => Blk w' T.g 71 T.cells ∧ MapAt w' T.m (kvs KeyV.val (T.cs.map ck))) fun w1 H1 => ⟨⟨H1.blk 1 rfl, H1.yes 2 _ rfl⟩, ?_⟩
  refine ⟨_, rfl, _, fun w' hb => hb.1.cell 3, _, fun w' hb => len_ck hb.2, _, rfl, T.max, fun w' hb => hb.1.cell 0, Br.dec (fun hlt => .inl ⟨hlt, rfl, H1⟩) fun hge => ?_⟩
  refine (oldest_spec (st := 1) H1.tail hT hb).mono ?_
  rintro _ w2 ⟨s, l, rfl, hl, hn, H2⟩
  have H2 : Sep ([Fct.rest w (Blocks (tabFs T))] ++ (rowC s (l.map cp) :: tabFs T)) w2 := Sep.turn (Γ := [Fct.rest w (Blocks (tabFs T))]) H1 H2
  refine ⟨_, _, _, rfl, Br.dec (fun h0 => .inr ⟨hge, .inl ⟨rfl, H2.sub (.cons_cons _ (.cons _ (List.Sublist.refl _)))⟩⟩) fun h0 => ?_⟩
  obtain ⟨c, l', hcl⟩ : ∃ c l', l = c :: l' := by
    cases l with
    | nil => exact absurd (by rw [hn]; rfl) h0
    | cons c l' => exact ⟨c, l', rfl⟩
  subst hcl
  have hcT : c ∈ T.cs := (List.mem_filter.1 (hl.subset (List.mem_cons_self ..))).1
  obtain ⟨j, hj⟩ := List.mem_iff_getElem?.1 hcT
  refine DrawVC.sep H2 (fun w' => Blk w' T.g 71 T.cells ∧ Cells w' s.A (((c :: l').map cp).map ptrV) ∧ Blk w' c.g 81 c.v.cells) fun w3 H3 => ⟨⟨H3.blk 2 rfl, own_cells (A := s.A) (c := s.k) (H3.own 1 rfl), tab_blk (Γ := [Fct.rest w (Blocks (tabFs T)), rowC s ((c :: l').map cp), tabB T, tabM T]) H3 hcT⟩, ?_⟩
  have hc3 : Cells w3 s.A (((c :: l').map cp).map ptrV) := own_cells (A := s.A) (c := s.k) (H3.own 1 rfl)
  obtain ⟨a, ha, _⟩ := hc3 0 _ rfl
  refine ⟨_, rfl, _, fun w' hb => hb.1.cell 3, a, ha, by omega, by omega, some ⟨c.g, 0, none⟩, fun w' hb => ?_, _, rfl, KeyV.of c.v.key ⟨fun w' hb => ctx_key hb.2.2, ?_⟩⟩
  · obtain ⟨a', ha', hc'⟩ := hb.2.1 0 _ rfl
    rw [ha] at ha'; cases ha'
    exact hc'
  refine DelVC.sep H3 3 keyv_key Tryz.underlying69 rfl c.v.key fun w4 H4 => ?_
  rw [del_ck hT hj] at H4
  refine .inr ⟨hge, .inr ⟨j, c, hj, rfl, ?_⟩⟩
  have H5 := flat_sub (Γ := [Fct.rest w (Blocks (tabFs T)), rowC s ((c :: l').map cp), tabB T, Fct.mp T.m (kvs KeyV.val ((T.cs.eraseIdx j).map ck))]) hj H4
  exact H5.sub (.cons_cons _ (.cons _ (List.Sublist.refl _)))
end
end N6
end Go.Proofs.YthhgbpmihhljdaaGreatDoor
/- Chapter 12: a piece is laid into the holes of a context, or of a new one; it is held. -/
namespace Go.Proofs.YthhgbpmihhljdaaGreatDoor
namespace N6
open Go Go.Eng Go.RowKit
def layErr (e : Int) : Int := if e = 112 ∨ e = 113 ∨ e = 114 then 123 else e
/-- What becomes of a piece. -/
def LayOut (s : HolS) (off : Int) (d : List Int) (more : Bool) (cg : Nat) (fresh : Bool) (r' : HolR) (e : Ending) : Prop :=
  (refusedS s off d.length more ≠ 0 ∧ r'.s = s ∧ e = .returned (.tuple #[(⟨some ⟨cg, 0, none⟩, fresh, FitV.z, false⟩ : LaidV).val, .int .i64 (layErr (refusedS s off d.length more))])) ∨
  (refusedS s off d.length more = 0 ∧ r'.s = putS s off d more ∧ HolOk r'.s ∧
    e = .returned (.tuple #[(⟨some ⟨cg, 0, none⟩, fresh, fitS s off d more, decide (0 ≤ (putS s off d more).fin) && !decide (0 ≤ s.fin)⟩ : LaidV).val, .int .i64 0]))
section
variable {w w0 w1 : World} {Γ Γ' : List Fct} {T : TabR} {r : HolR} {S : Sl} {d : List Int} {off most : Int} {more fresh : Bool} {k : KeyV}
set_option maxHeartbeats 2000000 in
theorem lay_tail {M : Nat → Prop} {g2 g3 cg : Nat} {v : CtxV} {R : Ending → World → Prop}
    (H : Sep ((Fct.rest w0 M :: Fct.blk g2 86 (LaidV.z : LaidV).cells :: Fct.blk g3 86 (⟨some ⟨cg, 0, none⟩, fresh, FitV.z, false⟩ : LaidV).cells :: ctxB cg v :: Γ') ++ holFs r) w1)
    (hv : v.holes = some ⟨r.g, 0, none⟩) (hk : HolOk r.s) (hS : ∀ w', Mod M w0 w' → BytesAt w' S d)
    (hR : ∀ r' e w', r'.g = r.g → LayOut r.s off d more cg fresh r' e → Sep ((Fct.rest w0 M :: ctxB cg v :: Γ') ++ holFs r') w' → R e w') : reasm_Table_lay_J7 R off S.A S.n S.k more g2 g3 w1 := by
  unfold reasm_Table_lay_J7
  have hol : ∀ {r : HolR} {Δ : List Fct} {w : World}, Sep (Δ ++ holFs r) w → Sep (holFs r) w := fun H => H.sub (List.sublist_append_right _ _)
  have drop : ∀ {r : HolR} {a b c : Fct} {w : World}, Sep ((a :: b :: c :: ctxB cg v :: Γ') ++ holFs r) w → Sep ((a :: ctxB cg v :: Γ') ++ holFs r) w := fun H => H.sub (.cons_cons _ (.cons _ (.cons _ (List.Sublist.refl _))))
  refine ⟨_, (H.blk 2 rfl).cell 0, _, rfl, some ⟨r.g, 0, none⟩, by rw [← hv]; exact (H.blk 3 rfl).cell 40, (total_spec (hol H) hk).mono ?_⟩
  rintro _ w2 ⟨hE, rfl⟩
  have H := H.ext hE
  refine ⟨_, _, rfl, _, (H.blk 2 rfl).cell 0, _, rfl, some ⟨r.g, 0, none⟩, by rw [← hv]; exact (H.blk 3 rfl).cell 40, (put_spec (S := S) (d := d) (off := off) (more := more) (hol H) hk (fun w' hm => hS w' ((H.keep hm).restOf 0 rfl))).mono ?_⟩
  rintro _ w3 ⟨r', hg, H', ⟨hne, hs', rfl⟩ | ⟨hz, hs', hok, rfl⟩⟩
  · have H3 := Sep.turn H H'
    refine ⟨(0 : Int), (0 : Int), false, _, rfl, Stores.sep (o := 2) H3 2 (cs' := (⟨some ⟨cg, 0, none⟩, fresh, FitV.z, false⟩ : LaidV).cells) rfl (FitV.one _) (show 2 + 3 ≤ 6 by decide) rfl fun w4 H4 => ?_⟩
    have H4 : Sep ((Fct.rest w0 M :: Fct.blk g2 86 (LaidV.z : LaidV).cells :: Fct.blk g3 86 (⟨some ⟨cg, 0, none⟩, fresh, FitV.z, false⟩ : LaidV).cells :: ctxB cg v :: Γ') ++ holFs r') w4 := H4
    have fin : ∀ code : Int, layErr (refusedS r.s off d.length more) = code → LaidV.ex fun h => CellsAt w4 ⟨g3, 0, none⟩ 0 h.cells ∧ Stores ⟨g2, 0, none⟩ 0 h.cells w4 fun w5 => LaidV.ex fun res => CellsAt w5 ⟨g2, 0, none⟩ 0 res.cells ∧ R (.returned (.tuple #[res.val, .int .i64 code])) w5 := by
      rintro _ rfl
      refine LaidV.of ⟨some ⟨cg, 0, none⟩, fresh, FitV.z, false⟩ ⟨H4.at 2 rfl, Stores.sep H4 1 rfl (LaidV.one _) (Nat.le_refl _) (splice_all rfl) fun w5 H5 => LaidV.of ⟨some ⟨cg, 0, none⟩, fresh, FitV.z, false⟩ ⟨H5.at 1 rfl, hR r' _ w5 hg (.inl ⟨hne, hs', rfl⟩) (drop H5)⟩⟩
    refine Br.dec (fun h => absurd h hne) fun _ => Br.dec (fun h1 => Br.dec (fun _ => fin _ (by rw [h1]; rfl)) fun h => absurd h1 h) fun h1 => Br.dec (fun h2 => Br.dec (fun _ => fin _ (by rw [h2]; rfl)) fun h => absurd h2 h) fun h2 => Br.dec (fun h3 => fin _ (by rw [h3]; rfl)) fun h3 => fin _ ?_
    unfold layErr
    rw [if_neg (by omega)]
  · have H3 := Sep.turn H H'
    refine ⟨(fitS r.s off d more).nw, (fitS r.s off d more).old, (fitS r.s off d more).same, _, rfl, Stores.sep (o := 2) H3 2 (cs' := (⟨some ⟨cg, 0, none⟩, fresh, fitS r.s off d more, false⟩ : LaidV).cells) rfl (FitV.one _) (show 2 + 3 ≤ 6 by decide) rfl fun w4 H4 => ?_⟩
    have H4 : Sep ((Fct.rest w0 M :: Fct.blk g2 86 (LaidV.z : LaidV).cells :: Fct.blk g3 86 (⟨some ⟨cg, 0, none⟩, fresh, fitS r.s off d more, false⟩ : LaidV).cells :: ctxB cg v :: Γ') ++ holFs r') w4 := H4
    refine Br.t rfl ⟨_, (H4.blk 2 rfl).cell 0, _, rfl, some ⟨r'.g, 0, none⟩, by rw [hg, ← hv]; exact (H4.blk 3 rfl).cell 40, (total_spec (hol H4) hok).mono ?_⟩
    rintro _ w5 ⟨hE, rfl⟩
    have H5 := H4.ext hE
    have fin : ∀ x : Bool, (decide (0 ≤ (putS r.s off d more).fin) && !decide (0 ≤ r.s.fin)) = x → SetVC w5 ⟨g3, 5, none⟩ (.bool x) fun w17 => LaidV.ex fun h => CellsAt w17 ⟨g3, 0, none⟩ 0 h.cells ∧ Stores ⟨g2, 0, none⟩ 0 h.cells w17 fun w5 => LaidV.ex fun res => CellsAt w5 ⟨g2, 0, none⟩ 0 res.cells ∧ R (.returned (.tuple #[res.val, .int .i64 0])) w5 := by
      rintro x hx
      refine SetVC.sep H5 2 (k := 5) rfl (show 5 < 6 by decide) fun w6 H6 => ?_
      refine LaidV.of ⟨some ⟨cg, 0, none⟩, fresh, fitS r.s off d more, x⟩ ⟨H6.at 2 rfl, Stores.sep H6 1 rfl (LaidV.one _) (Nat.le_refl _) (splice_all rfl) fun w7 H7 => LaidV.of ⟨some ⟨cg, 0, none⟩, fresh, fitS r.s off d more, x⟩ ⟨H7.at 1 rfl, hR r' _ w7 hg (.inr ⟨hz, hs', hok, by rw [hx]⟩) (drop H7)⟩⟩
    rw [hs']
    refine ⟨_, _, rfl, Br.dec (fun h => fin _ ?_) fun h => fin _ ?_⟩
    · rw [decide_eq_true h]; rfl
    · rw [decide_eq_false h]; rfl
def newC (g : Nat) (k : KeyV) (ticks : Int) (r : HolR) : CtxR := ⟨g, ⟨k, 0, ticks, 0, 0, some ⟨r.g, 0, none⟩, 0, false, Ip4V.z, Ip6V.z⟩, some r, [], [], [], []⟩
set_option maxHeartbeats 2000000 in
/-- Into a context that is there. -/
theorem lay_old {j : Nat} {c : CtxR} (H : Sep (tabFs T) w) (hT : TabOk T) (hj : T.cs[j]? = some c) (hk : c.v.key = k) (hh : c.hole = some r) (hr : HolOk r.s)
    (hS : ∀ w', Mod (Blocks (tabFs T)) w w' → BytesAt w' S d) : Calls Tryz.prog 29 #[T.p, k.val, .int .i64 most, .int .i64 off, S.val, .bool more] w fun e w' => ∃ r' : HolR, r'.g = r.g ∧
    LayOut r.s off d more c.g false r' e ∧ Sep (Fct.rest w (Blocks (tabFs T)) :: tabFs (T.upd j { c with hole := some r' })) w' := by
  refine reasm_Table_lay_of _ k most off S.A S.n S.k more w _ ?_
  unfold reasm_Table_lay_VC
  have hv : c.v.holes = some ⟨r.g, 0, none⟩ := by rw [((hT.ctx c (List.mem_of_getElem? hj)).1).holes, hh]; rfl
  have H0 : Sep (Fct.rest w (Blocks (tabFs T)) :: (tabRest T j ++ ctxFs c)) w := H.begins.perm ((tab_focus hj).symm.cons _)
  generalize Blocks (tabFs T) = B at H0 hS ⊢
  obtain ⟨rows, hrows⟩ : ∃ rows, rows4 c.v.h4 c.os c.d4 ++ rows6 c.v.h6 c.es c.d6 = rows := ⟨_, rfl⟩
  have e1 : ∀ x, ctxFs { c with hole := some x } = ctxB c.g c.v :: (holFs x ++ rows) := fun x => by rw [← hrows]; rfl
  have e0 : ctxFs c = ctxB c.g c.v :: (holFs r ++ rows) := by rw [← e1 r, ← hh]
  rw [e0] at H0
  obtain ⟨rs, hrs⟩ : ∃ rs, (T.cs.eraseIdx j).flatMap ctxFs = rs := ⟨_, rfl⟩
  have e2 : tabRest T j = tabB T :: tabM T :: rs := by rw [← hrs]; rfl
  rw [e2] at H0
  refine NewVC.sep H0 fun g1 w1 H1 => NewVC.sep H1.front fun g2 w2 H2 => ?_
  refine DrawVC.sep H2.front (fun w' => Blk w' T.g 71 T.cells ∧ MapAt w' T.m (kvs KeyV.val (T.cs.map ck)) ∧ CellsAt w' ⟨g1, 0, none⟩ 0 k.cells) fun w3 H3 => ⟨⟨H3.blk 3 rfl, H3.yes 4 _ rfl, H3.at 1 rfl⟩, ?_⟩
  refine ⟨_, rfl, _, fun w' hb => hb.1.cell 3, KeyV.of k ⟨fun w' hb => hb.2.2, _, fun w' hb => tab_look hb.2.1 (look_some hT hj hk), ?_⟩⟩
  refine NewVC.sep H3 fun g3 w4 H4 => ⟨⟨H4.blk 3 rfl, H4.yes 4 _ rfl, H4.at 1 rfl⟩, ?_⟩
  refine Stores.sep H4.front 0 (cs' := (⟨some ⟨c.g, 0, none⟩, false, FitV.z, false⟩ : LaidV).cells) rfl (LaidV.one _) (Nat.le_refl _) (splice_all rfl) fun w5 H5 => ?_
  refine JoinVC.of (fun _ w' => w' = w5) ⟨_, (H5.blk 0 rfl).cell 0, Br.f rfl rfl⟩ ?_
  rintro _ _ rfl
  have key : ∀ a b c d e f g : Fct, ((a :: b :: c :: g :: ([e, f] ++ (rs ++ (rows ++ [d])))) ++ holFs r).Perm (c :: b :: d :: a :: (e :: f :: rs ++ (g :: (holFs r ++ rows)))) := fun a b c d e f g => perm_cn fun c o h1 h2 h3 => by simp only [h1, h2, h3]; omega
  refine lay_tail (H5.perm (key _ _ _ _ _ _ _)) hv hr hS fun r' e w' hg ho H' => ⟨r', hg, ho, ?_⟩
  refine Sep.perm ?_ ((tab_unfocus (T := T) (c' := { c with hole := some r' }) hj rfl rfl).cons _)
  rw [e1, e2]
  refine Sep.sub (H'.perm ?_) (List.sublist_append_left _ [Fct.blk g1 75 k.cells])
  exact perm_cn fun c o h1 h2 h3 => by simp only [h1, h2, h3]; omega
set_option maxHeartbeats 2000000 in
/-- Into a new one. -/
theorem lay_new (H : Sep (tabFs T) w) (hno : ∀ c ∈ T.cs, c.v.key ≠ k) (hm1 : 1 ≤ most) (hm2 : most ≤ 65535)
    (hS : ∀ w', Mod (Blocks (tabFs T)) w w' → BytesAt w' S d) : Calls Tryz.prog 29 #[T.p, k.val, .int .i64 most, .int .i64 off, S.val, .bool more] w fun e w' => ∃ (r' : HolR) (g : Nat),
    LayOut (HolS.start most) off d more g true r' e ∧ Sep (Fct.rest w (Blocks (tabFs T)) :: (tabFs T ++ ctxFs (newC g k T.ticks r'))) w' := by
  refine reasm_Table_lay_of _ k most off S.A S.n S.k more w _ ?_
  unfold reasm_Table_lay_VC
  have H0 := H.begins
  generalize Blocks (tabFs T) = B at H0 hS ⊢
  obtain ⟨rs, hrs⟩ : ∃ rs, T.cs.flatMap ctxFs = rs := ⟨_, rfl⟩
  have e2 : tabFs T = tabB T :: tabM T :: rs := by rw [← hrs]; rfl
  rw [e2] at H0
  refine NewVC.sep H0 fun g1 w1 H1 => NewVC.sep H1.front fun g2 w2 H2 => ?_
  refine DrawVC.sep H2.front (fun w' => Blk w' T.g 71 T.cells ∧ MapAt w' T.m (kvs KeyV.val (T.cs.map ck)) ∧ CellsAt w' ⟨g1, 0, none⟩ 0 k.cells) fun w3 H3 => ⟨⟨H3.blk 3 rfl, H3.yes 4 _ rfl, H3.at 1 rfl⟩, ?_⟩
  refine ⟨_, rfl, _, fun w' hb => hb.1.cell 3, KeyV.of k ⟨fun w' hb => hb.2.2, _, fun w' hb => tab_look hb.2.1 (look_none hno), ?_⟩⟩
  refine NewVC.sep H3 fun g3 w4 H4 => ⟨⟨H4.blk 3 rfl, H4.yes 4 _ rfl, H4.at 1 rfl⟩, ?_⟩
  refine Stores.sep H4.front 0 (cs' := (⟨none, false, FitV.z, false⟩ : LaidV).cells) rfl (LaidV.one _) (Nat.le_refl _) (splice_all rfl) fun w5 H5 => ?_
  have H5 : Sep (Fct.blk g3 86 (⟨none, false, FitV.z, false⟩ : LaidV).cells :: Fct.blk g2 86 (LaidV.z : LaidV).cells :: Fct.blk g1 75 k.cells :: Fct.rest w B :: tabB T :: tabM T :: rs) w5 := H5
  refine JoinVC.of (fun _ w' => ∃ (r : HolR) (g4 : Nat), r.s = HolS.start most ∧ Sep (ctxB g4 (newC g4 k T.ticks r).v :: Fct.blk g3 86 (⟨some ⟨g4, 0, none⟩, true, FitV.z, false⟩ : LaidV).cells :: Fct.blk g2 86 (LaidV.z : LaidV).cells :: Fct.blk g1 75 k.cells :: Fct.rest w B :: tabB T :: tabM T :: rs ++ holFs r) w') ?_ ?_
  · refine ⟨_, (H5.blk 0 rfl).cell 0, Br.t rfl ((hole_new hm1 hm2).mono ?_)⟩
    rintro _ w6 ⟨r, rfl, hrs', Hr⟩
    have H6 := H5.mades Hr
    refine ⟨_, _, rfl, Br.f rfl ?_⟩
    refine DrawVC.sep H6 (fun w' => Blk w' T.g 71 T.cells ∧ CellsAt w' ⟨g1, 0, none⟩ 0 k.cells) fun w8 H8 => ⟨⟨H8.blk 4 rfl, H8.at 2 rfl⟩, ?_⟩
    refine KeyV.of k ⟨fun w' hb => hb.2, _, rfl, _, fun w' hb => hb.1.cell 1, ?_⟩
    refine NewVC.sep H8 fun g4 w9 H9 => ⟨⟨H9.blk 4 rfl, H9.at 2 rfl⟩, ?_⟩
    have H9 := H9.front
    refine SetVC.sep H9 1 (k := 0) rfl (show 0 < 6 by decide) fun w10 H10 => ⟨⟨H10.blk 5 rfl, H10.at 3 rfl⟩, SetVC.sep H10 1 (k := 1) rfl (show 1 < 6 by decide) fun w11 H11 => ⟨r, g4, hrs', H11⟩⟩
  rintro _ w6 ⟨r, g4, hrs', H6⟩
  have key : ∀ a b c d e f g : Fct, ((f :: c :: b :: a :: (g :: e :: (rs ++ [d]))) ++ holFs r).Perm (a :: b :: c :: d :: f :: g :: e :: rs ++ holFs r) := fun a b c d e f g => perm_cn fun c o h1 h2 h3 => by simp only [h1, h2, h3]; omega
  refine lay_tail (H6.perm (key _ _ _ _ _ _ _)) rfl (by rw [hrs']; exact HolOk.start hm1 hm2) hS fun r' e w' hg ho H' => ⟨r', g4, by rw [← hrs']; exact ho, ?_⟩
  have e3 : ctxFs (newC g4 k T.ticks r') = ctxB g4 (newC g4 k T.ticks r).v :: (holFs r' ++ (rows4 Ip4V.z [] [] ++ rows6 Ip6V.z [] [])) := by
    unfold ctxFs newC
    rw [hg]; rfl
  rw [e3, e2]
  refine Sep.sub ((Sep.nils H').perm ?_) (List.sublist_append_left _ [Fct.blk g1 75 k.cells])
  generalize rows4 Ip4V.z [] [] ++ rows6 Ip6V.z [] [] = rows
  exact perm_cn fun c o h1 h2 h3 => by simp only [h1, h2, h3]; omega
end
end N6
end Go.Proofs.YthhgbpmihhljdaaGreatDoor
