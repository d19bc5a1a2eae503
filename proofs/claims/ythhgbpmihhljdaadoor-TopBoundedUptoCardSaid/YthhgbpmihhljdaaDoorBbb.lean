/- Chapter 12: contexts sorted by the order in which they began: the library's sort (its contract is the kit's). -/
import Derived.Test.YthhgbpmihhljdaaDoorBax
import Derived.Test.YthhgbpmihhljdaaDoorBba
namespace Go.Proofs.YthhgbpmihhljdaaDoor
namespace N6
open Go Go.Eng Go.RowKit
/-- A context, as a sort sees it: its block, the how manyth it is. -/
abbrev CtxP := Nat × Int
def ptrV (x : CtxP) : Value := .pointer (some ⟨x.1, 0, none⟩)
section
variable {w : World} {Γ : List Fct}
theorem cmp_spec {w : World} {x y : CtxP} (hx : w.cell? ⟨x.1, 36, none⟩ = some (.int .i64 x.2)) (hy : w.cell? ⟨y.1, 36, none⟩ = some (.int .i64 y.2)) (bx : 0 ≤ x.2 ∧ x.2 < 4611686018427387904) (by_ : 0 ≤ y.2 ∧ y.2 < 4611686018427387904) :
    Calls Tryd.prog 40 #[ptrV x, ptrV y] w fun e w' => e = .returned (.int .i64 (x.2 - y.2)) ∧ ∃ q, w' = w.drewN q := by
  refine reasm_Table_oldest_d1_of _ _ w _ ?_
  unfold reasm_Table_oldest_d1_VC
  intro w1 hw1
  subst hw1
  refine ⟨fun w' => w'.cell? ⟨x.1, 36, none⟩ = some (.int .i64 x.2) ∧ w'.cell? ⟨y.1, 36, none⟩ = some (.int .i64 y.2), ⟨hx, hy⟩, _, rfl, x.2, fun w' h => h.1, _, rfl, y.2, fun w' h => h.2, ?_⟩
  rw [w64 (by omega) (by omega)]
  exact ⟨rfl, 1, rfl⟩
/-- slices.SortFunc: the contexts, in some order. -/
theorem sortCtx_spec (H : Sep Γ w) (i : Nat) {A : Option Addr} {n c : Nat} {l : List CtxP} (hi : Γ[i]? = some (Fct.own 0 55 1 (.slice A n c) n (l.map ptrV)))
    (hc : ∀ x ∈ l, w.cell? ⟨x.1, 36, none⟩ = some (.int .i64 x.2) ∧ 0 ≤ x.2 ∧ x.2 < 4611686018427387904 ∧ ∀ g, A = some ⟨g, 0, none⟩ → x.1 ≠ g) (hs : l.length ≤ 1000000) :
    Calls Tryd.prog 39 #[.slice A n c, .func (.func 40) #[] #[]] w fun e w' => e = .returned (.tuple #[]) ∧ ∃ l' : List CtxP, l'.Perm l ∧ Sep (Γ.set i (Fct.own 0 55 1 (.slice A n c) n (l'.map ptrV))) w' := by
  have ho := H.own i hi
  have hn : n = l.length := by have := ho.1; simp at this; omega
  have hlt : i < Γ.length := (List.getElem?_eq_some_iff.1 hi).1
  rcases List.eq_nil_or_concat l with rfl | ⟨l0, y0, hl0⟩
  · have hn0 : n = 0 := by simpa using hn
    subst hn0
    refine (AnyF.slices_SortFunc_none { Tryd.sortCtx with } A c (.func (.func 40) #[] #[]) w).mono ?_
    rintro _ w' ⟨rfl, rfl⟩
    refine ⟨rfl, [], .refl _, ?_⟩
    have : Γ.set i (Fct.own 0 55 1 (.slice A 0 c) 0 (([] : List CtxP).map ptrV)) = Γ := by
      apply List.ext_getElem?
      intro m
      rw [List.getElem?_set]
      by_cases hm : i = m
      · subst hm; rw [if_pos rfl, if_pos hlt, hi]
      · rw [if_neg hm]
    rw [this]
    exact H
  · have hne : l ≠ [] := by rw [hl0]; simp
    have hA : A ≠ none := by
      rintro rfl
      rcases ho.2 with ⟨_, h1⟩ | ⟨g, cap, cur, hv, _⟩
      · rw [h1] at hn; exact hne (List.eq_nil_of_length_eq_zero hn.symm)
      · cases hv
    obtain ⟨g, cs, rfl, hbg, ht, hcl, hm, hnc, H1⟩ := H.ownBlk i hi hA
    have hset : ∀ x, (Γ.set i x)[i]? = some x := fun x => by rw [List.getElem?_set]; simp [hlt]
    have hb : Blk w g 55 cs := H1.blk i (hset _)
    have hg := hb.lt
    let α := {x : CtxP // x ∈ l}
    haveI : Inhabited α := ⟨⟨y0, by rw [hl0]; simp⟩⟩
    let enc : α → Value := fun x => ptrV x.1
    let d : Array α := l.attach.toArray
    have hd : d.size = l.length := by show l.attach.toArray.size = _; rw [List.size_toArray]; exact List.length_attach
    have hdv : ∀ j, j < l.length → (enc d[j]!) = ptrV (l.getD j y0) := fun j hj => by
      have h1 : d[j]! = ⟨l[j], List.getElem_mem hj⟩ := by
        rw [getElem!_pos d j (by rw [hd]; exact hj)]
        show l.attach.toArray[j]'(by rw [List.size_toArray, List.length_attach]; exact hj) = _
        rw [List.getElem_toArray]
        exact List.getElem_attach _
      show ptrV d[j]!.1 = _
      rw [h1]
      simp [hj]
    have hcs : ∀ j, j < l.length → cs[j]? = some (ptrV (l.getD j y0)) := fun j hj => by
      have h1 : (cs.take (n * 1))[j]? = (l.map ptrV)[j]? := by rw [ht]
      rw [List.getElem?_take, if_pos (by omega), List.getElem?_map, List.getElem?_eq_getElem hj] at h1
      rw [h1]; simp [hj]
    have hH : Go.Sort.Holds enc w g 0 d := fun j hj => by
      rw [hd] at hj
      rw [Nat.zero_add]
      exact ⟨by rw [hb.cell, hcs j hj, hdv j hj], hb.frozen j⟩
    have hcmp : CmpReads Tryd.prog 40 #[] enc (fun x y : α => x.1.2 - y.1.2) g 0 d.size w := fun m os dk _ x y => by
      have cell : ∀ z : α, (sortWorld enc w g 0 m dk os).cell? ⟨z.1.1, 36, none⟩ = some (.int .i64 z.1.2) := fun z => by
        have hz := hc z.1 z.2
        have hzl := World.block_lt_of_cell? w _ hz.1
        unfold sortWorld
        rw [Go.Sort.cell?_grow _ _ _ (by simpa [Go.Sort.putRow, Go.Sort.mapBlock, Go.Sort.ahead] using hzl), Go.Sort.cell?_putRow_other _ _ _ _ _ _ (.inl (hz.2.2.2 g rfl))]
        exact hz.1
      exact cmp_spec (cell x) (cell y) ⟨(hc x.1 x.2).2.1, (hc x.1 x.2).2.2.1⟩ ⟨(hc y.1 y.2).2.1, (hc y.1 y.2).2.2.1⟩
    have hswo : Go.Sort.SWO (ltOf fun x y : α => x.1.2 - y.1.2) := by
      refine ⟨fun x => ?_, fun x y z h1 h2 => ?_, fun x y z h1 h2 => ?_⟩ <;> simp only [ltOf, decide_eq_false_iff_not, decide_eq_true_eq] at * <;> omega
    have eg : ∀ args w, (callFunc 40 args).run Tryd.prog w = .ok (.enter 40 args) w := fun args w => run_callFunc (callOk _ (by kernel_rfl)) args w
    have hcon := Any.slices_SortFunc Tryd.sortCtx enc (fun _ => rfl) (fun x y : α => x.1.2 - y.1.2) hswo 40 #[] g 0 c d w eg (CmpReads.lays hcmp) hH hg (by rw [hd]; omega)
    rw [hd, ← hn] at hcon
    refine Calls.mono hcon ?_
    rintro _ w' ⟨rfl, d', m, os, hp, _, rfl⟩
    have hsz : d'.size = l.length := by rw [hp.1, hd]
    have hperm : d'.toList.Perm d.toList := by
      have h3 := hp.2.2
      rw [hn, Array.extract_eq_self_of_le (Nat.le_of_eq hsz), Array.extract_eq_self_of_le (Nat.le_of_eq hd)] at h3
      exact h3
    refine ⟨rfl, d'.toList.map Subtype.val, ?_, ?_⟩
    · have h4 := hperm.map Subtype.val
      have h5 : d.toList.map Subtype.val = l := by show l.attach.toArray.toList.map Subtype.val = l; rw [List.toList_toArray]; exact List.attach_map_subtype_val l
      rwa [h5] at h4
    · have hheap : (sortWorld enc w g 0 m d' os).heap[g]? = some (.cells (Go.Sort.putCells enc 0 d' cs.toArray) 55 (0, 0)) := by
        unfold sortWorld
        rw [Go.Sort.heap_grow_old _ _ (by simpa [Go.Sort.putRow, Go.Sort.mapBlock, Go.Sort.ahead] using hg)]
        unfold Blk at hb
        simp [Go.Sort.putRow, Go.Sort.mapBlock, Go.Sort.ahead, Array.getElem?_modify, hb, Go.Sort.onCells]
      have hmod : Mod (fun k => k = g) w (sortWorld enc w g 0 m d' os) := by
        refine ⟨rfl, rfl, rfl, by simp [sortWorld, Go.Sort.putRow, Go.Sort.mapBlock, Go.Sort.ahead], fun k hk hne' => ?_⟩
        unfold sortWorld
        rw [Go.Sort.heap_grow_old _ _ (by simpa [Go.Sort.putRow, Go.Sort.mapBlock, Go.Sort.ahead] using hk)]
        simp only [Go.Sort.putRow, Go.Sort.mapBlock, Go.Sort.ahead, Array.getElem?_modify]
        rw [if_neg fun e : g = k => hne' e.symm]
      refine H.mod i hi hmod (fun k _ e => by subst e; rfl) (Fct.own 0 55 1 (.slice (some ⟨g, 0, none⟩) n c) n ((d'.toList.map Subtype.val).map ptrV)) ?_ fun k hk => .inl hk
      refine ⟨by simp [hsz, hn], .inr ⟨g, c, _, rfl, Nat.zero_le _, hheap, hnc, hm, ?_, ?_⟩⟩
      · simp [Go.Sort.putCells, hcl]
      · apply List.ext_getElem?
        intro j
        rw [List.getElem?_take]
        by_cases hj : j < n
        · have hj2 : j < cs.length := by omega
          have hj3 : j < d'.size := by omega
          rw [if_pos (by omega)]
          simp [Go.Sort.putCells, hj2, hj3, enc]
        · rw [if_neg (by omega)]
          symm
          rw [List.getElem?_eq_none_iff]
          simp; omega
end
end N6
end Go.Proofs.YthhgbpmihhljdaaDoor
/- Chapter 12: contexts and tables in memory; what a context may do. -/
namespace Go.Proofs.YthhgbpmihhljdaaDoor
namespace N6
open Go Go.Eng Go.RowKit
theorem ipv_bq {a b : IPV} : IPV.beq a b = true ↔ a = b := by
  cases a; cases b
  unfold IPV.beq
  simp only [Bool.and_eq_true, decide_eq_true_eq, IPV.mk.injEq, and_true]
theorem keyv_beq {a b : KeyV} : KeyV.beq a b = true ↔ a = b := by
  unfold KeyV.beq
  simp only [Bool.and_eq_true, decide_eq_true_eq, ipv_bq, and_true]
  constructor
  · rintro ⟨h1, h2, h3, h4⟩
    cases a; cases b
    simp only at h1 h2 h3 h4
    subst h1; subst h2; subst h3; subst h4; rfl
  · rintro rfl; exact ⟨rfl, rfl, rfl, rfl⟩
set_option maxRecDepth 100000 in
theorem keyv_bits (x : KeyV) : Instr.sameBits 10000 x.val x.val = true := by
  simp [Instr.sameBits, KeyV.val]
set_option maxRecDepth 100000 in
theorem keyv_key : KeyOk Tryd.prog 54 KeyV.val KeyV.beq where
  wide := by kernel_rfl
  check x em w := ck_sound 6 9994 _ _ (by kernel_rfl) w
  eq x y w := eqV_sound 6 9994 _ _ _ _ (by kernel_rfl) w
  same x y := keyv_beq
  bits x := keyv_bits x
structure CtxR where
  g : Nat
  v : CtxV
  hole : Option HolR
  os : List OptR
  d4 : List Int
  es : List ExtR
  d6 : List Int
def holOFs : Option HolR → List Fct
  | none => []
  | some r => holFs r
def rows4 (h : Ip4V) (os : List OptR) (d : List Int) : List Fct := optFs 0 h.opts os ++ [rowB 0 h.data d]
def rows6 (h : Ip6V) (es : List ExtR) (d : List Int) : List Fct := extFs 0 h.exts es ++ [rowB 0 h.data d]
abbrev ctxB (g : Nat) (v : CtxV) : Fct := Fct.blk g 66 v.cells
def ctxFs (c : CtxR) : List Fct := ctxB c.g c.v :: (holOFs c.hole ++ (rows4 c.v.h4 c.os c.d4 ++ rows6 c.v.h6 c.es c.d6))
structure Fine4 (h : Ip4V) (os : List OptR) (d : List Int) : Prop where
  opts : OptsFine h.opts os
  data : BFine h.data d
  src : Bts h.src.bytes
  dst : Bts h.dst.bytes
structure Fine6 (h : Ip6V) (es : List ExtR) (d : List Int) : Prop where
  exts : ExtsFine h.exts es
  data : BFine h.data d
  src : Bts h.src.bytes
  dst : Bts h.dst.bytes
  few : es.length ≤ 1000
structure CtxOk (c : CtxR) : Prop where
  holes : c.v.holes = c.hole.map fun r => ⟨r.g, 0, none⟩
  st : c.v.state = 0 ∨ c.v.state = 1 ∨ c.v.state = 2
  open_ : c.v.state = 0 → ∃ r, c.hole = some r ∧ HolOk r.s
  frags : 0 ≤ c.v.frags ∧ c.v.frags ≤ 1024
  f4 : Fine4 c.v.h4 c.os c.d4
  f6 : Fine6 c.v.h6 c.es c.d6
  why : c.v.state = 2 → c.v.why ≠ 0
/-- A context that holds nothing. -/
def CtxR.shut (c : CtxR) (state why frags : Int) : CtxR := ⟨c.g, { c.v with state := state, why := why, holes := none, frags := frags, first := false, h4 := Ip4V.z, h6 := Ip6V.z }, none, [], [], [], []⟩
theorem bts_z : Bts (IPV.z : IPV).bytes := fun x hx => by
  have : x = 0 := by simpa [IPV.bytes, IPV.z] using hx
  omega
theorem fine4_z : Fine4 Ip4V.z [] [] := ⟨⟨rfl, Nat.zero_le _, fun _ h => by cases h⟩, ⟨Nat.zero_le _, fun _ h => by cases h⟩, bts_z, bts_z⟩
theorem fine6_z : Fine6 Ip6V.z [] [] := ⟨⟨rfl, Nat.zero_le _, (fun _ h => by cases h), fun _ h => by cases h⟩, ⟨Nat.zero_le _, fun _ h => by cases h⟩, bts_z, bts_z, Nat.zero_le _⟩
theorem CtxOk.shut {c : CtxR} {state why frags : Int} (hs : state = 1 ∨ state = 2) (hw : state = 2 → why ≠ 0) (hf : 0 ≤ frags ∧ frags ≤ 1024) : CtxOk (c.shut state why frags) :=
  ⟨rfl, .inr hs, fun h => by have h : state = 0 := h; omega, hf, fine4_z, fine6_z, hw⟩
section
variable {w : World} {Γ : List Fct} {g : Nat} {v : CtxV} {c : CtxR}
/-- Parts that hold nothing. -/
theorem Sep.nils (H : Sep Γ w) : Sep (Γ ++ (rows4 Ip4V.z [] [] ++ rows6 Ip6V.z [] [])) w := by
  have H := (((H.nil 0 106 2).nil 0 5 1).nil 0 115 3).nil 0 5 1
  simp only [List.append_assoc] at H
  exact H
theorem end_spec {st : Int} (hb : Blk w g 66 v.cells) : Calls Tryd.prog 35 #[.pointer (some ⟨g, 0, none⟩), .int .i64 st] w fun e w' => e = .returned (.tuple #[]) ∧
    Sep [Fct.rest w (fun k => k = g), ctxB g { v with state := st, holes := none, first := false, h4 := Ip4V.z, h6 := Ip6V.z }] w' := by
  refine reasm_context_end_of _ st w _ ?_
  unfold reasm_context_end_VC
  have H : Sep [Fct.rest w (fun k => k = g), ctxB g v] w := Sep.begin hb (fun _ e => e) fun k hk => by cases hk; exact hb.lt
  refine ⟨_, rfl, SetVC.sep H 1 (k := 38) rfl (show 38 < 130 by decide) fun w1 H => ⟨_, rfl, SetVC.sep H 1 (k := 40) rfl (show 40 < 130 by decide) fun w2 H => ⟨_, rfl, SetVC.sep H 1 (k := 42) rfl (show 42 < 130 by decide) fun w3 H => ⟨_, rfl, ?_⟩⟩⟩⟩
  have H : Sep [Fct.rest w (fun k => k = g), ctxB g { v with state := st, holes := none, first := false }] w3 := H
  refine Stores.sep (o := 43) H 1 (cs' := CtxV.cells { v with state := st, holes := none, first := false, h4 := Ip4V.z }) rfl (Ip4V.one _) (show 43 + 43 ≤ 130 by decide) rfl fun w4 H => ⟨_, rfl, ?_⟩
  refine Stores.sep (o := 86) H 1 (cs' := CtxV.cells { v with state := st, holes := none, first := false, h4 := Ip4V.z, h6 := Ip6V.z }) rfl (Ip6V.one _) (show 86 + 44 ≤ 130 by decide) rfl fun w5 H => ⟨rfl, H⟩
theorem spoil_spec {why n : Int} (hb : Blk w g 66 v.cells) : Calls Tryd.prog 17 #[.pointer (some ⟨g, 0, none⟩), .int .i64 why, .int .i64 n] w fun e w' => e = .returned (.tuple #[]) ∧
    Sep [Fct.rest w (fun k => k = g), ctxB g { v with state := 2, why := why, holes := none, frags := n, first := false, h4 := Ip4V.z, h6 := Ip6V.z }] w' := by
  refine reasm_context_spoil_of _ why n w _ ?_
  unfold reasm_context_spoil_VC
  refine (end_spec hb).mono ?_
  rintro _ w1 ⟨rfl, H⟩
  exact ⟨rfl, _, rfl, SetVC.sep H 1 (k := 39) rfl (show 39 < 130 by decide) fun w2 H => ⟨_, rfl, SetVC.sep H 1 (k := 41) rfl (show 41 < 130 by decide) fun w3 H => ⟨rfl, H⟩⟩⟩
theorem finish_spec (hb : Blk w g 66 v.cells) : Calls Tryd.prog 18 #[.pointer (some ⟨g, 0, none⟩)] w fun e w' => e = .returned (.tuple #[]) ∧
    Sep [Fct.rest w (fun k => k = g), ctxB g { v with state := 1, holes := none, frags := 0, first := false, h4 := Ip4V.z, h6 := Ip6V.z }] w' := by
  refine reasm_context_finish_of _ w _ ?_
  unfold reasm_context_finish_VC
  refine (end_spec hb).mono ?_
  rintro _ w1 ⟨rfl, H⟩
  exact ⟨rfl, _, rfl, SetVC.sep H 1 (k := 41) rfl (show 41 < 130 by decide) fun w2 H => ⟨rfl, H⟩⟩
/-- Why a context takes nothing; 0: it does. -/
def readyS (v : CtxV) (done spoiled : Int) : Int := if v.state = 1 then done else if v.state = 2 then spoiled else if v.frags = 1024 then 124 else 0
theorem ready_none {done spoiled : Int} : Calls Tryd.prog 12 #[.pointer none, .int .i64 done, .int .i64 spoiled] w fun e w' => w' = w ∧ e = .returned (.int .i64 0) := by
  refine reasm_context_ready_of none done spoiled w _ ?_
  unfold reasm_context_ready_VC
  exact Br.t rfl ⟨rfl, rfl⟩
theorem ready_spec {done spoiled : Int} (hb : Blk w g 66 v.cells) : Calls Tryd.prog 12 #[.pointer (some ⟨g, 0, none⟩), .int .i64 done, .int .i64 spoiled] w fun e w' => w' = w ∧ e = .returned (.int .i64 (readyS v done spoiled)) := by
  refine reasm_context_ready_of _ done spoiled w _ ?_
  unfold reasm_context_ready_VC readyS
  refine Br.f rfl ⟨_, rfl, v.state, hb.cell 38, Br.dec (fun h1 => ⟨rfl, by rw [if_pos h1]⟩) fun h1 => ⟨_, rfl, v.state, hb.cell 38, Br.dec (fun h2 => ⟨rfl, by rw [if_neg h1, if_pos h2]⟩) fun h2 => ⟨_, rfl, v.frags, hb.cell 41, Br.dec (fun h3 => ⟨rfl, by rw [if_neg h1, if_neg h2, if_pos h3]⟩) fun h3 => ⟨rfl, by rw [if_neg h1, if_neg h2, if_neg h3]⟩⟩⟩⟩
end
/-! ### Tables -/
structure TabR where
  g : Nat
  m : Nat
  max : Int
  ticks : Int
  begun : Int
  cs : List CtxR
def TabR.cells (T : TabR) : List Value := [.int .i64 T.max, .int .i64 T.ticks, .int .i64 T.begun, .map (some T.m)]
abbrev TabR.p (T : TabR) : Value := .pointer (some ⟨T.g, 0, none⟩)
abbrev CtxR.p (c : CtxR) : Value := .pointer (some ⟨c.g, 0, none⟩)
def ck (c : CtxR) : KeyV × Value := (c.v.key, c.p)
abbrev tabB (T : TabR) : Fct := Fct.blk T.g 51 T.cells
abbrev tabM (T : TabR) : Fct := Fct.mp T.m (kvs KeyV.val (T.cs.map ck))
def tabFs (T : TabR) : List Fct := tabB T :: tabM T :: T.cs.flatMap ctxFs
structure TabOk (T : TabR) : Prop where
  m1 : 1 ≤ T.max
  m2 : T.max ≤ 256
  t1 : 1 ≤ T.ticks
  t2 : T.ticks ≤ 1048576
  b1 : 0 ≤ T.begun
  len : (T.cs.length : Int) ≤ T.max
  ctx : ∀ c ∈ T.cs, CtxOk c ∧ 1 ≤ c.v.left ∧ c.v.left ≤ T.ticks ∧ 0 ≤ c.v.began ∧ c.v.began < T.begun
  keys : T.cs.Pairwise fun a b => a.v.key ≠ b.v.key
/-- All but one context. -/
def tabRest (T : TabR) (j : Nat) : List Fct := tabB T :: tabM T :: (T.cs.eraseIdx j).flatMap ctxFs
def TabR.upd (T : TabR) (j : Nat) (c : CtxR) : TabR := { T with cs := T.cs.set j c }
theorem flat_erase {α β : Type} (f : α → List β) : ∀ (l : List α) (j : Nat) (x : α), l[j]? = some x → (l.flatMap f).Perm ((l.eraseIdx j).flatMap f ++ f x)
  | [], j, x, h => by simp at h
  | y :: l, 0, x, h => by
    simp at h; subst h
    rw [List.flatMap_cons]
    exact List.perm_append_comm
  | y :: l, j + 1, x, h => by
    rw [List.flatMap_cons, List.eraseIdx_cons_succ, List.flatMap_cons, List.append_assoc]
    exact (flat_erase f l j x (by simpa using h)).append_left _
theorem tab_focus {T : TabR} {j : Nat} {c : CtxR} (h : T.cs[j]? = some c) : (tabFs T).Perm (tabRest T j ++ ctxFs c) :=
  ((flat_erase ctxFs T.cs j c h).cons _).cons _
theorem erase_set {α : Type} : ∀ (l : List α) (j : Nat) (x : α), (l.set j x).eraseIdx j = l.eraseIdx j
  | [], _, _ => rfl
  | _ :: _, 0, _ => rfl
  | y :: l, j + 1, x => by simp [erase_set l j x]
theorem tab_unfocus {T : TabR} {j : Nat} {c c' : CtxR} (h : T.cs[j]? = some c) (hk : c'.v.key = c.v.key) (hg : c'.g = c.g) : (tabFs (T.upd j c')).Perm (tabRest T j ++ ctxFs c') := by
  have hlt := (List.getElem?_eq_some_iff.1 h).1
  have h1 : (T.upd j c').cs[j]? = some c' := by show (T.cs.set j c')[j]? = _; rw [List.getElem?_set]; simp [hlt]
  have h2 := tab_focus h1
  have e1 : (T.upd j c').cs.map ck = T.cs.map ck := by
    show (T.cs.set j c').map ck = _
    apply List.ext_getElem?
    intro m
    rw [List.getElem?_map, List.getElem?_map, List.getElem?_set]
    by_cases hm : j = m
    · subst hm
      rw [if_pos rfl, if_pos hlt, h]
      show some (c'.v.key, c'.p) = some (c.v.key, c.p)
      rw [hk]
      unfold CtxR.p
      rw [hg]
    · rw [if_neg hm]
  have e2 : tabRest (T.upd j c') j = tabRest T j := by
    unfold tabRest tabM
    rw [e1]
    show tabB (T.upd j c') :: _ = _
    unfold TabR.upd
    rw [erase_set]
    rfl
  rw [e2] at h2
  exact h2
end N6
end Go.Proofs.YthhgbpmihhljdaaDoor
