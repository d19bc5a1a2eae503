/- Rows that a call makes: bytes, options, extension headers, datagrams, all in memory of its own. -/
import Derived.Test.YteppichfkeknbaaGreatDoorBe
import Derived.Test.YteppichfkeknbaaGreatDoorBi
import Derived.Test.YteppichfkeknbaaGreatDoorProg
import Derived.Test.YteppichfkeknbaaGreatDoorBq
import Derived.Test.YteppichfkeknbaaGreatDoorBk
namespace Go.Proofs.YteppichfkeknbaaGreatDoor
namespace N6
open Go Go.Eng Go.RowKit
abbrev rowB (b : Nat) (s : Sl) (l : List Int) : Fct := ownB b s.val s.n l
abbrev rowO (b : Nat) (s : Sl) (rs : List OptR) : Fct := Fct.own b 100 2 s.val s.n (rs.map fun r => r.v.cells).flatten
abbrev rowE (b : Nat) (s : Sl) (rs : List ExtR) : Fct := Fct.own b 81 3 s.val s.n (rs.map fun r => r.v.cells).flatten
def optFs (b : Nat) (s : Sl) (rs : List OptR) : List Fct := rowO b s rs :: rs.map fun r => rowB b r.v.data r.data
def extF (b : Nat) (r : ExtR) : List Fct := optFs b r.v.opts r.opts ++ [rowB b r.v.data r.data]
def extFs (b : Nat) (s : Sl) (rs : List ExtR) : List Fct := rowE b s rs :: rs.flatMap (extF b)
def BFine (s : Sl) (l : List Int) : Prop := s.n ≤ 4000000 ∧ Bts l
structure OptsFine (s : Sl) (rs : List OptR) : Prop where
  len : rs.length = s.n
  small : s.n ≤ 4000000
  each : ∀ r ∈ rs, BFine r.v.data r.data
structure ExtsFine (s : Sl) (rs : List ExtR) : Prop where
  len : rs.length = s.n
  small : s.n ≤ 4000000
  opts : ∀ r ∈ rs, OptsFine r.v.opts r.opts
  data : ∀ r ∈ rs, BFine r.v.data r.data
section
theorem own_le {w : World} {b e size n : Nat} {s : Sl} {xs : List Value} (h : w.ownsRow b e size s.val n xs) : n ≤ s.k := by
  obtain ⟨A, c, hv, hc, _⟩ := own_form h
  have hv : Value.slice s.A s.n s.k = .slice A n c := hv
  injection hv with _ _ h3
  omega
variable {w : World} {b : Nat} {s : Sl}
theorem bytesAt_of {l : List Int} (h : (rowB b s l).φ w) (hf : BFine s l) : BytesAt w s l :=
  ⟨by have := h.1; simpa using this, own_le h, hf.1, hf.2, own_cells (A := s.A) (c := s.k) h⟩
theorem optsAt_of {rs : List OptR} (h : ∀ f ∈ optFs b s rs, f.φ w) (hf : OptsFine s rs) : OptsAt w s rs := by
  have h0 := h (rowO b s rs) (by simp [optFs])
  refine ⟨hf.len, own_le h0, hf.small, Recs.of_cells (by decide) (fun r hr => ?_) (own_cells (A := s.A) (c := s.k) h0), fun r hr => bytesAt_of (b := b) (h _ ?_) (hf.each r hr)⟩
  · obtain ⟨x, _, rfl⟩ := List.mem_map.1 hr; rfl
  · exact List.mem_cons_of_mem _ (List.mem_map_of_mem (f := fun r => rowB b r.v.data r.data) hr)
theorem extsAt_of {rs : List ExtR} (h : ∀ f ∈ extFs b s rs, f.φ w) (hf : ExtsFine s rs) : ExtsAt w s rs := by
  have h0 := h (rowE b s rs) (by simp [extFs])
  have h1 : ∀ r ∈ rs, ∀ f ∈ extF b r, f.φ w := fun r hr f hf => h f (List.mem_cons_of_mem _ (List.mem_flatMap.2 ⟨r, hr, hf⟩))
  refine ⟨hf.len, own_le h0, hf.small, Recs.of_cells (by decide) (fun r hr => ?_) (own_cells (A := s.A) (c := s.k) h0), fun r hr => optsAt_of (b := b) (fun f hf => h1 r hr f (List.mem_append_left _ hf)) (hf.opts r hr),
    fun r hr => bytesAt_of (b := b) (h1 r hr _ (by simp [extF])) (hf.data r hr)⟩
  obtain ⟨x, _, rfl⟩ := List.mem_map.1 hr; rfl
theorem optFs_less {b' : Nat} {rs : List OptR} (h : b' ≤ b) : AllLe (optFs b s rs) (optFs b' s rs) :=
  .cons (own_less h).1 (own_less h).2 (AllLe.map rs fun _ _ => own_less h)
theorem extF_less {b' : Nat} {r : ExtR} (h : b' ≤ b) : AllLe (extF b r) (extF b' r) := (optFs_less h).append (.cons (own_less h).1 (own_less h).2 .nil)
theorem extFs_less {b' : Nat} {rs : List ExtR} (h : b' ≤ b) : AllLe (extFs b s rs) (extFs b' s rs) :=
  .cons (own_less h).1 (own_less h).2 (AllLe.flatMap rs fun _ _ => extF_less h)
end
end N6
end Go.Proofs.YteppichfkeknbaaGreatDoor
/- A list of options that lies in old memory, or in a row of new memory, and stays. -/
namespace Go.Eng
open Go Go.RowKit
structure OptsOld (w0 : World) (s : Sl) (rs : List OptR) : Prop where
  len : rs.length = s.n
  cap : s.n ≤ s.k
  small : s.n ≤ 4000000
  each : ∀ r ∈ rs, BytesAt w0 r.v.data r.data
theorem OptsAt.old {w : World} {s : Sl} {rs : List OptR} (h : OptsAt w s rs) : OptsOld w s rs := ⟨h.len, h.cap, h.small, h.each⟩
def footS (A : Option Addr) (k : Nat) : Prop := ∃ a, A = some a ∧ a.block = k
theorem Recs.mod {w w' : World} {M : Nat → Prop} {A : Option Addr} {size : Nat} {rs : List (List Value)} (h : Recs w A size rs) (hm : Mod M w w') (hn : rs ≠ [] → ∀ a, A = some a → ¬ M a.block) : Recs w' A size rs := by
  have cm : ∀ {cs : List Value} {a : Addr} {i : Nat}, CellsAt w a i cs → ¬ M a.block → CellsAt w' a i cs := by
    intro cs
    induction cs with
    | nil => intro _ _ _ _; trivial
    | cons v r ih => intro a i hc hna; exact ⟨hm.cell hc.1 (by rw [add_block]; exact hna), ih hc.2 hna⟩
  intro i cs hi
  obtain ⟨a, ha, hc⟩ := h i cs hi
  exact ⟨a, ha, cm hc (by rw [add_block]; exact hn (fun e => by rw [e] at hi; simp at hi) a ha)⟩
/-- Records that lay there at w0, or lie in newer memory. -/
def Fct.recs (w0 : World) (A : Option Addr) (size : Nat) (rs : List (List Value)) : Fct :=
  ⟨fun k => rs ≠ [] ∧ w0.heap.size ≤ k ∧ footS A k, fun w => Recs w0 A size rs ∨ (rs ≠ [] → ∀ a, A = some a → w0.heap.size ≤ a.block) ∧ Recs w A size rs, fun M w w' h _ hm hn => by
    rcases h with h | ⟨h1, h2⟩
    · exact .inl h
    · exact .inr ⟨h1, h2.mod hm fun hne a ha => hn _ ⟨hne, h1 hne a ha, a, ha, rfl⟩⟩⟩
section
variable {w0 w : World} {Γ : List Fct} {A : Option Addr} {size : Nat} {rs : List (List Value)}
theorem Sep.recs (H : Sep Γ w) (hE : Ext w0 w) (i : Nat) (hi : Γ[i]? = some (Fct.recs w0 A size rs)) : Recs w A size rs := by
  rcases H.yes i _ hi with h | ⟨_, h⟩
  · exact h.ext hE
  · exact h
theorem Recs.lt {w : World} (h : Recs w A size rs) (h1 : ∀ r ∈ rs, r ≠ []) {r : List Value} (hr : r ∈ rs) {a : Addr} (ha : A = some a) : a.block < w.heap.size := by
  obtain ⟨i, hi⟩ := List.mem_iff_getElem?.1 hr
  obtain ⟨b, hb, hc⟩ := h i r hi
  rw [ha] at hb; cases hb
  cases r with
  | nil => exact absurd rfl (h1 [] hr)
  | cons v r =>
    have := World.block_lt_of_cell? w _ hc.1
    rwa [add_block, add_block] at this
theorem Sep.pushRecs (H : Sep Γ w) (h : Recs w0 A size rs) (h1 : ∀ r ∈ rs, r ≠ []) : Sep (Γ ++ [Fct.recs w0 A size rs]) w :=
  H.push (Mod.refl _ _) _ (.inl h) fun k ⟨hne, hk, a, ha, e⟩ => by
    obtain ⟨r, hr⟩ := List.exists_mem_of_ne_nil rs hne
    have := h.lt h1 hr ha
    omega
theorem Sep.ownRecs {b e : Nat} {s : Sl} (H : Sep Γ w) (i : Nat) (hi : Γ[i]? = some (Fct.own b e size s.val s.n rs.flatten)) (h0 : 0 < size) (hs : ∀ r ∈ rs, r.length = size) (hb : w0.heap.size ≤ b) : Sep (Γ.set i (Fct.recs w0 s.A size rs)) w := by
  have ho := H.own i hi
  have hc : Cells w s.A rs.flatten := own_cells (A := s.A) (c := s.k) (n := s.n) ho
  refine H.weaken i hi (.inr ⟨fun hne a ha => ?_, Recs.of_cells h0 hs hc⟩) fun k ⟨hne, hk, a, ha, e⟩ => ?_
  · have := (ho.lt a.block (by show (Value.slice s.A s.n s.k).ownBlock = _; rw [ha]; rfl)).1
    omega
  · show (Value.slice s.A s.n s.k).ownBlock = some k
    rw [ha, ← e]; rfl
/-- Options whose bytes lay there at w0. -/
theorem Sep.optAt {s : Sl} {os : List OptR} (H : Sep Γ w) (hE : Ext w0 w) (i : Nat) (hi : Γ[i]? = some (Fct.recs w0 s.A 2 (os.map fun r => r.v.cells))) (h : OptsOld w0 s os) : OptsAt w s os :=
  ⟨h.len, h.cap, h.small, H.recs hE i hi, fun r hr => (h.each r hr).ext hE⟩
end
end Go.Eng
/- How long the lists of a datagram may be. -/
namespace Go.Eng
open Go Go.RowKit
def Small4 (b : Nat) (h : Ip4V) (os : List OptR) : Prop := h.data.n ≤ b ∧ h.opts.n ≤ b ∧ ∀ r ∈ os, r.v.data.n ≤ b
def SmallE (b : Nat) (r : ExtR) : Prop := r.v.data.n ≤ b ∧ r.v.opts.n ≤ b ∧ ∀ o ∈ r.opts, o.v.data.n ≤ b
def Small6 (b : Nat) (h : Ip6V) (es : List ExtR) : Prop := h.data.n ≤ b ∧ h.exts.n ≤ b ∧ ∀ r ∈ es, SmallE b r
end Go.Eng
/- A script of calls: each with a datagram of either version. -/
namespace Go.Eng
open Go Go.RowKit
structure Op13R where
  v : Op13V
  os : List OptR
  d4 : List Int
  es : List ExtR
  d6 : List Int
structure Op13At (w : World) (r : Op13R) : Prop where
  a4 : Ip4At w r.v.h4 r.os r.d4
  s4 : Small4 1048576 r.v.h4 r.os
  a6 : Ip6At w r.v.h6 r.es r.d6
  s6 : Small6 1048576 r.v.h6 r.es
structure OpsAt (w : World) (s : Sl) (rs : List Op13R) : Prop where
  len : rs.length = s.n
  small : s.n ≤ 4000000
  recs : Recs w s.A 90 (rs.map fun r => r.v.cells)
  each : ∀ r ∈ rs, Op13At w r
theorem OpsAt.ext {w w' : World} {s : Sl} {rs : List Op13R} (h : OpsAt w s rs) (hE : Ext w w') : OpsAt w' s rs :=
  { h with recs := h.recs.ext hE, each := fun r hr => ⟨(h.each r hr).a4.ext hE, (h.each r hr).s4, (h.each r hr).a6.ext hE, (h.each r hr).s6⟩ }
end Go.Eng
/- WRITTEN BY a program of this session (vc.py): for each Go function the condition that is enough for its contract, and the theorem that it is. -/
namespace Go.Proofs.YteppichfkeknbaaGreatDoor
open Go.Eng
namespace N6

set_option maxRecDepth 100000 in
def split_heads4_head_VC (h : Hd4V) (first : Bool) (w : World) (R : Ending → World → Prop) : Prop :=
  NewVC w (.cells h.cells.toArray 86) fun g1 w1 =>
  Br first
    (∃ x : Int, w1.cell? ⟨g1, 0, none⟩ = some (.int .i64 x) ∧
    R (.returned (.int .i64 x)) w1)
    (∃ x1 : Int, w1.cell? ⟨g1, 1, none⟩ = some (.int .i64 x1) ∧
  R (.returned (.int .i64 x1)) w1)
def split_heads4_head_H : Hints := []
set_option maxRecDepth 100000 in
theorem split_heads4_head_of (h : Hd4V) (first : Bool) (w : World) (R : Ending → World → Prop) (hvc_ : split_heads4_head_VC h first w R) :
    Calls Tryz.prog 129 #[h.val, .bool first] w R :=
  calls_of_wpc callOk mixedOk (H := split_heads4_head_H) (args := [h.val, .bool first]) (fn := Tryz.f129) (c := bodyOf Tryz.f129) Tryz.func129 rfl (Nat.le_of_ble_eq_true rfl)
    (Eq.mp (by kernel_rfl : split_heads4_head_VC h first w R = wpc Tryz.prog callF Tryz.f129.ntmps split_heads4_head_H 1 (bodyOf Tryz.f129) (argEnv 0 [h.val, .bool first]) [] w (finish Tryz.prog callF Tryz.f129.results.toList R)) hvc_)

set_option maxRecDepth 100000 in
def split_heads6_head_VC (h : Int) (_p1 : Bool) (w : World) (R : Ending → World → Prop) : Prop :=
  R (.returned (.int .i64 h)) w
def split_heads6_head_H : Hints := []
set_option maxRecDepth 100000 in
theorem split_heads6_head_of (h : Int) (p1 : Bool) (w : World) (R : Ending → World → Prop) (hvc_ : split_heads6_head_VC h p1 w R) :
    Calls Tryz.prog 130 #[.int .i64 h, .bool p1] w R :=
  calls_of_wpc callOk mixedOk (H := split_heads6_head_H) (args := [.int .i64 h, .bool p1]) (fn := Tryz.f130) (c := bodyOf Tryz.f130) Tryz.func130 rfl (Nat.le_of_ble_eq_true rfl)
    (Eq.mp (by kernel_rfl : split_heads6_head_VC h p1 w R = wpc Tryz.prog callF Tryz.f130.ntmps split_heads6_head_H 1 (bodyOf Tryz.f130) (argEnv 0 [.int .i64 h, .bool p1]) [] w (finish Tryz.prog callF Tryz.f130.results.toList R)) hvc_)

set_option maxRecDepth 100000 in
def slices_Clone_VC (sA : Option Addr) (sn : Nat) (sc : Nat) (w : World) (R : Ending → World → Prop) : Prop :=
  Br sA.isNone
    (R (.returned (.slice none 0 0)) w)
    (NewVC w (.cells #[] 5) fun g1 w1 =>
  AppVC Tryz.prog #[26, 26] 26 (.slice (some ⟨g1, 0, none⟩) 0 0) (.slice sA sn sc) w1 fun lA ln lc w2 =>
  R (.returned (.slice lA ln lc)) w2)
def slices_Clone_H : Hints := []
set_option maxRecDepth 100000 in
theorem slices_Clone_of (sA : Option Addr) (sn : Nat) (sc : Nat) (w : World) (R : Ending → World → Prop) (hvc_ : slices_Clone_VC sA sn sc w R) :
    Calls Tryz.prog 40 #[.slice sA sn sc] w R :=
  calls_of_wpc callOk mixedOk (H := slices_Clone_H) (args := [.slice sA sn sc]) (fn := Tryz.f40) (c := bodyOf Tryz.f40) Tryz.func40 rfl (Nat.le_of_ble_eq_true rfl)
    (Eq.mp (by kernel_rfl : slices_Clone_VC sA sn sc w R = wpc Tryz.prog callF Tryz.f40.ntmps slices_Clone_H 1 (bodyOf Tryz.f40) (argEnv 0 [.slice sA sn sc]) [] w (finish Tryz.prog callF Tryz.f40.results.toList R)) hvc_)

set_option maxRecDepth 100000 in
def split_options_J3737 (outA : Option Addr) (outn : Nat) (outc : Nat) (t10_ : Int) (K58 : ((Option Addr × Nat × Nat) × Int → World → Prop)) (g1 : Nat) (t21_ : Bool) (w4 : World) : Prop :=
  Br t21_
    (DrawVC w4 fun S1 w5 =>
    ∃ x1 : Int, (∀ w' : World, S1 w' → w'.cell? ⟨g1, 0, none⟩ = some (.int .i64 x1)) ∧
    ∃ (xA : Option Addr) (xn xc : Nat), (∀ w' : World, S1 w' → w'.cell? ⟨g1, 1, none⟩ = some (.slice xA xn xc)) ∧
    Calls Tryz.prog 40 #[.slice xA xn xc] w5 (onRet (fun r_ w6 => ∃ (xA1 : Option Addr) (xn1 xc1 : Nat), r_ = .slice xA1 xn1 xc1 ∧
    S1 w6 ∧
    NewVC w6 (.cells #[.int .i64 x1, .slice xA1 xn1 xc1] 100) fun g2 w7 =>
    S1 w7 ∧
    AppVC Tryz.prog #[25, 25] 25 (.slice outA outn outc) (.slice (some ⟨g2, 0, none⟩) 1 1) w7 fun lA1 ln1 lc1 w8 =>
    S1 w8 ∧
    K58 ((lA1, ln1, lc1), IntKind.i64.wrap (t10_ + 1)) w8)
      (fun _ _ => False)))
    (K58 ((outA, outn, outc), IntKind.i64.wrap (t10_ + 1)) w4)
set_option maxRecDepth 100000 in
def split_options_L58 (R : Ending → World → Prop) (lA : Option Addr) (ln : Nat) (copied : Bool) (outA : Option Addr) (outn : Nat) (outc : Nat) (t10_ : Int) (w1 : World) (K58 : ((Option Addr × Nat × Nat) × Int → World → Prop)) : Prop :=
  Br (decide (t10_ < (ln : Int)))
    (IdxVC lA ln 2 t10_ fun a =>
  OptV.ex fun h => CellsAt w1 a 0 h.cells ∧
  NewVC w1 (.cells (OptV.z : OptV).cells.toArray 100) fun g1 w2 =>
  Stores ⟨g1, 0, none⟩ 0 h.cells w2 fun w3 =>
  JoinVC (S := Bool) (fun J3737 =>
      Br (!copied)
        (J3737 true w3)
        (∃ x : Int, w3.cell? ⟨g1, 0, none⟩ = some (.int .i64 x) ∧
        J3737 (decide (bitv .and .i64 x 128 ≠ 0)) w3))
    (fun s_ w4 => split_options_J3737 outA outn outc t10_ K58 g1 s_ w4))
    (R (.returned (.slice outA outn outc)) w1)
set_option maxRecDepth 100000 in
def split_options_VC (lA : Option Addr) (ln : Nat) (_lc : Nat) (copied : Bool) (w : World) (R : Ending → World → Prop) : Prop :=
  LoopVC (S := (Option Addr × Nat × Nat) × Int) (fun s_ w1 K58 => split_options_L58 R lA ln copied s_.1.1 s_.1.2.1 s_.1.2.2 s_.2 w1 K58) ((none, 0, 0), 0) w
def split_options_H : Hints := [(58, [(5, .slice), (10, .int .i64)]), (3737, [(21, .bool)])]
set_option maxRecDepth 100000 in
theorem split_options_of (lA : Option Addr) (ln : Nat) (lc : Nat) (copied : Bool) (w : World) (R : Ending → World → Prop) (hvc_ : split_options_VC lA ln lc copied w R) :
    Calls Tryz.prog 34 #[.slice lA ln lc, .bool copied] w R :=
  calls_of_wpc callOk mixedOk (H := split_options_H) (args := [.slice lA ln lc, .bool copied]) (fn := Tryz.f34) (c := bodyOf Tryz.f34) Tryz.func34 rfl (Nat.le_of_ble_eq_true rfl)
    (Eq.mp (by kernel_rfl : split_options_VC lA ln lc copied w R = wpc Tryz.prog callF Tryz.f34.ntmps split_options_H 1 (bodyOf Tryz.f34) (argEnv 0 [.slice lA ln lc, .bool copied]) [] w (finish Tryz.prog callF Tryz.f34.results.toList R)) hvc_)

set_option maxRecDepth 100000 in
def split_clone4_VC (h : Ip4V) (w : World) (R : Ending → World → Prop) : Prop :=
  NewVC w (.cells h.cells.toArray 28) fun g1 w1 =>
  NewVC w1 (.cells (Ip4V.z : Ip4V).cells.toArray 28) fun g2 w2 =>
  ∃ (xA : Option Addr) (xn xc : Nat), w2.cell? ⟨g1, 41, none⟩ = some (.slice xA xn xc) ∧
  Calls Tryz.prog 34 #[.slice xA xn xc, .bool false] w2 (onRet (fun r_ w3 => ∃ (xA1 : Option Addr) (xn1 xc1 : Nat), r_ = .slice xA1 xn1 xc1 ∧
  SetVC w3 ⟨g1, 41, none⟩ (.slice xA1 xn1 xc1) fun w4 =>
  ∃ (xA2 : Option Addr) (xn2 xc2 : Nat), w4.cell? ⟨g1, 42, none⟩ = some (.slice xA2 xn2 xc2) ∧
  Calls Tryz.prog 40 #[.slice xA2 xn2 xc2] w4 (onRet (fun r_1 w5 => ∃ (xA3 : Option Addr) (xn3 xc3 : Nat), r_1 = .slice xA3 xn3 xc3 ∧
  SetVC w5 ⟨g1, 42, none⟩ (.slice xA3 xn3 xc3) fun w6 =>
  Ip4V.ex fun h1 => CellsAt w6 ⟨g1, 0, none⟩ 0 h1.cells ∧
  Stores ⟨g2, 0, none⟩ 0 h1.cells w6 fun w7 =>
  Ip4V.ex fun res => CellsAt w7 ⟨g2, 0, none⟩ 0 res.cells ∧
  R (.returned res.val) w7)
    (fun ch1 w5 => R (.panicked ch1) w5)))
    (fun ch w3 => R (.panicked ch) w3))
def split_clone4_H : Hints := []
set_option maxRecDepth 100000 in
theorem split_clone4_of (h : Ip4V) (w : World) (R : Ending → World → Prop) (hvc_ : split_clone4_VC h w R) :
    Calls Tryz.prog 35 #[h.val] w R :=
  calls_of_wpc callOk mixedOk (H := split_clone4_H) (args := [h.val]) (fn := Tryz.f35) (c := bodyOf Tryz.f35) Tryz.func35 rfl (Nat.le_of_ble_eq_true rfl)
    (Eq.mp (by kernel_rfl : split_clone4_VC h w R = wpc Tryz.prog callF Tryz.f35.ntmps split_clone4_H 1 (bodyOf Tryz.f35) (argEnv 0 [h.val]) [] w (finish Tryz.prog callF Tryz.f35.results.toList R)) hvc_)

set_option maxRecDepth 100000 in
def split_padded_VC (lA : Option Addr) (ln : Nat) (lc : Nat) (w : World) (R : Ending → World → Prop) : Prop :=
  Calls Tryz.prog 74 #[.slice lA ln lc] w (onRet (fun r_ w1 => ∃ (x0A : Option Addr) (x0n x0c : Nat), ∃ x1 : Int, r_ = .tuple #[.slice x0A x0n x0c, .int .i64 x1] ∧
  R (.returned (.int .i64 (x0n : Int))) w1)
    (fun ch w1 => R (.panicked ch) w1))
def split_padded_H : Hints := []
set_option maxRecDepth 100000 in
theorem split_padded_of (lA : Option Addr) (ln : Nat) (lc : Nat) (w : World) (R : Ending → World → Prop) (hvc_ : split_padded_VC lA ln lc w R) :
    Calls Tryz.prog 33 #[.slice lA ln lc] w R :=
  calls_of_wpc callOk mixedOk (H := split_padded_H) (args := [.slice lA ln lc]) (fn := Tryz.f33) (c := bodyOf Tryz.f33) Tryz.func33 rfl (Nat.le_of_ble_eq_true rfl)
    (Eq.mp (by kernel_rfl : split_padded_VC lA ln lc w R = wpc Tryz.prog callF Tryz.f33.ntmps split_padded_H 1 (bodyOf Tryz.f33) (argEnv 0 [.slice lA ln lc]) [] w (finish Tryz.prog callF Tryz.f33.results.toList R)) hvc_)

set_option maxRecDepth 100000 in
def cut4_L30 (R : Ending → World → Prop) (bA : Option Addr) (bn : Nat) (bc : Nat) (mtu : Int) (h : Hd4V) (outA : Option Addr) (outn : Nat) (outc : Nat) (at_ : Int) (w1 : World) (K30 : ((Option Addr × Nat × Nat) × Int → World → Prop)) : Prop :=
  Calls Tryz.prog 129 #[h.val, .bool (decide (at_ = 0))] w1 (onRet (fun r_ w2 => ∃ x : Int, r_ = .int .i64 x ∧
  Br (decide (IntKind.i64.wrap ((bn : Int) - at_) ≤ IntKind.i64.wrap (mtu - x)))
    (SliceVC bA bn bc 1 (some at_) (some (bn : Int)) (some (bn : Int)) fun sA sn sc =>
    Calls Tryz.prog 40 #[.slice sA sn sc] w2 (onRet (fun r_1 w3 => ∃ (xA : Option Addr) (xn xc : Nat), r_1 = .slice xA xn xc ∧
    NewVC w3 (.cells #[.int .i64 at_, .slice xA xn xc, .bool true] 90) fun g1 w4 =>
    AppVC Tryz.prog #[87, 87] 87 (.slice outA outn outc) (.slice (some ⟨g1, 0, none⟩) 1 1) w4 fun lA ln lc w5 =>
    R (.returned (.slice lA ln lc)) w5)
      (fun ch1 w3 => R (.panicked ch1) w3)))
    (SliceVC bA bn bc 1 (some at_) (some (IntKind.i64.wrap (at_ + IntKind.i64.wrap (IntKind.i64.wrap (Int.tdiv (IntKind.i64.wrap (mtu - x)) 8) * 8)))) (some (IntKind.i64.wrap (at_ + IntKind.i64.wrap (IntKind.i64.wrap (Int.tdiv (IntKind.i64.wrap (mtu - x)) 8) * 8)))) fun sA1 sn1 sc1 =>
  Calls Tryz.prog 40 #[.slice sA1 sn1 sc1] w2 (onRet (fun r_2 w6 => ∃ (xA1 : Option Addr) (xn1 xc1 : Nat), r_2 = .slice xA1 xn1 xc1 ∧
  NewVC w6 (.cells #[.int .i64 at_, .slice xA1 xn1 xc1, .bool false] 90) fun g2 w7 =>
  AppVC Tryz.prog #[87, 87] 87 (.slice outA outn outc) (.slice (some ⟨g2, 0, none⟩) 1 1) w7 fun lA1 ln1 lc1 w8 =>
  K30 ((lA1, ln1, lc1), IntKind.i64.wrap (at_ + IntKind.i64.wrap (IntKind.i64.wrap (Int.tdiv (IntKind.i64.wrap (mtu - x)) 8) * 8))) w8)
    (fun ch2 w6 => R (.panicked ch2) w6))))
    (fun ch w2 => R (.panicked ch) w2))
set_option maxRecDepth 100000 in
def cut4_VC (bA : Option Addr) (bn : Nat) (bc : Nat) (mtu : Int) (h : Hd4V) (w : World) (R : Ending → World → Prop) : Prop :=
  LoopVC (S := (Option Addr × Nat × Nat) × Int) (fun s_ w1 K30 => cut4_L30 R bA bn bc mtu h s_.1.1 s_.1.2.1 s_.1.2.2 s_.2 w1 K30) ((none, 0, 0), 0) w
def cut4_H : Hints := [(30, [(7, .slice), (8, .int .i64)])]
set_option maxRecDepth 100000 in
theorem cut4_of (bA : Option Addr) (bn : Nat) (bc : Nat) (mtu : Int) (h : Hd4V) (w : World) (R : Ending → World → Prop) (hvc_ : cut4_VC bA bn bc mtu h w R) :
    Calls Tryz.prog 36 #[.slice bA bn bc, .int .i64 mtu, .iface 86 (h.val)] w R :=
  calls_of_wpc callOk mixedOk (H := cut4_H) (args := [.slice bA bn bc, .int .i64 mtu, .iface 86 (h.val)]) (fn := Tryz.f36) (c := bodyOf Tryz.f36) Tryz.func36 rfl (Nat.le_of_ble_eq_true rfl)
    (Eq.mp (by kernel_rfl : cut4_VC bA bn bc mtu h w R = wpc Tryz.prog callF Tryz.f36.ntmps cut4_H 1 (bodyOf Tryz.f36) (argEnv 0 [.slice bA bn bc, .int .i64 mtu, .iface 86 (h.val)]) [] w (finish Tryz.prog callF Tryz.f36.results.toList R)) hvc_)

set_option maxRecDepth 100000 in
def cut6_L30 (R : Ending → World → Prop) (bA : Option Addr) (bn : Nat) (bc : Nat) (mtu : Int) (h : Int) (outA : Option Addr) (outn : Nat) (outc : Nat) (at_ : Int) (w1 : World) (K30 : ((Option Addr × Nat × Nat) × Int → World → Prop)) : Prop :=
  Calls Tryz.prog 130 #[.int .i64 h, .bool (decide (at_ = 0))] w1 (onRet (fun r_ w2 => ∃ x : Int, r_ = .int .i64 x ∧
  Br (decide (IntKind.i64.wrap ((bn : Int) - at_) ≤ IntKind.i64.wrap (mtu - x)))
    (SliceVC bA bn bc 1 (some at_) (some (bn : Int)) (some (bn : Int)) fun sA sn sc =>
    Calls Tryz.prog 40 #[.slice sA sn sc] w2 (onRet (fun r_1 w3 => ∃ (xA : Option Addr) (xn xc : Nat), r_1 = .slice xA xn xc ∧
    NewVC w3 (.cells #[.int .i64 at_, .slice xA xn xc, .bool true] 90) fun g1 w4 =>
    AppVC Tryz.prog #[87, 87] 87 (.slice outA outn outc) (.slice (some ⟨g1, 0, none⟩) 1 1) w4 fun lA ln lc w5 =>
    R (.returned (.slice lA ln lc)) w5)
      (fun ch1 w3 => R (.panicked ch1) w3)))
    (SliceVC bA bn bc 1 (some at_) (some (IntKind.i64.wrap (at_ + IntKind.i64.wrap (IntKind.i64.wrap (Int.tdiv (IntKind.i64.wrap (mtu - x)) 8) * 8)))) (some (IntKind.i64.wrap (at_ + IntKind.i64.wrap (IntKind.i64.wrap (Int.tdiv (IntKind.i64.wrap (mtu - x)) 8) * 8)))) fun sA1 sn1 sc1 =>
  Calls Tryz.prog 40 #[.slice sA1 sn1 sc1] w2 (onRet (fun r_2 w6 => ∃ (xA1 : Option Addr) (xn1 xc1 : Nat), r_2 = .slice xA1 xn1 xc1 ∧
  NewVC w6 (.cells #[.int .i64 at_, .slice xA1 xn1 xc1, .bool false] 90) fun g2 w7 =>
  AppVC Tryz.prog #[87, 87] 87 (.slice outA outn outc) (.slice (some ⟨g2, 0, none⟩) 1 1) w7 fun lA1 ln1 lc1 w8 =>
  K30 ((lA1, ln1, lc1), IntKind.i64.wrap (at_ + IntKind.i64.wrap (IntKind.i64.wrap (Int.tdiv (IntKind.i64.wrap (mtu - x)) 8) * 8))) w8)
    (fun ch2 w6 => R (.panicked ch2) w6))))
    (fun ch w2 => R (.panicked ch) w2))
set_option maxRecDepth 100000 in
def cut6_VC (bA : Option Addr) (bn : Nat) (bc : Nat) (mtu : Int) (h : Int) (w : World) (R : Ending → World → Prop) : Prop :=
  LoopVC (S := (Option Addr × Nat × Nat) × Int) (fun s_ w1 K30 => cut6_L30 R bA bn bc mtu h s_.1.1 s_.1.2.1 s_.1.2.2 s_.2 w1 K30) ((none, 0, 0), 0) w
def cut6_H : Hints := [(30, [(7, .slice), (8, .int .i64)])]
set_option maxRecDepth 100000 in
theorem cut6_of (bA : Option Addr) (bn : Nat) (bc : Nat) (mtu : Int) (h : Int) (w : World) (R : Ending → World → Prop) (hvc_ : cut6_VC bA bn bc mtu h w R) :
    Calls Tryz.prog 36 #[.slice bA bn bc, .int .i64 mtu, .iface 96 (.int .i64 h)] w R :=
  calls_of_wpc callOk mixedOk (H := cut6_H) (args := [.slice bA bn bc, .int .i64 mtu, .iface 96 (.int .i64 h)]) (fn := Tryz.f36) (c := bodyOf Tryz.f36) Tryz.func36 rfl (Nat.le_of_ble_eq_true rfl)
    (Eq.mp (by kernel_rfl : cut6_VC bA bn bc mtu h w R = wpc Tryz.prog callF Tryz.f36.ntmps cut6_H 1 (bodyOf Tryz.f36) (argEnv 0 [.slice bA bn bc, .int .i64 mtu, .iface 96 (.int .i64 h)]) [] w (finish Tryz.prog callF Tryz.f36.results.toList R)) hvc_)

set_option maxRecDepth 100000 in
def split_Split4_D522854 (J261427 : (Unit → World → Prop)) (w20 : World) : Prop :=
  J261427 () w20
set_option maxRecDepth 100000 in
def split_Split4_J261427 (R : Ending → World → Prop) (g1 : Nat) (outA : Option Addr) (outn : Nat) (outc : Nat) (t53_ : Int) (K2042 : ((Option Addr × Nat × Nat) × Int → World → Prop)) (g4 : Nat) (g5 : Nat)  (w24 : World) : Prop :=
  ∃ (xA7 : Option Addr) (xn7 xc7 : Nat), w24.cell? ⟨g1, 41, none⟩ = some (.slice xA7 xn7 xc7) ∧
  ∃ x9 : Int, w24.cell? ⟨g4, 0, none⟩ = some (.int .i64 x9) ∧
  Calls Tryz.prog 34 #[.slice xA7 xn7 xc7, .bool (decide ((0 : Int) < x9))] w24 (onRet (fun r_6 w25 => ∃ (xA8 : Option Addr) (xn8 xc8 : Nat), r_6 = .slice xA8 xn8 xc8 ∧
  SetVC w25 ⟨g5, 41, none⟩ (.slice xA8 xn8 xc8) fun w26 =>
  Ip4V.ex fun h7 => CellsAt w26 ⟨g5, 0, none⟩ 0 h7.cells ∧
  NewVC w26 (.cells h7.cells.toArray 28) fun g6 w27 =>
  AppVC Tryz.prog #[34, 34] 34 (.slice outA outn outc) (.slice (some ⟨g6, 0, none⟩) 1 1) w27 fun lA ln lc w28 =>
  K2042 ((lA, ln, lc), IntKind.i64.wrap (t53_ + 1)) w28)
    (fun ch6 w25 => R (.panicked ch6) w25))
set_option maxRecDepth 100000 in
def split_Split4_L2042 (R : Ending → World → Prop) (g1 : Nat) (xA5 : Option Addr) (xn5 : Nat) (outA : Option Addr) (outn : Nat) (outc : Nat) (t53_ : Int) (w12 : World) (K2042 : ((Option Addr × Nat × Nat) × Int → World → Prop)) : Prop :=
  Br (decide (t53_ < (xn5 : Int)))
    (IdxVC xA5 xn5 3 t53_ fun a =>
  PieV.ex fun h5 => CellsAt w12 a 0 h5.cells ∧
  NewVC w12 (.cells (PieV.z : PieV).cells.toArray 90) fun g4 w13 =>
  Stores ⟨g4, 0, none⟩ 0 h5.cells w13 fun w14 =>
  Ip4V.ex fun h6 => CellsAt w14 ⟨g1, 0, none⟩ 0 h6.cells ∧
  NewVC w14 (.cells (Ip4V.z : Ip4V).cells.toArray 28) fun g5 w15 =>
  Stores ⟨g5, 0, none⟩ 0 h6.cells w15 fun w16 =>
  JoinVC (S := Unit) (fun J261427 =>
      DrawVC w16 fun S2 w17 =>
      ∃ x5 : Int, (∀ w' : World, S2 w' → w'.cell? ⟨g1, 4, none⟩ = some (.int .i64 x5)) ∧
      ∃ x6 : Int, (∀ w' : World, S2 w' → w'.cell? ⟨g4, 0, none⟩ = some (.int .i64 x6)) ∧
      ∃ (xA6 : Option Addr) (xn6 xc6 : Nat), (∀ w' : World, S2 w' → w'.cell? ⟨g4, 1, none⟩ = some (.slice xA6 xn6 xc6)) ∧
      ∃ x7 : Bool, (∀ w' : World, S2 w' → w'.cell? ⟨g4, 2, none⟩ = some (.bool x7)) ∧
      Br (!x7)
        (SetVC w17 ⟨g5, 4, none⟩ (.int .i64 (IntKind.i64.wrap (x5 + x6))) fun w18 =>
        S2 w18 ∧
        SetVC w18 ⟨g5, 42, none⟩ (.slice xA6 xn6 xc6) fun w19 =>
        S2 w19 ∧
        SetVC w19 ⟨g5, 3, none⟩ (.bool true) fun w20 =>
        split_Split4_D522854 J261427 w20)
        (∃ x8 : Bool, (∀ w' : World, S2 w' → w'.cell? ⟨g1, 3, none⟩ = some (.bool x8)) ∧
        SetVC w17 ⟨g5, 4, none⟩ (.int .i64 (IntKind.i64.wrap (x5 + x6))) fun w21 =>
        S2 w21 ∧
        SetVC w21 ⟨g5, 42, none⟩ (.slice xA6 xn6 xc6) fun w22 =>
        S2 w22 ∧
        SetVC w22 ⟨g5, 3, none⟩ (.bool x8) fun w23 =>
        split_Split4_D522854 J261427 w23))
    (fun _ w24 => split_Split4_J261427 R g1 outA outn outc t53_ K2042 g4 g5 w24))
    (R (.returned (.tuple #[.slice outA outn outc, .int .i64 0])) w12)
set_option maxRecDepth 100000 in
def split_Split4_D30 (R : Ending → World → Prop) (w8 : World) (g2 : Nat) (g1 : Nat) (mtu : Int) : Prop :=
  ∃ x3 : Int, w8.cell? ⟨g2, 0, none⟩ = some (.int .i64 x3) ∧
  ∃ (xA3 : Option Addr) (xn3 xc3 : Nat), w8.cell? ⟨g1, 42, none⟩ = some (.slice xA3 xn3 xc3) ∧
  Br (decide (IntKind.i64.wrap (x3 + (xn3 : Int)) ≤ mtu))
    (Ip4V.ex fun h2 => CellsAt w8 ⟨g1, 0, none⟩ 0 h2.cells ∧
    Calls Tryz.prog 35 #[h2.val] w8 (onRet (fun r_4 w9 => Ip4V.ex fun h3 => r_4 = h3.val ∧
    NewVC w9 (.cells h3.cells.toArray 28) fun g3 w10 =>
    R (.returned (.tuple #[.slice (some ⟨g3, 0, none⟩) 1 1, .int .i64 0])) w10)
      (fun ch4 w9 => R (.panicked ch4) w9)))
    (∃ x4 : Bool, w8.cell? ⟨g1, 2, none⟩ = some (.bool x4) ∧
  Br x4
    (R (.returned (.tuple #[.slice none 0 0, .int .i64 130])) w8)
    (∃ (xA4 : Option Addr) (xn4 xc4 : Nat), w8.cell? ⟨g1, 42, none⟩ = some (.slice xA4 xn4 xc4) ∧
  Hd4V.ex fun h4 => CellsAt w8 ⟨g2, 0, none⟩ 0 h4.cells ∧
  Calls Tryz.prog 36 #[.slice xA4 xn4 xc4, .int .i64 mtu, .iface 86 (h4.val)] w8 (onRet (fun r_5 w11 => ∃ (xA5 : Option Addr) (xn5 xc5 : Nat), r_5 = .slice xA5 xn5 xc5 ∧
  LoopVC (S := (Option Addr × Nat × Nat) × Int) (fun s_ w12 K2042 => split_Split4_L2042 R g1 xA5 xn5 s_.1.1 s_.1.2.1 s_.1.2.2 s_.2 w12 K2042) ((none, 0, 0), 0) w11)
    (fun ch5 w11 => R (.panicked ch5) w11))))
set_option maxRecDepth 100000 in
def split_Split4_VC (h : Ip4V) (mtu : Int) (w : World) (R : Ending → World → Prop) : Prop :=
  NewVC w (.cells h.cells.toArray 28) fun g1 w1 =>
  Ip4V.ex fun h1 => CellsAt w1 ⟨g1, 0, none⟩ 0 h1.cells ∧
  Calls Tryz.prog 32 #[h1.val] w1 (onRet (fun r_ w2 => ∃ x : Int, r_ = .int .i64 x ∧
  Br (decide (x ≠ 0))
    (R (.returned (.tuple #[.slice none 0 0, .int .i64 x])) w2)
    (Br (decide (mtu < 68))
    (R (.returned (.tuple #[.slice none 0 0, .int .i64 132])) w2)
    (Br (decide ((65535 : Int) < mtu))
    (R (.returned (.tuple #[.slice none 0 0, .int .i64 132])) w2)
    (DrawVC w2 fun S1 w3 =>
  ∃ (xA : Option Addr) (xn xc : Nat), (∀ w' : World, S1 w' → w'.cell? ⟨g1, 41, none⟩ = some (.slice xA xn xc)) ∧
  ∃ (xA1 : Option Addr) (xn1 xc1 : Nat), (∀ w' : World, S1 w' → w'.cell? ⟨g1, 41, none⟩ = some (.slice xA1 xn1 xc1)) ∧
  (Calls Tryz.prog 33 #[.slice xA xn xc] w3 (onRet (fun r_1 w4 => ∃ x1 : Int, r_1 = .int .i64 x1 ∧
  S1 w4 ∧
  (Calls Tryz.prog 34 #[.slice xA1 xn1 xc1, .bool true] w4 (onRet (fun r_2 w5 => ∃ (xA2 : Option Addr) (xn2 xc2 : Nat), r_2 = .slice xA2 xn2 xc2 ∧
  S1 w5 ∧
  (Calls Tryz.prog 33 #[.slice xA2 xn2 xc2] w5 (onRet (fun r_3 w6 => ∃ x2 : Int, r_3 = .int .i64 x2 ∧
  S1 w6 ∧
  NewVC w6 (.cells (Hd4V.z : Hd4V).cells.toArray 86) fun g2 w7 =>
  S1 w7 ∧
  Stores ⟨g2, 0, none⟩ 0 [.int .i64 (IntKind.i64.wrap (20 + x1)), .int .i64 (IntKind.i64.wrap (20 + x2))] w7 fun w8 =>
  split_Split4_D30 R w8 g2 g1 mtu)
    (fun _ _ => False))) ∧
  (NewVC w5 (.cells (Hd4V.z : Hd4V).cells.toArray 86) fun g7 w29 =>
  S1 w29 ∧
  Calls Tryz.prog 33 #[.slice xA2 xn2 xc2] w29 (onRet (fun r_7 w30 => ∃ x10 : Int, r_7 = .int .i64 x10 ∧
  S1 w30 ∧
  Stores ⟨g7, 0, none⟩ 0 [.int .i64 (IntKind.i64.wrap (20 + x1)), .int .i64 (IntKind.i64.wrap (20 + x10))] w30 fun w31 =>
  split_Split4_D30 R w31 g7 g1 mtu)
    (fun _ _ => False))))
    (fun _ _ => False))) ∧
  (NewVC w4 (.cells (Hd4V.z : Hd4V).cells.toArray 86) fun g12 w52 =>
  S1 w52 ∧
  Calls Tryz.prog 34 #[.slice xA1 xn1 xc1, .bool true] w52 (onRet (fun r_11 w53 => ∃ (xA15 : Option Addr) (xn15 xc15 : Nat), r_11 = .slice xA15 xn15 xc15 ∧
  S1 w53 ∧
  Calls Tryz.prog 33 #[.slice xA15 xn15 xc15] w53 (onRet (fun r_12 w54 => ∃ x18 : Int, r_12 = .int .i64 x18 ∧
  S1 w54 ∧
  Stores ⟨g12, 0, none⟩ 0 [.int .i64 (IntKind.i64.wrap (20 + x1)), .int .i64 (IntKind.i64.wrap (20 + x18))] w54 fun w55 =>
  split_Split4_D30 R w55 g12 g1 mtu)
    (fun _ _ => False)))
    (fun _ _ => False))))
    (fun _ _ => False))) ∧
  (NewVC w3 (.cells (Hd4V.z : Hd4V).cells.toArray 86) fun g17 w76 =>
  S1 w76 ∧
  Calls Tryz.prog 33 #[.slice xA xn xc] w76 (onRet (fun r_16 w77 => ∃ x26 : Int, r_16 = .int .i64 x26 ∧
  S1 w77 ∧
  Calls Tryz.prog 34 #[.slice xA1 xn1 xc1, .bool true] w77 (onRet (fun r_17 w78 => ∃ (xA22 : Option Addr) (xn22 xc22 : Nat), r_17 = .slice xA22 xn22 xc22 ∧
  S1 w78 ∧
  Calls Tryz.prog 33 #[.slice xA22 xn22 xc22] w78 (onRet (fun r_18 w79 => ∃ x27 : Int, r_18 = .int .i64 x27 ∧
  S1 w79 ∧
  Stores ⟨g17, 0, none⟩ 0 [.int .i64 (IntKind.i64.wrap (20 + x26)), .int .i64 (IntKind.i64.wrap (20 + x27))] w79 fun w80 =>
  split_Split4_D30 R w80 g17 g1 mtu)
    (fun _ _ => False)))
    (fun _ _ => False)))
    (fun _ _ => False)))))))
    (fun ch w2 => R (.panicked ch) w2))
def split_Split4_H : Hints := [(2042, [(8, .slice), (53, .int .i64)]), (261427, [])]
set_option maxRecDepth 100000 in
theorem split_Split4_of (h : Ip4V) (mtu : Int) (w : World) (R : Ending → World → Prop) (hvc_ : split_Split4_VC h mtu w R) :
    Calls Tryz.prog 7 #[h.val, .int .i64 mtu] w R :=
  calls_of_wpc callOk mixedOk (H := split_Split4_H) (args := [h.val, .int .i64 mtu]) (fn := Tryz.f7) (c := bodyOf Tryz.f7) Tryz.func7 rfl (Nat.le_of_ble_eq_true rfl)
    (Eq.mp (by kernel_rfl : split_Split4_VC h mtu w R = wpc Tryz.prog callF Tryz.f7.ntmps split_Split4_H 1 (bodyOf Tryz.f7) (argEnv 0 [h.val, .int .i64 mtu]) [] w (finish Tryz.prog callF Tryz.f7.results.toList R)) hvc_)

set_option maxRecDepth 100000 in
def split_exts_L58 (R : Ending → World → Prop) (lA : Option Addr) (ln : Nat) (outA : Option Addr) (outn : Nat) (outc : Nat) (t8_ : Int) (w1 : World) (K58 : ((Option Addr × Nat × Nat) × Int → World → Prop)) : Prop :=
  Br (decide (t8_ < (ln : Int)))
    (IdxVC lA ln 3 t8_ fun a =>
  ExtV.ex fun h => CellsAt w1 a 0 h.cells ∧
  NewVC w1 (.cells (ExtV.z : ExtV).cells.toArray 81) fun g1 w2 =>
  Stores ⟨g1, 0, none⟩ 0 h.cells w2 fun w3 =>
  DrawVC w3 fun S1 w4 =>
  ∃ x : Int, (∀ w' : World, S1 w' → w'.cell? ⟨g1, 0, none⟩ = some (.int .i64 x)) ∧
  ∃ (xA : Option Addr) (xn xc : Nat), (∀ w' : World, S1 w' → w'.cell? ⟨g1, 1, none⟩ = some (.slice xA xn xc)) ∧
  ∃ (xA1 : Option Addr) (xn1 xc1 : Nat), (∀ w' : World, S1 w' → w'.cell? ⟨g1, 2, none⟩ = some (.slice xA1 xn1 xc1)) ∧
  Calls Tryz.prog 34 #[.slice xA xn xc, .bool false] w4 (onRet (fun r_ w5 => ∃ (xA2 : Option Addr) (xn2 xc2 : Nat), r_ = .slice xA2 xn2 xc2 ∧
  S1 w5 ∧
  Calls Tryz.prog 40 #[.slice xA1 xn1 xc1] w5 (onRet (fun r_1 w6 => ∃ (xA3 : Option Addr) (xn3 xc3 : Nat), r_1 = .slice xA3 xn3 xc3 ∧
  S1 w6 ∧
  NewVC w6 (.cells #[.int .i64 x, .slice xA2 xn2 xc2, .slice xA3 xn3 xc3] 81) fun g2 w7 =>
  S1 w7 ∧
  AppVC Tryz.prog #[29, 29] 29 (.slice outA outn outc) (.slice (some ⟨g2, 0, none⟩) 1 1) w7 fun lA1 ln1 lc1 w8 =>
  S1 w8 ∧
  K58 ((lA1, ln1, lc1), IntKind.i64.wrap (t8_ + 1)) w8)
    (fun _ _ => False)))
    (fun _ _ => False)))
    (R (.returned (.slice outA outn outc)) w1)
set_option maxRecDepth 100000 in
def split_exts_VC (lA : Option Addr) (ln : Nat) (_lc : Nat) (w : World) (R : Ending → World → Prop) : Prop :=
  LoopVC (S := (Option Addr × Nat × Nat) × Int) (fun s_ w1 K58 => split_exts_L58 R lA ln s_.1.1 s_.1.2.1 s_.1.2.2 s_.2 w1 K58) ((none, 0, 0), 0) w
def split_exts_H : Hints := [(58, [(3, .slice), (8, .int .i64)])]
set_option maxRecDepth 100000 in
theorem split_exts_of (lA : Option Addr) (ln : Nat) (lc : Nat) (w : World) (R : Ending → World → Prop) (hvc_ : split_exts_VC lA ln lc w R) :
    Calls Tryz.prog 39 #[.slice lA ln lc] w R :=
  calls_of_wpc callOk mixedOk (H := split_exts_H) (args := [.slice lA ln lc]) (fn := Tryz.f39) (c := bodyOf Tryz.f39) Tryz.func39 rfl (Nat.le_of_ble_eq_true rfl)
    (Eq.mp (by kernel_rfl : split_exts_VC lA ln lc w R = wpc Tryz.prog callF Tryz.f39.ntmps split_exts_H 1 (bodyOf Tryz.f39) (argEnv 0 [.slice lA ln lc]) [] w (finish Tryz.prog callF Tryz.f39.results.toList R)) hvc_)

set_option maxRecDepth 100000 in
def split_kept_L26 (R : Ending → World → Prop) (lA : Option Addr) (ln : Nat) (i : Int) (w1 : World) (K26 : (Int → World → Prop)) : Prop :=
  Br (decide ((0 : Int) ≤ i))
    (IdxVC lA ln 3 i fun a =>
  ∃ x : Int, w1.cell? a = some (.int .i64 x) ∧
  Br (decide (x = 43))
    (R (.returned (.int .i64 (IntKind.i64.wrap (i + 1)))) w1)
    (K26 (IntKind.i64.wrap (i - 1)) w1))
    (Br (decide ((0 : Int) < (ln : Int)))
    (IdxVC lA ln 3 0 fun a1 =>
    ∃ x1 : Int, w1.cell? a1 = some (.int .i64 x1) ∧
    Br (decide (x1 = 0))
    (R (.returned (.int .i64 1)) w1)
    (R (.returned (.int .i64 0)) w1))
    (R (.returned (.int .i64 0)) w1))
set_option maxRecDepth 100000 in
def split_kept_VC (lA : Option Addr) (ln : Nat) (_lc : Nat) (w : World) (R : Ending → World → Prop) : Prop :=
  LoopVC (S := Int) (fun s_ w1 K26 => split_kept_L26 R lA ln s_ w1 K26) (IntKind.i64.wrap ((ln : Int) - 1)) w
def split_kept_H : Hints := [(26, [(3, .int .i64)])]
set_option maxRecDepth 100000 in
theorem split_kept_of (lA : Option Addr) (ln : Nat) (lc : Nat) (w : World) (R : Ending → World → Prop) (hvc_ : split_kept_VC lA ln lc w R) :
    Calls Tryz.prog 41 #[.slice lA ln lc] w R :=
  calls_of_wpc callOk mixedOk (H := split_kept_H) (args := [.slice lA ln lc]) (fn := Tryz.f41) (c := bodyOf Tryz.f41) Tryz.func41 rfl (Nat.le_of_ble_eq_true rfl)
    (Eq.mp (by kernel_rfl : split_kept_VC lA ln lc w R = wpc Tryz.prog callF Tryz.f41.ntmps split_kept_H 1 (bodyOf Tryz.f41) (argEnv 0 [.slice lA ln lc]) [] w (finish Tryz.prog callF Tryz.f41.results.toList R)) hvc_)

set_option maxRecDepth 100000 in
def ip6_Check_VC (h : Ip6V) (w : World) (R : Ending → World → Prop) : Prop :=
  NewVC w (.cells h.cells.toArray 33) fun g1 w1 =>
  Ip6V.ex fun h1 => CellsAt w1 ⟨g1, 0, none⟩ 0 h1.cells ∧
  Calls Tryz.prog 76 #[h1.val] w1 (onRet (fun r_ w2 => ∃ (x0A : Option Addr) (x0n x0c : Nat), ∃ x1 : Int, r_ = .tuple #[.slice x0A x0n x0c, .int .i64 x1] ∧
  R (.returned (.int .i64 x1)) w2)
    (fun ch w2 => R (.panicked ch) w2))
def ip6_Check_H : Hints := []
set_option maxRecDepth 100000 in
theorem ip6_Check_of (h : Ip6V) (w : World) (R : Ending → World → Prop) (hvc_ : ip6_Check_VC h w R) :
    Calls Tryz.prog 37 #[h.val] w R :=
  calls_of_wpc callOk mixedOk (H := ip6_Check_H) (args := [h.val]) (fn := Tryz.f37) (c := bodyOf Tryz.f37) Tryz.func37 rfl (Nat.le_of_ble_eq_true rfl)
    (Eq.mp (by kernel_rfl : ip6_Check_VC h w R = wpc Tryz.prog callF Tryz.f37.ntmps ip6_Check_H 1 (bodyOf Tryz.f37) (argEnv 0 [h.val]) [] w (finish Tryz.prog callF Tryz.f37.results.toList R)) hvc_)

set_option maxRecDepth 100000 in
def ip6_Size_VC (h : Ip6V) (w : World) (R : Ending → World → Prop) : Prop :=
  NewVC w (.cells h.cells.toArray 33) fun g1 w1 =>
  Ip6V.ex fun h1 => CellsAt w1 ⟨g1, 0, none⟩ 0 h1.cells ∧
  Calls Tryz.prog 76 #[h1.val] w1 (onRet (fun r_ w2 => ∃ (x0A : Option Addr) (x0n x0c : Nat), ∃ x1 : Int, r_ = .tuple #[.slice x0A x0n x0c, .int .i64 x1] ∧
  R (.returned (.int .i64 (x0n : Int))) w2)
    (fun ch w2 => R (.panicked ch) w2))
def ip6_Size_H : Hints := []
set_option maxRecDepth 100000 in
theorem ip6_Size_of (h : Ip6V) (w : World) (R : Ending → World → Prop) (hvc_ : ip6_Size_VC h w R) :
    Calls Tryz.prog 38 #[h.val] w R :=
  calls_of_wpc callOk mixedOk (H := ip6_Size_H) (args := [h.val]) (fn := Tryz.f38) (c := bodyOf Tryz.f38) Tryz.func38 rfl (Nat.le_of_ble_eq_true rfl)
    (Eq.mp (by kernel_rfl : ip6_Size_VC h w R = wpc Tryz.prog callF Tryz.f38.ntmps ip6_Size_H 1 (bodyOf Tryz.f38) (argEnv 0 [h.val]) [] w (finish Tryz.prog callF Tryz.f38.results.toList R)) hvc_)

set_option maxRecDepth 100000 in
def ip6_PutChain_VC (lA : Option Addr) (ln : Nat) (lc : Nat) (next : Int) (w : World) (R : Ending → World → Prop) : Prop :=
  Br (decide (next < 0))
    (R (.returned (.tuple #[.slice none 0 0, .int .i64 1])) w)
    (Br (decide ((255 : Int) < next))
    (R (.returned (.tuple #[.slice none 0 0, .int .i64 1])) w)
    (Calls Tryz.prog 77 #[.slice lA ln lc, .int .i64 next, .bool true] w (onRet (fun r_ w1 => ∃ (x0A : Option Addr) (x0n x0c : Nat), ∃ x1 : Int, r_ = .tuple #[.slice x0A x0n x0c, .int .i64 x1] ∧
  Br (decide (x1 ≠ 0))
    (R (.returned (.tuple #[.slice none 0 0, .int .i64 x1])) w1)
    (Calls Tryz.prog 78 #[.int .i64 next] w1 (onRet (fun r_1 w2 => ∃ x : Int, r_1 = .int .i64 x ∧
    Br (decide (x ≠ 0))
      (R (.returned (.tuple #[.slice none 0 0, .int .i64 72])) w2)
      (R (.returned (.tuple #[.slice x0A x0n x0c, .int .i64 0])) w2))
      (fun ch1 w2 => R (.panicked ch1) w2))))
    (fun ch w1 => R (.panicked ch) w1))))
def ip6_PutChain_H : Hints := []
set_option maxRecDepth 100000 in
theorem ip6_PutChain_of (lA : Option Addr) (ln : Nat) (lc : Nat) (next : Int) (w : World) (R : Ending → World → Prop) (hvc_ : ip6_PutChain_VC lA ln lc next w R) :
    Calls Tryz.prog 42 #[.slice lA ln lc, .int .i64 next] w R :=
  calls_of_wpc callOk mixedOk (H := ip6_PutChain_H) (args := [.slice lA ln lc, .int .i64 next]) (fn := Tryz.f42) (c := bodyOf Tryz.f42) Tryz.func42 rfl (Nat.le_of_ble_eq_true rfl)
    (Eq.mp (by kernel_rfl : ip6_PutChain_VC lA ln lc next w R = wpc Tryz.prog callF Tryz.f42.ntmps ip6_PutChain_H 1 (bodyOf Tryz.f42) (argEnv 0 [.slice lA ln lc, .int .i64 next]) [] w (finish Tryz.prog callF Tryz.f42.results.toList R)) hvc_)

set_option maxRecDepth 100000 in
def split_Split6_L524282 (R : Ending → World → Prop) (id : Int) (g1 : Nat) (x3 : Int) (first : Int) (xA9 : Option Addr) (xn9 : Nat) (outA : Option Addr) (outn : Nat) (outc : Nat) (t99_ : Int) (w15 : World) (K524282 : ((Option Addr × Nat × Nat) × Int → World → Prop)) : Prop :=
  Br (decide (t99_ < (xn9 : Int)))
    (IdxVC xA9 xn9 3 t99_ fun a1 =>
  PieV.ex fun h4 => CellsAt w15 a1 0 h4.cells ∧
  NewVC w15 (.cells (PieV.z : PieV).cells.toArray 90) fun g3 w16 =>
  Stores ⟨g3, 0, none⟩ 0 h4.cells w16 fun w17 =>
  Ip6V.ex fun h5 => CellsAt w17 ⟨g1, 0, none⟩ 0 h5.cells ∧
  NewVC w17 (.cells (Ip6V.z : Ip6V).cells.toArray 33) fun g4 w18 =>
  Stores ⟨g4, 0, none⟩ 0 h5.cells w18 fun w19 =>
  DrawVC w19 fun S2 w20 =>
  ∃ (xA10 : Option Addr) (xn10 xc10 : Nat), (∀ w' : World, S2 w' → w'.cell? ⟨g1, 37, none⟩ = some (.slice xA10 xn10 xc10)) ∧
  SliceVC xA10 xn10 xc10 3 none (some x3) none fun sA1 sn1 sc1 =>
  ∃ (xA11 : Option Addr) (xn11 xc11 : Nat), (∀ w' : World, S2 w' → w'.cell? ⟨g3, 1, none⟩ = some (.slice xA11 xn11 xc11)) ∧
  Calls Tryz.prog 39 #[.slice sA1 sn1 sc1] w20 (onRet (fun r_7 w21 => ∃ (xA12 : Option Addr) (xn12 xc12 : Nat), r_7 = .slice xA12 xn12 xc12 ∧
  S2 w21 ∧
  SetVC w21 ⟨g4, 37, none⟩ (.slice xA12 xn12 xc12) fun w22 =>
  S2 w22 ∧
  SetVC w22 ⟨g4, 43, none⟩ (.slice xA11 xn11 xc11) fun w23 =>
  S2 w23 ∧
  SetVC w23 ⟨g4, 42, none⟩ (.int .i64 first) fun w24 =>
  ∃ x7 : Bool, w24.cell? ⟨g3, 2, none⟩ = some (.bool x7) ∧
  ∃ x8 : Int, w24.cell? ⟨g3, 0, none⟩ = some (.int .i64 x8) ∧
  Stores ⟨g4, 38, none⟩ 0 [.bool true, .bool (!x7), .int .i64 id, .int .i64 x8] w24 fun w25 =>
  Ip6V.ex fun h6 => CellsAt w25 ⟨g4, 0, none⟩ 0 h6.cells ∧
  NewVC w25 (.cells h6.cells.toArray 33) fun g5 w26 =>
  AppVC Tryz.prog #[37, 37] 37 (.slice outA outn outc) (.slice (some ⟨g5, 0, none⟩) 1 1) w26 fun lA1 ln1 lc1 w27 =>
  K524282 ((lA1, ln1, lc1), IntKind.i64.wrap (t99_ + 1)) w27)
    (fun _ _ => False)))
    (R (.returned (.tuple #[.slice outA outn outc, .int .i64 0])) w15)
set_option maxRecDepth 100000 in
def split_Split6_J1023 (R : Ending → World → Prop) (mtu : Int) (id : Int) (g1 : Nat) (x1 : Int) (x3 : Int) (first : Int) (w10 : World) : Prop :=
  DrawVC w10 fun S1 w11 =>
  ∃ (xA7 : Option Addr) (xn7 xc7 : Nat), (∀ w' : World, S1 w' → w'.cell? ⟨g1, 37, none⟩ = some (.slice xA7 xn7 xc7)) ∧
  SliceVC xA7 xn7 xc7 3 (some x3) none none fun sA sn sc =>
  ∃ x6 : Int, (∀ w' : World, S1 w' → w'.cell? ⟨g1, 42, none⟩ = some (.int .i64 x6)) ∧
  Calls Tryz.prog 42 #[.slice sA sn sc, .int .i64 x6] w11 (onRet (fun r_5 w12 => ∃ (x0A : Option Addr) (x0n x0c : Nat), ∃ x11 : Int, r_5 = .tuple #[.slice x0A x0n x0c, .int .i64 x11] ∧
  S1 w12 ∧
  ∃ (xA8 : Option Addr) (xn8 xc8 : Nat), w12.cell? ⟨g1, 43, none⟩ = some (.slice xA8 xn8 xc8) ∧
  AppVC Tryz.prog #[26, 26] 26 (.slice x0A x0n x0c) (.slice xA8 xn8 xc8) w12 fun lA ln lc w13 =>
  Br (decide (mtu < IntKind.i64.wrap (IntKind.i64.wrap (IntKind.i64.wrap (x1 - (ln : Int)) + 8) + 8)))
    (R (.returned (.tuple #[.slice none 0 0, .int .i64 133])) w13)
    (Calls Tryz.prog 36 #[.slice lA ln lc, .int .i64 mtu, .iface 96 (.int .i64 (IntKind.i64.wrap (IntKind.i64.wrap (x1 - (ln : Int)) + 8)))] w13 (onRet (fun r_6 w14 => ∃ (xA9 : Option Addr) (xn9 xc9 : Nat), r_6 = .slice xA9 xn9 xc9 ∧
  LoopVC (S := (Option Addr × Nat × Nat) × Int) (fun s_ w15 K524282 => split_Split6_L524282 R id g1 x3 first xA9 xn9 s_.1.1 s_.1.2.1 s_.1.2.2 s_.2 w15 K524282) ((none, 0, 0), 0) w14)
    (fun ch6 w14 => R (.panicked ch6) w14))))
    (fun _ _ => False))
set_option maxRecDepth 100000 in
def split_Split6_VC (h : Ip6V) (mtu : Int) (id : Int) (w : World) (R : Ending → World → Prop) : Prop :=
  NewVC w (.cells h.cells.toArray 33) fun g1 w1 =>
  Ip6V.ex fun h1 => CellsAt w1 ⟨g1, 0, none⟩ 0 h1.cells ∧
  Calls Tryz.prog 37 #[h1.val] w1 (onRet (fun r_ w2 => ∃ x : Int, r_ = .int .i64 x ∧
  Br (decide (x ≠ 0))
    (R (.returned (.tuple #[.slice none 0 0, .int .i64 x])) w2)
    (Br (decide (mtu < 1280))
    (R (.returned (.tuple #[.slice none 0 0, .int .i64 132])) w2)
    (Br (decide ((65535 : Int) < mtu))
    (R (.returned (.tuple #[.slice none 0 0, .int .i64 132])) w2)
    (Br (decide (id < 0))
    (R (.returned (.tuple #[.slice none 0 0, .int .i64 1])) w2)
    (Br (decide ((4294967296 : Int) ≤ id))
    (R (.returned (.tuple #[.slice none 0 0, .int .i64 1])) w2)
    (Ip6V.ex fun h2 => CellsAt w2 ⟨g1, 0, none⟩ 0 h2.cells ∧
  Calls Tryz.prog 38 #[h2.val] w2 (onRet (fun r_1 w3 => ∃ x1 : Int, r_1 = .int .i64 x1 ∧
  Br (decide (x1 ≤ mtu))
    (∃ (xA : Option Addr) (xn xc : Nat), w3.cell? ⟨g1, 37, none⟩ = some (.slice xA xn xc) ∧
    Calls Tryz.prog 39 #[.slice xA xn xc] w3 (onRet (fun r_2 w4 => ∃ (xA1 : Option Addr) (xn1 xc1 : Nat), r_2 = .slice xA1 xn1 xc1 ∧
    SetVC w4 ⟨g1, 37, none⟩ (.slice xA1 xn1 xc1) fun w5 =>
    ∃ (xA2 : Option Addr) (xn2 xc2 : Nat), w5.cell? ⟨g1, 43, none⟩ = some (.slice xA2 xn2 xc2) ∧
    Calls Tryz.prog 40 #[.slice xA2 xn2 xc2] w5 (onRet (fun r_3 w6 => ∃ (xA3 : Option Addr) (xn3 xc3 : Nat), r_3 = .slice xA3 xn3 xc3 ∧
    SetVC w6 ⟨g1, 43, none⟩ (.slice xA3 xn3 xc3) fun w7 =>
    Ip6V.ex fun h3 => CellsAt w7 ⟨g1, 0, none⟩ 0 h3.cells ∧
    NewVC w7 (.cells h3.cells.toArray 33) fun g2 w8 =>
    R (.returned (.tuple #[.slice (some ⟨g2, 0, none⟩) 1 1, .int .i64 0])) w8)
      (fun ch3 w6 => R (.panicked ch3) w6)))
      (fun ch2 w4 => R (.panicked ch2) w4)))
    (∃ x2 : Bool, w3.cell? ⟨g1, 38, none⟩ = some (.bool x2) ∧
  Br x2
    (R (.returned (.tuple #[.slice none 0 0, .int .i64 131])) w3)
    (∃ (xA4 : Option Addr) (xn4 xc4 : Nat), w3.cell? ⟨g1, 37, none⟩ = some (.slice xA4 xn4 xc4) ∧
  Calls Tryz.prog 41 #[.slice xA4 xn4 xc4] w3 (onRet (fun r_4 w9 => ∃ x3 : Int, r_4 = .int .i64 x3 ∧
  ∃ x4 : Int, w9.cell? ⟨g1, 42, none⟩ = some (.int .i64 x4) ∧
  JoinVC (S := Int) (fun J1023 =>
      ∃ (xA5 : Option Addr) (xn5 xc5 : Nat), w9.cell? ⟨g1, 37, none⟩ = some (.slice xA5 xn5 xc5) ∧
      Br (decide (x3 < (xn5 : Int)))
        (∃ (xA6 : Option Addr) (xn6 xc6 : Nat), w9.cell? ⟨g1, 37, none⟩ = some (.slice xA6 xn6 xc6) ∧
        IdxVC xA6 xn6 3 x3 fun a =>
        ∃ x5 : Int, w9.cell? a = some (.int .i64 x5) ∧
        J1023 x5 w9)
        (J1023 x4 w9))
    (fun s_ w10 => split_Split6_J1023 R mtu id g1 x1 x3 s_ w10))
    (fun ch4 w9 => R (.panicked ch4) w9)))))
    (fun ch1 w3 => R (.panicked ch1) w3))))))))
    (fun ch w2 => R (.panicked ch) w2))
def split_Split6_H : Hints := [(1023, [(11, .int .i64)]), (524282, [(15, .slice), (99, .int .i64)])]
set_option maxRecDepth 100000 in
theorem split_Split6_of (h : Ip6V) (mtu : Int) (id : Int) (w : World) (R : Ending → World → Prop) (hvc_ : split_Split6_VC h mtu id w R) :
    Calls Tryz.prog 8 #[h.val, .int .i64 mtu, .int .i64 id] w R :=
  calls_of_wpc callOk mixedOk (H := split_Split6_H) (args := [h.val, .int .i64 mtu, .int .i64 id]) (fn := Tryz.f8) (c := bodyOf Tryz.f8) Tryz.func8 rfl (Nat.le_of_ble_eq_true rfl)
    (Eq.mp (by kernel_rfl : split_Split6_VC h mtu id w R = wpc Tryz.prog callF Tryz.f8.ntmps split_Split6_H 1 (bodyOf Tryz.f8) (argEnv 0 [h.val, .int .i64 mtu, .int .i64 id]) [] w (finish Tryz.prog callF Tryz.f8.results.toList R)) hvc_)

end N6
end Go.Proofs.YteppichfkeknbaaGreatDoor
