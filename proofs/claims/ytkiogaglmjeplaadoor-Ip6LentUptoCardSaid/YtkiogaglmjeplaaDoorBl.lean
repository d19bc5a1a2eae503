/- Rows that a call makes: bytes, options, extension headers, datagrams, all in memory of its own. -/
import Derived.Test.YtkiogaglmjeplaaDoorBe
import Derived.Test.YtkiogaglmjeplaaDoorBi
import Derived.Test.YtkiogaglmjeplaaDoorProg
import Derived.Test.YtkiogaglmjeplaaDoorBq
import Derived.Test.YtkiogaglmjeplaaDoorBk
namespace Go.Proofs.YtkiogaglmjeplaaDoor
namespace N6
open Go Go.Eng Go.RowKit
abbrev rowB (b : Nat) (s : Sl) (l : List Int) : Fct := ownB b s.val s.n l
abbrev rowO (b : Nat) (s : Sl) (rs : List OptR) : Fct := Fct.own b 65 2 s.val s.n (rs.map fun r => r.v.cells).flatten
abbrev rowE (b : Nat) (s : Sl) (rs : List ExtR) : Fct := Fct.own b 54 3 s.val s.n (rs.map fun r => r.v.cells).flatten
def optFs (b : Nat) (s : Sl) (rs : List OptR) : List Fct := rowO b s rs :: rs.map fun r => rowB b r.v.data r.data
def extF (b : Nat) (r : ExtR) : List Fct := optFs b r.v.opts r.opts ++ [rowB b r.v.data r.data]
def extFs (b : Nat) (s : Sl) (rs : List ExtR) : List Fct := rowE b s rs :: rs.flatMap (extF b)
def BFine (s : Sl) (l : List Int) : Prop := s.n ≤ 4000000 ∧ Bts l
structure OptsFine (s : Sl) (rs : List OptR) : Prop where
  len : rs.length = s.n
  small : s.n ≤ 4000000
  each : ∀ r ∈ rs, BFine r.v.data r.data
structure ExtsFine (s : Sl) (rs : List ExtR) : Prop where
  len : rs.length = s.n
  small : s.n ≤ 4000000
  opts : ∀ r ∈ rs, OptsFine r.v.opts r.opts
  data : ∀ r ∈ rs, BFine r.v.data r.data
section
theorem own_le {w : World} {b e size n : Nat} {s : Sl} {xs : List Value} (h : w.ownsRow b e size s.val n xs) : n ≤ s.k := by
  obtain ⟨A, c, hv, hc, _⟩ := own_form h
  have hv : Value.slice s.A s.n s.k = .slice A n c := hv
  injection hv with _ _ h3
  omega
variable {w : World} {b : Nat} {s : Sl}
theorem bytesAt_of {l : List Int} (h : (rowB b s l).φ w) (hf : BFine s l) : BytesAt w s l :=
  ⟨by have := h.1; simpa using this, own_le h, hf.1, hf.2, own_cells (A := s.A) (c := s.k) h⟩
theorem optsAt_of {rs : List OptR} (h : ∀ f ∈ optFs b s rs, f.φ w) (hf : OptsFine s rs) : OptsAt w s rs := by
  have h0 := h (rowO b s rs) (by simp [optFs])
  refine ⟨hf.len, own_le h0, hf.small, Recs.of_cells (by decide) (fun r hr => ?_) (own_cells (A := s.A) (c := s.k) h0), fun r hr => bytesAt_of (b := b) (h _ ?_) (hf.each r hr)⟩
  · obtain ⟨x, _, rfl⟩ := List.mem_map.1 hr; rfl
  · exact List.mem_cons_of_mem _ (List.mem_map_of_mem (f := fun r => rowB b r.v.data r.data) hr)
theorem extsAt_of {rs : List ExtR} (h : ∀ f ∈ extFs b s rs, f.φ w) (hf : ExtsFine s rs) : ExtsAt w s rs := by
  have h0 := h (rowE b s rs) (by simp [extFs])
  have h1 : ∀ r ∈ rs, ∀ f ∈ extF b r, f.φ w := fun r hr f hf => h f (List.mem_cons_of_mem _ (List.mem_flatMap.2 ⟨r, hr, hf⟩))
  refine ⟨hf.len, own_le h0, hf.small, Recs.of_cells (by decide) (fun r hr => ?_) (own_cells (A := s.A) (c := s.k) h0), fun r hr => optsAt_of (b := b) (fun f hf => h1 r hr f (List.mem_append_left _ hf)) (hf.opts r hr),
    fun r hr => bytesAt_of (b := b) (h1 r hr _ (by simp [extF])) (hf.data r hr)⟩
  obtain ⟨x, _, rfl⟩ := List.mem_map.1 hr; rfl
theorem optFs_less {b' : Nat} {rs : List OptR} (h : b' ≤ b) : AllLe (optFs b s rs) (optFs b' s rs) :=
  .cons (own_less h).1 (own_less h).2 (AllLe.map rs fun _ _ => own_less h)
theorem extF_less {b' : Nat} {r : ExtR} (h : b' ≤ b) : AllLe (extF b r) (extF b' r) := (optFs_less h).append (.cons (own_less h).1 (own_less h).2 .nil)
theorem extFs_less {b' : Nat} {rs : List ExtR} (h : b' ≤ b) : AllLe (extFs b s rs) (extFs b' s rs) :=
  .cons (own_less h).1 (own_less h).2 (AllLe.flatMap rs fun _ _ => extF_less h)
end
end N6
end Go.Proofs.YtkiogaglmjeplaaDoor
/- A list of options that lies in old memory, or in a row of new memory, and stays. -/
namespace Go.Eng
open Go Go.RowKit
structure OptsOld (w0 : World) (s : Sl) (rs : List OptR) : Prop where
  len : rs.length = s.n
  cap : s.n ≤ s.k
  small : s.n ≤ 4000000
  each : ∀ r ∈ rs, BytesAt w0 r.v.data r.data
theorem OptsAt.old {w : World} {s : Sl} {rs : List OptR} (h : OptsAt w s rs) : OptsOld w s rs := ⟨h.len, h.cap, h.small, h.each⟩
def footS (A : Option Addr) (k : Nat) : Prop := ∃ a, A = some a ∧ a.block = k
theorem Recs.mod {w w' : World} {M : Nat → Prop} {A : Option Addr} {size : Nat} {rs : List (List Value)} (h : Recs w A size rs) (hm : Mod M w w') (hn : rs ≠ [] → ∀ a, A = some a → ¬ M a.block) : Recs w' A size rs := by
  have cm : ∀ {cs : List Value} {a : Addr} {i : Nat}, CellsAt w a i cs → ¬ M a.block → CellsAt w' a i cs := by
    intro cs
    induction cs with
    | nil => intro _ _ _ _; trivial
    | cons v r ih => intro a i hc hna; exact ⟨hm.cell hc.1 (by rw [add_block]; exact hna), ih hc.2 hna⟩
  intro i cs hi
  obtain ⟨a, ha, hc⟩ := h i cs hi
  exact ⟨a, ha, cm hc (by rw [add_block]; exact hn (fun e => by rw [e] at hi; simp at hi) a ha)⟩
/-- Records that lay there at w0, or lie in newer memory. -/
def Fct.recs (w0 : World) (A : Option Addr) (size : Nat) (rs : List (List Value)) : Fct :=
  ⟨fun k => rs ≠ [] ∧ w0.heap.size ≤ k ∧ footS A k, fun w => Recs w0 A size rs ∨ (rs ≠ [] → ∀ a, A = some a → w0.heap.size ≤ a.block) ∧ Recs w A size rs, fun M w w' h _ hm hn => by
    rcases h with h | ⟨h1, h2⟩
    · exact .inl h
    · exact .inr ⟨h1, h2.mod hm fun hne a ha => hn _ ⟨hne, h1 hne a ha, a, ha, rfl⟩⟩⟩
section
variable {w0 w : World} {Γ : List Fct} {A : Option Addr} {size : Nat} {rs : List (List Value)}
theorem Sep.recs (H : Sep Γ w) (hE : Ext w0 w) (i : Nat) (hi : Γ[i]? = some (Fct.recs w0 A size rs)) : Recs w A size rs := by
  rcases H.yes i _ hi with h | ⟨_, h⟩
  · exact h.ext hE
  · exact h
theorem Recs.lt {w : World} (h : Recs w A size rs) (h1 : ∀ r ∈ rs, r ≠ []) {r : List Value} (hr : r ∈ rs) {a : Addr} (ha : A = some a) : a.block < w.heap.size := by
  obtain ⟨i, hi⟩ := List.mem_iff_getElem?.1 hr
  obtain ⟨b, hb, hc⟩ := h i r hi
  rw [ha] at hb; cases hb
  cases r with
  | nil => exact absurd rfl (h1 [] hr)
  | cons v r =>
    have := World.block_lt_of_cell? w _ hc.1
    rwa [add_block, add_block] at this
end
end Go.Eng
/- How long the lists of a datagram may be. -/
namespace Go.Eng
open Go Go.RowKit
def SmallE (b : Nat) (r : ExtR) : Prop := r.v.data.n ≤ b ∧ r.v.opts.n ≤ b ∧ ∀ o ∈ r.opts, o.v.data.n ≤ b
def Small6 (b : Nat) (h : Ip6V) (es : List ExtR) : Prop := h.data.n ≤ b ∧ h.exts.n ≤ b ∧ ∀ r ∈ es, SmallE b r
end Go.Eng
/- WRITTEN BY a program of this session (vc.py): for each Go function the condition that is enough for its contract, and the theorem that it is. -/
namespace Go.Proofs.YtkiogaglmjeplaaDoor
open Go.Eng
namespace N6

set_option maxRecDepth 100000 in
def ip6_PutChain_VC (lA : Option Addr) (ln : Nat) (lc : Nat) (next : Int) (w : World) (R : Ending → World → Prop) : Prop :=
  Br (decide (next < 0))
    (R (.returned (.tuple #[.slice none 0 0, .int .i64 1])) w)
    (Br (decide ((255 : Int) < next))
    (R (.returned (.tuple #[.slice none 0 0, .int .i64 1])) w)
    (Calls Tryd.prog 53 #[.slice lA ln lc, .int .i64 next, .bool true] w (onRet (fun r_ w1 => ∃ (x0A : Option Addr) (x0n x0c : Nat), ∃ x1 : Int, r_ = .tuple #[.slice x0A x0n x0c, .int .i64 x1] ∧
  Br (decide (x1 ≠ 0))
    (R (.returned (.tuple #[.slice none 0 0, .int .i64 x1])) w1)
    (Calls Tryd.prog 54 #[.int .i64 next] w1 (onRet (fun r_1 w2 => ∃ x : Int, r_1 = .int .i64 x ∧
    Br (decide (x ≠ 0))
      (R (.returned (.tuple #[.slice none 0 0, .int .i64 72])) w2)
      (R (.returned (.tuple #[.slice x0A x0n x0c, .int .i64 0])) w2))
      (fun ch1 w2 => R (.panicked ch1) w2))))
    (fun ch w1 => R (.panicked ch) w1))))
def ip6_PutChain_H : Hints := []
set_option maxRecDepth 100000 in
theorem ip6_PutChain_of (lA : Option Addr) (ln : Nat) (lc : Nat) (next : Int) (w : World) (R : Ending → World → Prop) (hvc_ : ip6_PutChain_VC lA ln lc next w R) :
    Calls Tryd.prog 25 #[.slice lA ln lc, .int .i64 next] w R :=
  calls_of_wpc callOk mixedOk (H := ip6_PutChain_H) (args := [.slice lA ln lc, .int .i64 next]) (fn := Tryd.f25) (c := bodyOf Tryd.f25) Tryd.func25 rfl (Nat.le_of_ble_eq_true rfl)
    (Eq.mp (by kernel_rfl : ip6_PutChain_VC lA ln lc next w R = wpc Tryd.prog callF Tryd.f25.ntmps ip6_PutChain_H 1 (bodyOf Tryd.f25) (argEnv 0 [.slice lA ln lc, .int .i64 next]) [] w (finish Tryd.prog callF Tryd.f25.results.toList R)) hvc_)
end N6
end Go.Proofs.YtkiogaglmjeplaaDoor
