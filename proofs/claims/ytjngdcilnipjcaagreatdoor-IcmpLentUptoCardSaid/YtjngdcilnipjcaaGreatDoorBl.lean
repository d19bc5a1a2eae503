/- Rows that a call makes: bytes, options, extension headers, datagrams, all in memory of its own. -/
import Derived.Test.YtjngdcilnipjcaaGreatDoorBe
import Derived.Test.YtjngdcilnipjcaaGreatDoorBi
namespace Go.Proofs.YtjngdcilnipjcaaGreatDoor
namespace N6
open Go Go.Eng Go.RowKit
section
variable {w : World} {b : Nat} {s : Sl}
end
end N6
end Go.Proofs.YtjngdcilnipjcaaGreatDoor
/- A list of options that lies in old memory, or in a row of new memory, and stays. -/
namespace Go.Eng
open Go Go.RowKit
structure OptsOld (w0 : World) (s : Sl) (rs : List OptR) : Prop where
 len : rs.length = s.n
 cap : s.n ≤ s.k
 small : s.n ≤ 4000000
 each : ∀ r ∈ rs, BytesAt w0 r.v.data r.data
theorem OptsAt.old {w : World} {s : Sl} {rs : List OptR} (h : OptsAt w s rs) : OptsOld w s rs := ⟨h.len, h.cap, h.small, h.each⟩
def footS (A : Option Addr) (k : Nat) : Prop := ∃ a, A = some a ∧ a.block = k
theorem Recs.mod {w w' : World} {M : Nat → Prop} {A : Option Addr} {size : Nat} {rs : List (List Value)} (h : Recs w A size rs) (hm : Mod M w w') (hn : rs ≠ [] → ∀ a, A = some a → ¬ M a.block) : Recs w' A size rs := by
 have cm : ∀ {cs : List Value} {a : Addr} {i : Nat}, CellsAt w a i cs → ¬ M a.block → CellsAt w' a i cs := by
  intro cs
  induction cs with
  | nil => intro _ _ _ _; trivial
  | cons v r ih => intro a i hc hna; exact ⟨hm.cell hc.1 (by rw [add_block]; exact hna), ih hc.2 hna⟩
 intro i cs hi
 obtain ⟨a, ha, hc⟩ := h i cs hi
 exact ⟨a, ha, cm hc (by rw [add_block]; exact hn (fun e => by rw [e] at hi; simp at hi) a ha)⟩
def Fct.recs (w0 : World) (A : Option Addr) (size : Nat) (rs : List (List Value)) : Fct :=
 ⟨fun k => rs ≠ [] ∧ w0.heap.size ≤ k ∧ footS A k, fun w => Recs w0 A size rs ∨ (rs ≠ [] → ∀ a, A = some a → w0.heap.size ≤ a.block) ∧ Recs w A size rs, fun M w w' h _ hm hn => by
  rcases h with h | ⟨h1, h2⟩
  ·exact .inl h
  ·exact .inr ⟨h1, h2.mod hm fun hne a ha => hn _ ⟨hne, h1 hne a ha, a, ha, rfl⟩⟩⟩
section
variable {w0 w : World} {Γ : List Fct} {A : Option Addr} {size : Nat} {rs : List (List Value)}
theorem Sep.recs (H : Sep Γ w) (hE : Ext w0 w) (i : Nat) (hi : Γ[i]? = some (Fct.recs w0 A size rs)) : Recs w A size rs := by
 rcases H.yes i _ hi with h | ⟨_, h⟩
 ·exact h.ext hE
 ·exact h
theorem Recs.lt {w : World} (h : Recs w A size rs) (h1 : ∀ r ∈ rs, r ≠ []) {r : List Value} (hr : r ∈ rs) {a : Addr} (ha : A = some a) : a.block < w.heap.size := by
 obtain ⟨i, hi⟩ := List.mem_iff_getElem?.1 hr
 obtain ⟨b, hb, hc⟩ := h i r hi
 rw [ha] at hb; cases hb
 cases r with
 | nil => exact absurd rfl (h1 [] hr)
 | cons v r =>
  have := World.block_lt_of_cell? w _ hc.1
  rwa [add_block, add_block] at this
end
end Go.Eng
/- How long the lists of a datagram may be. -/
namespace Go.Eng
open Go Go.RowKit
def Small4 (b : Nat) (h : Ip4V) (os : List OptR) : Prop := h.data.n ≤ b ∧ h.opts.n ≤ b ∧ ∀ r ∈ os, r.v.data.n ≤ b
def SmallE (b : Nat) (r : ExtR) : Prop := r.v.data.n ≤ b ∧ r.v.opts.n ≤ b ∧ ∀ o ∈ r.opts, o.v.data.n ≤ b
def Small6 (b : Nat) (h : Ip6V) (es : List ExtR) : Prop := h.data.n ≤ b ∧ h.exts.n ≤ b ∧ ∀ r ∈ es, SmallE b r
end Go.Eng
