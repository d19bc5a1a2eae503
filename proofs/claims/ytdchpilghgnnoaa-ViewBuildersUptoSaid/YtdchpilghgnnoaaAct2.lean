/- One call of a builder, and of its twin. -/
import Derived.Test.YtdchpilghgnnoaaAct
namespace Go.Proofs.Ytdchpilghgnnoaa
open Go.Eng Go.RowKit

/-- A builder and its twin. -/
structure BP (w : World) (base gb gr : Nat) (A : Option Addr) (c : Nat) (B : Option Addr) (d n : Nat) (xs : List Int) (max : Int) : Prop where
  b : Bd w base gb A c n xs max
  r : RBd w base gr B d n xs max
  dis : ∀ k, BF gb A c n k → ¬ BF gr B d n k
def PF (gb gr : Nat) (A : Option Addr) (c : Nat) (B : Option Addr) (d n : Nat) (k : Nat) : Prop := BF gb A c n k ∨ BF gr B d n k
section
variable {w w' : World} {base gb gr c d n : Nat} {A B : Option Addr} {xs : List Int} {max : Int}
theorem BP.mod {M : Nat → Prop} (h : BP w base gb gr A c B d n xs max) (hm : Mod M w w') (hn : ∀ k, PF gb gr A c B d n k → ¬ M k) : BP w' base gb gr A c B d n xs max :=
  ⟨h.b.mod hm fun k hk => hn k (.inl hk), h.r.mod hm fun k hk => hn k (.inr hk), h.dis⟩
theorem BP.ext (h : BP w base gb gr A c B d n xs max) (hE : Ext w w') : BP w' base gb gr A c B d n xs max := h.mod hE fun _ _ => id
theorem BP.lt (h : BP w base gb gr A c B d n xs max) : ∀ k, PF gb gr A c B d n k → k < w.heap.size := by
  rintro k (hk | hk)
  · exact h.b.lt k hk
  · exact h.r.lt k hk
/-- Both have turned, each in its own blocks or in new ones. -/
theorem BP.both {w1 w2 : World} {A' B' : Option Addr} {c' d' n' : Nat} {xs' : List Int} (h : BP w base gb gr A c B d n xs max) (hm1 : Mod (BF gb A c n) w w1) (hn1 : Near w A c n A' c' n') (hb : Bd w1 base gb A' c' n' xs' max)
    (hm2 : Mod (BF gr B d n) w1 w2) (hn2 : Near w1 B d n B' d' n') (hr : RBd w2 base gr B' d' n' xs' max) :
    Mod (PF gb gr A c B d n) w w2 ∧ BP w2 base gb gr A' c' B' d' n' xs' max ∧ ∀ k, PF gb gr A' c' B' d' n' k → PF gb gr A c B d n k ∨ w.heap.size ≤ k := by
  have s1 := hm1.size
  have hb' : ∀ k, BF gb A' c' n' k → BF gb A c n k ∨ (w.heap.size ≤ k ∧ k < w1.heap.size) := by
    rintro k (rfl | hk)
    · exact .inl (.inl rfl)
    · rcases hn1 k hk with e | e
      · exact .inl (.inr e)
      · exact .inr ⟨e, (hb.own.lt k hk.symm).2⟩
  have hr' : ∀ k, BF gr B' d' n' k → BF gr B d n k ∨ w1.heap.size ≤ k := by
    rintro k (rfl | hk)
    · exact .inl (.inl rfl)
    · rcases hn2 k hk with e | e
      · exact .inl (.inr e)
      · exact .inr e
  have hb1 : ∀ k, BF gb A' c' n' k → ¬ BF gr B d n k := fun k hk hk2 => by
    rcases hb' k hk with e | e
    · exact h.dis k e hk2
    · have := h.r.lt k hk2; omega
  refine ⟨(hm1.mono fun k _ e => .inl e).trans (hm2.mono fun k _ e => .inr e), ⟨hb.mod hm2 hb1, hr, fun k hk hk2 => ?_⟩, ?_⟩
  · rcases hr' k hk2 with e | e
    · exact hb1 k hk e
    · rcases hb' k hk with e' | e'
      · have := h.b.lt k e'; omega
      · omega
  · rintro k (hk | hk)
    · rcases hb' k hk with e | e
      · exact .inl (.inl e)
      · exact .inr e.1
    · rcases hr' k hk with e | e
      · exact .inl (.inr e)
      · exact .inr (by omega)
end
end Go.Proofs.Ytdchpilghgnnoaa
