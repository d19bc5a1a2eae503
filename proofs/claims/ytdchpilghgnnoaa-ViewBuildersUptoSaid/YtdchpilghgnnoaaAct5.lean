/- One call of a builder, and of its twin: the whole. -/
import Derived.Test.YtdchpilghgnnoaaAct4
namespace Go.Proofs.Ytdchpilghgnnoaa
open Go.Eng Go.RowKit

section
variable {w : World} {base gb gr c d n : Nat} {A B : Option Addr} {xs : List Int} {max : Int}
/-- What a call leaves. -/
def Acted (w : World) (base gb gr : Nat) (A : Option Addr) (c : Nat) (B : Option Addr) (d n : Nat) (max : Int) (e : Ending) (w' : World) : Prop :=
  e = .returned (.bool true) ∧ Mod (PF gb gr A c B d n) w w' ∧ ∃ A' c' B' d' n' xs', BP w' base gb gr A' c' B' d' n' xs' max ∧ ∀ k, PF gb gr A' c' B' d' n' k → PF gb gr A c B d n k ∨ w.heap.size ≤ k
theorem Acted.same {w' : World} (T : BP w base gb gr A c B d n xs max) (hE : Ext w w') : Acted w base gb gr A c B d n max (.returned (.bool true)) w' :=
  ⟨rfl, hE.to _, A, c, B, d, n, xs, T.ext hE, fun _ hk => .inl hk⟩
theorem Acted.after {w1 w' : World} {e : Ending} (hE : Ext w w1) (h : Acted w1 base gb gr A c B d n max e w') : Acted w base gb gr A c B d n max e w' := by
  obtain ⟨h1, h2, A', c', B', d', n', xs', h3, h4⟩ := h
  refine ⟨h1, (hE.to _).trans h2, A', c', B', d', n', xs', h3, fun k hk => ?_⟩
  have := hE.size
  rcases h4 k hk with e | e
  · exact .inl e
  · exact .inr (by omega)
theorem BP.rAfter {w1 : World} (T : BP w base gb gr A c B d n xs max) (hm : Mod (BF gb A c n) w w1) : RBd w1 base gr B d n xs max :=
  T.r.mod hm fun k hk hk' => T.dis k hk' hk

theorem acted_done (T : BP w base gb gr A c B d n xs max) {R : Ending → World → Prop} (hR : ∀ e w', Acted w base gb gr A c B d n max e w' → R e w') :
    Calls Try.prog 25 #[.pointer (some ⟨gb, 0, none⟩)] w (onRet (fun r_15 w24 => ∃ (xA8 : Option Addr) (xn8 xc8 : Nat), r_15 = .slice xA8 xn8 xc8 ∧
            NilVC (some ⟨gr, 0, none⟩) fun p1 =>
            ∃ (xA9 : Option Addr) (xn9 xc9 : Nat), w24.cell? (p1.add 1) = some (.slice xA9 xn9 xc9) ∧
            Calls Try.prog 22 #[.slice xA8 xn8 xc8, .slice xA9 xn9 xc9] w24 (onRet (fun r_16 w25 => ∃ x24 : Bool, r_16 = .bool x24 ∧
            LoopVC (S := Int) (fun s w26 K884698 => weirlaw1_acted_L884698 R xA8 xn8 xc8 x24 s w26 K884698) 0 w25)
              (fun ch16 w25 => R (.panicked ch16) w25)))
              (fun ch15 w24 => R (.panicked ch15) w24)) := by
  refine (bdDone_spec T.b).mono ?_
  rintro _ w1 ⟨hE1, g, hg, rfl, hb⟩
  have T1 := T.ext hE1
  have hlen := T.b.len
  have h1 := T.b.m1
  have h0 := T.b.m0
  refine ⟨_, _, _, rfl, _, rfl, _, _, _, T1.r.cur.cell 1, ?_⟩
  have hc : Cells w1 (some ⟨g, 0, none⟩) (xs.map (.int .u8)) := by simpa using Cells.of_blk hb 0
  refine (same_spec hc (own_cells T1.r.own) hlen hlen T.b.bts T.b.bts).mono ?_
  rintro _ w2 ⟨rfl, rfl⟩
  refine ⟨_, rfl, ?_⟩
  rw [decide_eq_true rfl]
  refine LoopVC.of (fun s w' => ∃ (i : Nat) (L : List Int), s = (i : Int) ∧ i ≤ n ∧ Ext w w' ∧ L.length = n ∧ Blk w' g 5 (L.map (.int .u8))) (fun s _ => ((n : Int) - s).toNat) ⟨0, xs, rfl, by omega, hE1, hlen, hb⟩ ?_
  rintro _ w3 ⟨i, L, rfl, hi, hE3, hL, hb3⟩
  show weirlaw1_acted_L884698 _ (some ⟨g, 0, none⟩) n n true (i : Int) w3 _
  unfold weirlaw1_acted_L884698
  refine Br.dec (fun hlt => ?_) (fun hge => ?_)
  · refine IdxVC.blk (by omega) hlt ?_
    rw [Int.toNat_natCast]
    refine SetVC.blk hb3 (by simp; omega) fun w4 hz4 hm4 hb4 => ?_
    rw [map_set] at hb4
    rw [w64 (n := (i : Int) + 1) (by omega) (by omega)]
    exact ⟨⟨i + 1, _, by omega, by omega, Ext.set hE3 hm4 hg, by simpa using hL, hb4⟩, by omega⟩
  · refine NewVC.blk fun g4 w5 hg4 hz5 hE5 hb5 => ?_
    have hc5 : Cells w5 (some ⟨g, 0, none⟩) (L.map (.int .u8)) := by simpa using Cells.of_blk (hb3.ext hE5) 0
    refine AppVC.full Try.underlying22 tyByte rfl hc5 (by simpa using hL) hb5 rfl (by decide) (by simp [Value.oneCell']) (by omega) (by decide) fun A6 c6 w6 hown6 hE6 => ?_
    refine Br.t rfl ?_
    have hE06 : Ext w w6 := (hE3.ext hE5).ext hE6
    rw [decide_eq_true (by rw [w64 (by omega) (by omega)]; omega)]
    exact hR _ _ (Acted.same T hE06)
end
end Go.Proofs.Ytdchpilghgnnoaa
