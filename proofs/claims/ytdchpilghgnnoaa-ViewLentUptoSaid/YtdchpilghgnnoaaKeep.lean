/- append onto a row of the call's own, and the row itself is the call's still. -/
import Derived.Test.YtdchpilghgnnoaaFil3
namespace Go.Eng
open Go Go.RowKit
section
variable {P : Program} {base e n c : Nat} {xs : List Value}
theorem own_setCells {g : Nat} : ∀ (vs : List Value) (o : Nat) (w : World), w.ownsRow base e 1 (.slice (some ⟨g, 0, none⟩) n c) n xs → n ≤ o → o + vs.length ≤ c →
    (w.setCells g o vs).ownsRow base e 1 (.slice (some ⟨g, 0, none⟩) n c) n xs ∧ Mod (fun k => k = g) w (w.setCells g o vs) ∧ (w.setCells g o vs).heap.size = w.heap.size
  | [], o, w, h, _, _ => ⟨h, Mod.refl _ _, rfl⟩
  | v :: r, o, w, h, ho, hc => by
    simp only [List.length_cons] at hc
    have h2 : (w.setCell ⟨g, o, none⟩ v).ownsRow base e 1 (.slice (some ⟨g, 0, none⟩) n c) n xs := by
      refine ⟨h.1, ?_⟩
      rcases h.2 with ⟨hv, _⟩ | ⟨g', cap, cur, hv, hb, hg, hnc, hm, hs, ht⟩
      · cases hv
      · injection hv with hA _ hcap
        injection hA with hA
        injection hA with hA
        subst hA; subst hcap
        refine .inr ⟨g, c, cur.set! o v, rfl, hb, ?_, hnc, hm, by simpa using hs, ?_⟩
        · simp [World.setCell, Array.getElem?_modify, hg]
        · rw [← ht]
          simp [List.take_set, List.set_eq_of_length_le, show min n cur.size ≤ o by omega]
    obtain ⟨h3, hm, hz⟩ := own_setCells r (o + 1) (w.setCell ⟨g, o, none⟩ v) h2 (by omega) (by omega)
    refine ⟨h3, (Mod.setCell w ⟨g, o, none⟩ v).trans hm, ?_⟩
    show ((w.setCell ⟨g, o, none⟩ v).setCells g (o + 1) r).heap.size = _
    rw [hz]; simp
theorem AppVC.keep {w : World} {t ty : TypeId} {z : Value} {bytes : Nat} (ht : P.underlying t = some (.slice e)) (hi : TypeIs P e z 1 bytes) (hzs : z.cells.size = 1)
    {A A' : Option Addr} {m c' : Nat} {news : List Value} {F : Option Addr → Nat → Nat → World → Prop}
    (hown : w.ownsRow base e 1 (.slice A n c) n xs) (hsrc : Cells w A' news) (hl : news.length = m) (h0 : 0 < m) (h1 : ∀ u ∈ news, u.oneCell' = true)
    (hbytes : (n + m) * bytes ≤ 140737488355328) (hb0 : 0 < bytes)
    (h : ∀ A2 c2 w', w'.ownsRow base e 1 (.slice A n c) n xs → Mod (fun k => some k = (Value.slice A n c).ownBlock) w w' → F A2 (n + m) c2 w') :
    AppVC P #[t, t] ty (.slice A n c) (.slice A' m c') w F := by
  have hi' := hi
  obtain ⟨i, hi, hz, hs, hy⟩ := hi
  obtain ⟨a', ha', _⟩ := hsrc.at (i := 0) (by omega)
  subst ha'
  have hsrc' : ∀ j u, news[j]? = some u → w.cell? (a'.add j) = some u := fun j u hu => by
    obtain ⟨b', ha, hc⟩ := hsrc j u hu; cases ha; exact hc
  have h63 : n + m ≤ maxLen := by
    have : (n + m) * 1 ≤ (n + m) * bytes := Nat.mul_le_mul_left _ hb0
    simp only [maxLen]; omega
  rcases hown.2 with ⟨hv, hn0⟩ | ⟨g, cap, cur, hv, hb, hg, hnc, hm, hsz, htk⟩
  · injection hv with hA _ hc
    subst hA; subst hc; subst hn0
    refine AppVC.own ht hi hz hs hy hzs (by decide) (base := w.heap.size) (World.ownsRow_nil _ _ _ _) hsrc (by omega) h1 hbytes hb0 (Nat.le_refl _) fun A2 c2 w2 _ hm2 _ => ?_
    exact h A2 c2 w2 (own_mod hown hm2 fun k hk => by simp [Value.ownBlock] at hk) hm2
  · injection hv with hA _ hcap
    subst hA; subst hcap
    by_cases hroom : n + m ≤ c
    · have hcell : ∀ j, j < news.length → (w.cell? ⟨g, 0 + n * i.size + j, none⟩).isSome = true := fun j hj => by
        rw [cell_of_row w g _ cur e (0, 0) hg, hs]
        have : n + j < cur.size := by omega
        simp [this]
      have hr := run_append_room_cells (P := P) w t ty e i ht hi g 0 n c a' m c' news (by rw [hs]; omega) hsrc' h1 hroom hcell (fun j hj => frozen_of_row w g _ cur e hg)
      obtain ⟨h2, h3, _⟩ := own_setCells news (0 + n * i.size) w hown (by rw [hs]; omega) (by rw [hs]; omega)
      exact ⟨_, _, _, _, hr, h _ _ _ h2 (h3.mono fun k _ e => by simp [Value.ownBlock]; exact e)⟩
    · obtain ⟨v', w', hr, ho, hgr⟩ := run_append_arg_grows (P := P) (w := w) t ty e i z 1 bytes ht hi hz hs hy hzs (by decide) ⟨g, 0, none⟩ n c xs (by have := hown.1; omega)
        (fun j u hu => by obtain ⟨a, ha, hc⟩ := own_cells hown j u hu; cases ha; exact hc) a' m c' news (by omega) hsrc' (by omega) h63 hbytes
      obtain ⟨A2, c2, rfl, _, _⟩ := own_form ho
      have hE : Ext w w' := (Mod.grown hgr).mono fun k hk e => by cases e
      exact ⟨A2, n + m, c2, w', hr, h A2 c2 w' (own_ext hown hE) (hE.to _)⟩
end
end Go.Eng
