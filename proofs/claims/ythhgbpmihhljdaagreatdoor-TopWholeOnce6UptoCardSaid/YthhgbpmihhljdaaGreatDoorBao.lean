/- General words over memory for laws of any program: rows of the call's own, lists of slices, append. -/
import Derived.Test.YthhgbpmihhljdaaGreatDoorBaf
import Derived.Maps.AppendAt
import Derived.ArgAppend
import Derived.Test.YthhgbpmihhljdaaGreatDoorBag
namespace Go.Eng
open Go Go.RowKit
theorem IdxVC.draw {A : Option Addr} {k : IntKind} {xs : List Int} {n : Nat} {i : Int} {F : Addr → Prop} {S : World → Prop} {w : World} (hw : S w) (hS : ∀ w', S w' → Cells w' A (xs.map (.int k))) (h0 : 0 ≤ i) (h1 : i < n) (hl : xs.length = n)
    (hF : ∀ a, (∀ w', S w' → w'.cell? a = some (.int k (xs.getD i.toNat 0))) → F a) : IdxVC A n 1 i F := by
  have hlt : i.toNat < xs.length := by omega
  obtain ⟨a, ha, _⟩ := (hS w hw).at (i := i.toNat) (by simpa using hlt)
  refine ⟨a, ha, h0, h1, hF _ fun w' hw' => ?_⟩
  obtain ⟨a', ha', hc⟩ := (hS w' hw').at (i := i.toNat) (by simpa using hlt)
  rw [ha] at ha'; cases ha'
  rw [Nat.mul_one, hc]; simp [hlt]
section
variable {P : Program} {w : World} {base e n : Nat} {xs : List Value}
theorem AppVC.one {t ty : TypeId} {z : Value} {bytes : Nat} (ht : P.underlying t = some (.slice e)) (hi : TypeIs P e z 1 bytes) (hzs : z.cells.size = 1)
    {A : Option Addr} {c : Nat} {u : Value} {F : Option Addr → Nat → Nat → World → Prop}
    (hown : w.ownsRow base e 1 (.slice A n c) n xs) (h1 : u.oneCell' = true) (hbytes : (n + 1) * bytes ≤ 140737488355328) (hb0 : 0 < bytes) (hbase : base ≤ w.heap.size)
    (h : ∀ A2 c2 w', w'.ownsRow base e 1 (.slice A2 (n + 1) c2) (n + 1) (xs ++ [u]) → Mod (fun k => some k = (Value.slice A n c).ownBlock) w w' → n + 1 ≤ c2 → F A2 (n + 1) c2 w') :
    NewVC w (.cells #[u] e) fun g w1 => AppVC P #[t, t] ty (.slice A n c) (.slice (some ⟨g, 0, none⟩) 1 1) w1 F := by
  obtain ⟨i, hi, hz, hs, hy⟩ := hi
  refine NewVC.blk fun g w1 hg hz1 hE1 hb1 => ?_
  refine AppVC.own ht hi hz hs hy hzs (by decide) (own_ext hown hE1) (by simpa using Cells.of_blk hb1 0) rfl (by simpa using h1) hbytes hb0 (by omega) fun A2 c2 w2 hown2 hm2 hc2 => ?_
  exact h A2 c2 w2 hown2 ((hE1.to _).trans hm2) hc2
end
theorem Ext.own {w0 w w' : World} {e size : Nat} {v : Value} {n : Nat} {xs : List Value} (hE : Ext w0 w) (hown : w.ownsRow w0.heap.size e size v n xs) (hm : Mod (fun k => some k = v.ownBlock) w w') : Ext w0 w' :=
  hE.trans' hm fun k hk e => by have := own_new hown k e.symm; omega
theorem Ext.set {w0 w w' : World} {g : Nat} (hE : Ext w0 w) (hm : Mod (fun k => k = g) w w') (hg : w0.heap.size ≤ g) : Ext w0 w' :=
  hE.trans' hm fun k hk e => by omega
theorem CellsAt.of {w : World} {a : Addr} : ∀ (cs : List Value) (i : Nat), (∀ j v, cs[j]? = some v → w.cell? (a.add (i + j)) = some v) → CellsAt w a i cs
  | [], _, _ => trivial
  | v :: r, i, h => ⟨by simpa using h 0 v rfl, CellsAt.of r (i + 1) fun j u hu => by
      have := h (j + 1) u (by simpa using hu)
      rwa [show i + 1 + j = i + (j + 1) by omega]⟩
theorem CellsAt.blk {w : World} {g : Nat} {t : TypeId} {cs : List Value} (h : Blk w g t cs) : CellsAt w ⟨g, 0, none⟩ 0 cs :=
  CellsAt.of cs 0 fun j v hv => by rw [addr_add, h.cell]; simpa using hv
def Recs (w : World) (A : Option Addr) (size : Nat) (rs : List (List Value)) : Prop := ∀ i cs, rs[i]? = some cs → ∃ a, A = some a ∧ CellsAt w (a.add (i * size)) 0 cs
theorem CellsAt.ext {w w' : World} {a : Addr} (hE : Ext w w') : ∀ {cs : List Value} {i : Nat}, CellsAt w a i cs → CellsAt w' a i cs
  | [], _, _ => trivial
  | _ :: _, _, h => ⟨Ext.cell hE h.1, CellsAt.ext hE h.2⟩
theorem Recs.ext {w w' : World} {A : Option Addr} {size : Nat} {rs : List (List Value)} (h : Recs w A size rs) (hE : Ext w w') : Recs w' A size rs := fun i cs hi => by
  obtain ⟨a, ha, hc⟩ := h i cs hi
  exact ⟨a, ha, hc.ext hE⟩
theorem IdxVC.rec {w : World} {A : Option Addr} {size n : Nat} {rs : List (List Value)} {i : Int} {F : Addr → Prop} (h : Recs w A size rs) (h0 : 0 ≤ i) (h1 : i < n) (hl : rs.length = n)
    (hF : ∀ a, CellsAt w a 0 (rs.getD i.toNat []) → F a) : IdxVC A n size i F := by
  have hlt : i.toNat < rs.length := by omega
  obtain ⟨a, ha, hc⟩ := h i.toNat _ (List.getElem?_eq_getElem hlt)
  refine ⟨a, ha, h0, h1, hF _ ?_⟩
  simpa [List.getD, hlt] using hc
theorem add_zero (a : Addr) : a.add 0 = a := by simp [Addr.add]
theorem Mod.to {w w' : World} (h : Mod None w w') (M : Nat → Prop) : Mod M w w' := Ext.to h M
section
variable {w w' : World} {base e n c : Nat} {A : Option Addr} {xs : List Value}
theorem IdxVC.own {m : Nat} {i : Int} {F : Addr → Prop} (hown : w.ownsRow base e 1 (.slice A n c) n xs) (h0 : 0 ≤ i) (h1 : i < n) (h2 : i < m)
    (hF : ∀ a, w.cell? a = xs[i.toNat]? → (∀ v K, v.oneCell' = true → (∀ w', w'.heap.size = w.heap.size → Mod (fun k => some k = (Value.slice A n c).ownBlock) w w' → w'.ownsRow base e 1 (.slice A n c) n (xs.set i.toNat v) → K w') → SetVC w a v K) → F a) :
    IdxVC A m 1 i F := by
  have hl := hown.1
  rcases hown.2 with ⟨hv, h0'⟩ | ⟨g, cap, cur, hv, hb, hg, hc, hm, hs, ht⟩
  · omega
  · injection hv with hA _ hcap
    subst hA; subst hcap
    have hcur : i.toNat < cur.size := by omega
    have hcell : w.cell? ⟨g, i.toNat, none⟩ = some cur[i.toNat] := by
      rw [cell_of_row w g i.toNat cur e (0, 0) hg]; simp [hcur]
    have hx : xs[i.toNat]? = some cur[i.toNat] := by
      rw [← ht, List.getElem?_take, if_pos (by omega)]; simp [hcur]
    refine ⟨_, rfl, h0, h2, ?_⟩
    rw [addr_add, Nat.zero_add, Nat.mul_one]
    refine hF _ (hcell.trans hx.symm) fun v K hv1 hK => ?_
    refine ⟨⟨_, hcell⟩, frozen_of_row w g i.toNat cur e hg, fun w' hw' => hK w' (by subst hw'; simp) ?_ ?_⟩
    · subst hw'
      exact (Mod.setCell w ⟨g, i.toNat, none⟩ v).mono fun k _ hk => by simp [Value.ownBlock]; exact hk
    · refine ⟨by simpa using hl, .inr ⟨g, c, cur.set! i.toNat v, rfl, hb, ?_, hc, hm, by simpa using hs, ?_⟩⟩
      · subst hw'
        simp [World.setCell, Array.getElem?_modify, hg]
      · rw [← ht]
        simp [List.take_set]
end
section
variable {P : Program} {w w' : World} {base e n c : Nat} {A : Option Addr} {xs : List Value}
end
section
variable {P : Program} {w w' : World} {base e n c : Nat} {A : Option Addr} {xs : List Value}
end
section
variable {P : Program} {w w' : World} {base e n c : Nat} {A : Option Addr} {xs : List Value}
end
theorem Mod.set {w0 w w' : World} {g : Nat} (hE : Mod None w0 w) (hm : Mod (fun k => k = g) w w') (hg : w0.heap.size ≤ g) : Ext w0 w' := Ext.set hE hm hg
section
variable {P : Program} {w : World} {base e n : Nat} {xs : List Value}
theorem AppVC.at {t ty : TypeId} {z : Value} {bytes : Nat} (ht : P.underlying t = some (.slice e)) (hi : TypeIs P e z 1 bytes) (hzs : z.cells.size = 1)
    {A A' : Option Addr} {c m c' : Nat} {news : List Value} {F : Option Addr → Nat → Nat → World → Prop}
    (hown : w.ownsRow base e 1 (.slice A n c) n xs) (hsrc : Cells w A' news) (hl : news.length = m) (h1 : ∀ u ∈ news, u.oneCell' = true)
    (hbytes : (n + m) * bytes ≤ 140737488355328) (hb0 : 0 < bytes) (hbase : base ≤ w.heap.size)
    (h : ∀ A2 c2 w', w'.ownsRow base e 1 (.slice A2 (n + m) c2) (n + m) (xs ++ news) → Mod (fun k => some k = (Value.slice A n c).ownBlock) w w' → n + m ≤ c2 →
      (∀ k, some k = (Value.slice A2 (n + m) c2).ownBlock → some k = (Value.slice A n c).ownBlock ∨ w.heap.size ≤ k) → F A2 (n + m) c2 w') :
    AppVC P #[t, t] ty (.slice A n c) (.slice A' m c') w F := by
  obtain ⟨i, hi, hz, hs, hy⟩ := hi
  have h63 : n + m ≤ maxLen := by
    have : (n + m) * 1 ≤ (n + m) * bytes := Nat.mul_le_mul_left _ hb0
    simp only [maxLen]; omega
  rcases A' with _ | ad
  · have hm : news = [] := by
      rcases news with _ | ⟨u, r⟩
      · rfl
      · obtain ⟨a, ha, _⟩ := hsrc 0 u rfl
        cases ha
    subst hm
    have hm0 : m = 0 := by simpa using hl.symm
    subst hm0
    have hrun : (Builtin.append_ #[t, t] ty #[.slice A n c, .slice none 0 c']).run P w = .ok (.slice A n c) w := by
      rcases hown.2 with ⟨hv, rfl⟩ | ⟨g, cap, cur, hv, _, _, hnc, _⟩
      · injection hv with hA _ hc; subst hA; subst hc
        simp [Builtin.append_, run_underlying ht, sizeOf, typeInfo, hi, Builtin.lenOf, Builtin.firstCells]
      · injection hv with hA _ hc; subst hA; subst hc
        simp [Builtin.append_, run_underlying ht, sizeOf, typeInfo, hi, Builtin.lenOf, Builtin.firstCells, hnc, storeCells]
    obtain ⟨_, _, hv, hnc, _⟩ := own_form hown
    injection hv with _ _ hc
    subst hc
    exact ⟨A, n, c, w, hrun, h A c w (by simpa using hown) (Mod.refl _ w) (by omega) fun k hk => .inl hk⟩
  · obtain ⟨v', w', hr, h2, h3, _, hat⟩ := run_append_own_at (P := P) w base t ty e i z 1 bytes ht hi hz hs hy hzs (by decide) (.slice A n c) n xs hown ad m c' news (by omega)
      (fun j u hu => by obtain ⟨a, ha, hc⟩ := hsrc j u hu; cases ha; exact hc) h1 h63 hbytes hbase
    obtain ⟨A2, c2, rfl, hc2, _⟩ := own_form h2
    refine ⟨A2, n + m, c2, w', hr, h A2 c2 w' h2 (Mod.grown h3) hc2 fun k hk => ?_⟩
    rcases hat with e | e
    · exact .inl (hk.trans e)
    · rw [e] at hk; injection hk with hk; exact .inr (by omega)
end
theorem DrawVC.of {w : World} {B : (World → Prop) → World → Prop} (S : World → Prop) (h : ∀ w', Ext w w' → w'.heap.size = w.heap.size → S w' ∧ B S w') : DrawVC w B := fun w' hw => by
  subst hw
  exact ⟨S, h _ (Ext.drew w) rfl⟩
section
variable {P : Program} {base e n c : Nat} {xs : List Value}
theorem own_setCells {g : Nat} : ∀ (vs : List Value) (o : Nat) (w : World), w.ownsRow base e 1 (.slice (some ⟨g, 0, none⟩) n c) n xs → n ≤ o → o + vs.length ≤ c →
    (w.setCells g o vs).ownsRow base e 1 (.slice (some ⟨g, 0, none⟩) n c) n xs ∧ Mod (fun k => k = g) w (w.setCells g o vs) ∧ (w.setCells g o vs).heap.size = w.heap.size
  | [], o, w, h, _, _ => ⟨h, Mod.refl _ _, rfl⟩
  | v :: r, o, w, h, ho, hc => by
    simp only [List.length_cons] at hc
    have h2 : (w.setCell ⟨g, o, none⟩ v).ownsRow base e 1 (.slice (some ⟨g, 0, none⟩) n c) n xs := by
      refine ⟨h.1, ?_⟩
      rcases h.2 with ⟨hv, _⟩ | ⟨g', cap, cur, hv, hb, hg, hnc, hm, hs, ht⟩
      · cases hv
      · injection hv with hA _ hcap
        injection hA with hA
        injection hA with hA
        subst hA; subst hcap
        refine .inr ⟨g, c, cur.set! o v, rfl, hb, ?_, hnc, hm, by simpa using hs, ?_⟩
        · simp [World.setCell, Array.getElem?_modify, hg]
        · rw [← ht]
          simp [List.take_set, List.set_eq_of_length_le, show min n cur.size ≤ o by omega]
    obtain ⟨h3, hm, hz⟩ := own_setCells r (o + 1) (w.setCell ⟨g, o, none⟩ v) h2 (by omega) (by omega)
    refine ⟨h3, (Mod.setCell w ⟨g, o, none⟩ v).trans hm, ?_⟩
    show ((w.setCell ⟨g, o, none⟩ v).setCells g (o + 1) r).heap.size = _
    rw [hz]; simp
end
section
variable {P : Program} {base e n c : Nat} {xs : List Value}
theorem AppVC.keep {w : World} {t ty : TypeId} {z : Value} {bytes : Nat} (ht : P.underlying t = some (.slice e)) (hi : TypeIs P e z 1 bytes) (hzs : z.cells.size = 1)
    {A A' : Option Addr} {m c' : Nat} {news : List Value} {F : Option Addr → Nat → Nat → World → Prop}
    (hown : w.ownsRow base e 1 (.slice A n c) n xs) (hsrc : Cells w A' news) (hl : news.length = m) (h0 : 0 < m) (h1 : ∀ u ∈ news, u.oneCell' = true)
    (hbytes : (n + m) * bytes ≤ 140737488355328) (hb0 : 0 < bytes)
    (h : ∀ A2 c2 w', w'.ownsRow base e 1 (.slice A n c) n xs → Mod (fun k => some k = (Value.slice A n c).ownBlock) w w' → F A2 (n + m) c2 w') :
    AppVC P #[t, t] ty (.slice A n c) (.slice A' m c') w F := by
  have hi' := hi
  obtain ⟨i, hi, hz, hs, hy⟩ := hi
  obtain ⟨a', ha', _⟩ := hsrc.at (i := 0) (by omega)
  subst ha'
  have hsrc' : ∀ j u, news[j]? = some u → w.cell? (a'.add j) = some u := fun j u hu => by
    obtain ⟨b', ha, hc⟩ := hsrc j u hu; cases ha; exact hc
  have h63 : n + m ≤ maxLen := by
    have : (n + m) * 1 ≤ (n + m) * bytes := Nat.mul_le_mul_left _ hb0
    simp only [maxLen]; omega
  rcases hown.2 with ⟨hv, hn0⟩ | ⟨g, cap, cur, hv, hb, hg, hnc, hm, hsz, htk⟩
  · injection hv with hA _ hc
    subst hA; subst hc; subst hn0
    refine AppVC.own ht hi hz hs hy hzs (by decide) (base := w.heap.size) (World.ownsRow_nil _ _ _ _) hsrc (by omega) h1 hbytes hb0 (Nat.le_refl _) fun A2 c2 w2 _ hm2 _ => ?_
    exact h A2 c2 w2 (own_mod hown hm2 fun k hk => by simp [Value.ownBlock] at hk) hm2
  · injection hv with hA _ hcap
    subst hA; subst hcap
    by_cases hroom : n + m ≤ c
    · have hcell : ∀ j, j < news.length → (w.cell? ⟨g, 0 + n * i.size + j, none⟩).isSome = true := fun j hj => by
        rw [cell_of_row w g _ cur e (0, 0) hg, hs]
        have : n + j < cur.size := by omega
        simp [this]
      have hr := run_append_room_cells (P := P) w t ty e i ht hi g 0 n c a' m c' news (by rw [hs]; omega) hsrc' h1 hroom hcell (fun j hj => frozen_of_row w g _ cur e hg)
      obtain ⟨h2, h3, _⟩ := own_setCells news (0 + n * i.size) w hown (by rw [hs]; omega) (by rw [hs]; omega)
      exact ⟨_, _, _, _, hr, h _ _ _ h2 (h3.mono fun k _ e => by simp [Value.ownBlock]; exact e)⟩
    · obtain ⟨v', w', hr, ho, hgr⟩ := run_append_arg_grows (P := P) (w := w) t ty e i z 1 bytes ht hi hz hs hy hzs (by decide) ⟨g, 0, none⟩ n c xs (by have := hown.1; omega)
        (fun j u hu => by obtain ⟨a, ha, hc⟩ := own_cells hown j u hu; cases ha; exact hc) a' m c' news (by omega) hsrc' (by omega) h63 hbytes
      obtain ⟨A2, c2, rfl, _, _⟩ := own_form ho
      have hE : Ext w w' := (Mod.grown hgr).mono fun k hk e => by cases e
      exact ⟨A2, n + m, c2, w', hr, h A2 c2 w' (own_ext hown hE) (hE.to _)⟩
end
end Go.Eng
/- Memory in parts: what is known of each, and that they are apart. Each step of a program is one step of the whole. It speaks of any program. -/
namespace Go.Eng
open Go Go.RowKit

/-- A part of memory (its blocks) and what is known of it, which hangs on these blocks alone. -/
structure Fct where
  R : Nat → Prop
  φ : World → Prop
  st : ∀ (M : Nat → Prop) (w w' : World), φ w → (∀ k, R k → k < w.heap.size) → Mod M w w' → (∀ k, R k → ¬ M k) → φ w'
def Fct.old (w0 : World) : Fct := ⟨fun k => k < w0.heap.size, fun w => Ext w0 w, fun _ _ _ h _ hm hn => h.trans' hm fun i hi hM => (hn i hi hM).elim⟩
def Fct.blk (g : Nat) (t : TypeId) (cs : List Value) : Fct := ⟨fun k => k = g, fun w => Blk w g t cs, fun _ _ _ h _ hm hn => h.mod hm (hn g rfl)⟩
def Fct.own (base e size : Nat) (v : Value) (n : Nat) (xs : List Value) : Fct := ⟨fun k => v.ownBlock = some k, fun w => w.ownsRow base e size v n xs, fun _ _ _ h _ hm hn => own_mod h hm fun g hg => hn g hg⟩
/-- All that was there but for M's blocks, as it was. -/
def Fct.rest (w0 : World) (M : Nat → Prop) : Fct := ⟨fun k => k < w0.heap.size ∧ ¬ M k, fun w => Mod M w0 w, fun _ _ _ h _ hm hn => h.trans' hm fun i hi hM => Classical.byContradiction fun hne => hn i ⟨hi, hne⟩ hM⟩
structure Sep (Γ : List Fct) (w : World) : Prop where
  yes : ∀ (i : Nat) f, Γ[i]? = some f → f.φ w
  lt : ∀ (i : Nat) f, Γ[i]? = some f → ∀ k, f.R k → k < w.heap.size
  apart : ∀ (i j : Nat) f g, i ≠ j → Γ[i]? = some f → Γ[j]? = some g → ∀ k, f.R k → g.R k → False
section
variable {w0 w w' : World} {Γ : List Fct} {M : Nat → Prop} {f f' : Fct}
theorem idx_snoc {α : Type} {l : List α} {x y : α} {i : Nat} (h : (l ++ [x])[i]? = some y) : (i < l.length ∧ l[i]? = some y) ∨ (i = l.length ∧ y = x) := by
  rcases Nat.lt_or_ge i l.length with hi | hi
  · rw [List.getElem?_append_left hi] at h; exact .inl ⟨hi, h⟩
  · rw [List.getElem?_append_right hi] at h
    have : i - l.length = 0 := by
      rcases Nat.eq_zero_or_pos (i - l.length) with e | e
      · exact e
      · rw [List.getElem?_eq_none (by simp; omega)] at h; cases h
    rw [this] at h
    exact .inr ⟨by omega, by simpa using h.symm⟩
theorem idx_set {α : Type} {l : List α} {x y : α} {i j : Nat} (h : (l.set i x)[j]? = some y) : (j = i ∧ y = x) ∨ (j ≠ i ∧ l[j]? = some y) := by
  rw [List.getElem?_set] at h
  by_cases e : i = j
  · subst e
    rw [if_pos rfl] at h
    split at h
    · injection h with h; exact .inl ⟨rfl, h.symm⟩
    · cases h
  · rw [if_neg e] at h; exact .inr ⟨fun x => e x.symm, h⟩
theorem Sep.start (w0 : World) : Sep [Fct.old w0] w0 := by
  have one : ∀ (i : Nat) f, ([Fct.old w0] : List Fct)[i]? = some f → i = 0 ∧ f = Fct.old w0 := fun i f h => by
    rcases i with _ | i
    · exact ⟨rfl, by simpa using h.symm⟩
    · simp at h
  refine ⟨fun i f h => ?_, fun i f h k hk => ?_, fun i j f g hij hf hg => ?_⟩
  · obtain ⟨_, rfl⟩ := one i f h; exact Mod.refl _ _
  · obtain ⟨_, rfl⟩ := one i f h; exact hk
  · have := (one i f hf).1; have := (one j g hg).1; omega
/-- What leaves all old blocks alone. -/
theorem Sep.ext (H : Sep Γ w) (h : Ext w w') : Sep Γ w' :=
  ⟨fun i f hf => f.st None w w' (H.yes i f hf) (H.lt i f hf) h fun _ _ => id, fun i f hf k hk => Nat.lt_of_lt_of_le (H.lt i f hf k hk) h.size, H.apart⟩
/-- New memory. -/
theorem Sep.push (H : Sep Γ w) (h : Ext w w') (f : Fct) (hφ : f.φ w') (hR : ∀ k, f.R k → w.heap.size ≤ k ∧ k < w'.heap.size) : Sep (Γ ++ [f]) w' := by
  have H' := H.ext h
  refine ⟨fun i g hg => ?_, fun i g hg k hk => ?_, fun i j a b hij ha hb k hka hkb => ?_⟩
  · rcases idx_snoc hg with ⟨_, hg⟩ | ⟨_, rfl⟩
    · exact H'.yes i g hg
    · exact hφ
  · rcases idx_snoc hg with ⟨_, hg⟩ | ⟨_, rfl⟩
    · exact H'.lt i g hg k hk
    · exact (hR k hk).2
  · rcases idx_snoc ha with ⟨_, ha'⟩ | ⟨hi, ea⟩ <;> rcases idx_snoc hb with ⟨_, hb'⟩ | ⟨hj, eb⟩
    · exact H.apart i j a b hij ha' hb' k hka hkb
    · subst eb; have := H.lt i a ha' k hka; have := (hR k hkb).1; omega
    · subst ea; have := H.lt j b hb' k hkb; have := (hR k hka).1; omega
    · omega
/-- One part is changed. -/
theorem Sep.mod (H : Sep Γ w) (i : Nat) (hi : Γ[i]? = some f) (h : Mod M w w') (hM : ∀ k, k < w.heap.size → M k → f.R k) (f' : Fct) (hφ : f'.φ w') (hR : ∀ k, f'.R k → f.R k ∨ (w.heap.size ≤ k ∧ k < w'.heap.size)) : Sep (Γ.set i f') w' := by
  have keep : ∀ j g, j ≠ i → Γ[j]? = some g → g.φ w' := fun j g hj hg =>
    g.st M w w' (H.yes j g hg) (H.lt j g hg) h fun k hk hMk => H.apart j i g f hj hg hi k hk (hM k (H.lt j g hg k hk) hMk)
  refine ⟨fun j g hg => ?_, fun j g hg k hk => ?_, fun j l a b hjl ha hb k hka hkb => ?_⟩
  · rcases idx_set hg with ⟨rfl, rfl⟩ | ⟨hj, hg⟩
    · exact hφ
    · exact keep j g hj hg
  · rcases idx_set hg with ⟨rfl, rfl⟩ | ⟨hj, hg⟩
    · rcases hR k hk with e | e
      · exact Nat.lt_of_lt_of_le (H.lt _ f hi k e) h.size
      · exact e.2
    · exact Nat.lt_of_lt_of_le (H.lt j g hg k hk) h.size
  · rcases idx_set ha with ⟨ej, ea⟩ | ⟨hj, ha'⟩ <;> rcases idx_set hb with ⟨el, eb⟩ | ⟨hl, hb'⟩
    · omega
    · subst ea
      rcases hR k hka with e | e
      · exact H.apart i l f b (fun e => hl e.symm) hi hb' k e hkb
      · have := H.lt l b hb' k hkb; omega
    · subst eb
      rcases hR k hkb with e | e
      · exact H.apart j i a f hj ha' hi k hka e
      · have := H.lt j a ha' k hka; omega
    · exact H.apart j l a b hjl ha' hb' k hka hkb
theorem Sep.take (H : Sep Γ w) (n : Nat) : Sep (Γ.take n) w := by
  have sub : ∀ (i : Nat) f, (Γ.take n)[i]? = some f → Γ[i]? = some f := fun i f h => by
    rw [List.getElem?_take] at h
    split at h
    · exact h
    · cases h
  exact ⟨fun i f h => H.yes i f (sub i f h), fun i f h => H.lt i f (sub i f h), fun i j a b hij ha hb => H.apart i j a b hij (sub i a ha) (sub j b hb)⟩
theorem Sep.del (H : Sep Γ w) (n : Nat) : Sep (Γ.eraseIdx n) w := by
  have sub : ∀ (i : Nat) f, (Γ.eraseIdx n)[i]? = some f → Γ[if i < n then i else i + 1]? = some f := fun i f h => by
    rw [List.getElem?_eraseIdx] at h
    split at h
    · rename_i hi; rw [if_pos hi]; exact h
    · rename_i hi; rw [if_neg hi]; exact h
  exact ⟨fun i f h => H.yes _ f (sub i f h), fun i f h => H.lt _ f (sub i f h), fun i j a b hij ha hb => H.apart _ _ a b (by split <;> split <;> omega) (sub i a ha) (sub j b hb)⟩
theorem Sep.blk {g : Nat} {t : TypeId} {cs : List Value} (H : Sep Γ w) (i : Nat) (hi : Γ[i]? = some (Fct.blk g t cs)) : Blk w g t cs := H.yes i _ hi
theorem Sep.own {b e s n : Nat} {v : Value} {xs : List Value} (H : Sep Γ w) (i : Nat) (hi : Γ[i]? = some (Fct.own b e s v n xs)) : w.ownsRow b e s v n xs := H.yes i _ hi
theorem Sep.cells {b e s n c : Nat} {A : Option Addr} {xs : List Value} (H : Sep Γ w) (i : Nat) (hi : Γ[i]? = some (Fct.own b e s (.slice A n c) n xs)) : Cells w A xs := own_cells (H.own i hi)
theorem Sep.at {g : Nat} {t : TypeId} {cs : List Value} (H : Sep Γ w) (i : Nat) (hi : Γ[i]? = some (Fct.blk g t cs)) : CellsAt w ⟨g, 0, none⟩ 0 cs := CellsAt.blk (H.blk i hi)
theorem Sep.cell {g : Nat} {t : TypeId} {cs : List Value} (H : Sep Γ w) (i : Nat) (hi : Γ[i]? = some (Fct.blk g t cs)) (j : Nat) {v : Value} (hv : cs[j]? = some v) : w.cell? ⟨g, j, none⟩ = some v := ((H.blk i hi).cell j).trans hv
/-- A nil row. -/
theorem Sep.nil (H : Sep Γ w) (b e s : Nat) : Sep (Γ ++ [Fct.own b e s (.slice none 0 0) 0 []]) w :=
  H.push (Mod.refl _ _) _ (World.ownsRow_nil _ _ _ _) fun k hk => by simp [Fct.own, Value.ownBlock] at hk
/-- A row that a call hands back. -/
theorem Sep.pushOwn {b e s n : Nat} {v : Value} {xs : List Value} (H : Sep Γ w) (h : Ext w w') (ho : w'.ownsRow b e s v n xs) (hb : w.heap.size ≤ b) : Sep (Γ ++ [Fct.own b e s v n xs]) w' :=
  H.push h _ ho fun k hk => ⟨Nat.le_trans hb (ho.lt k hk).1, (ho.lt k hk).2⟩
theorem Sep.pushBlk {g : Nat} {t : TypeId} {cs : List Value} (H : Sep Γ w) (h : Ext w w') (hb : Blk w' g t cs) (hg : w.heap.size ≤ g) : Sep (Γ ++ [Fct.blk g t cs]) w' :=
  H.push h _ hb fun k hk => by cases hk; exact ⟨hg, hb.lt⟩
/-! ### Calls that change one part, or make one -/
theorem Sep.begin {M : Nat → Prop} {f : Fct} (hφ : f.φ w0) (hM : ∀ k, f.R k → M k) (hlt : ∀ k, f.R k → k < w0.heap.size) : Sep [Fct.rest w0 M, f] w0 := by
  have two : ∀ (i : Nat) a, ([Fct.rest w0 M, f] : List Fct)[i]? = some a → (i = 0 ∧ a = Fct.rest w0 M) ∨ (i = 1 ∧ a = f) := fun i a h => by
    match i with
    | 0 => exact .inl ⟨rfl, by simpa using h.symm⟩
    | 1 => exact .inr ⟨rfl, by simpa using h.symm⟩
    | i + 2 => simp at h
  refine ⟨fun i a h => ?_, fun i a h k hk => ?_, fun i j a c hij ha hc k hka hkc => ?_⟩
  · rcases two i a h with ⟨_, rfl⟩ | ⟨_, rfl⟩
    · exact Mod.refl _ _
    · exact hφ
  · rcases two i a h with ⟨_, rfl⟩ | ⟨_, rfl⟩
    · exact hk.1
    · exact hlt k hk
  · rcases two i a ha with ⟨hi, rfl⟩ | ⟨hi, rfl⟩ <;> rcases two j c hc with ⟨hj, rfl⟩ | ⟨hj, rfl⟩
    · omega
    · exact hka.2 (hM k hkc)
    · exact hkc.2 (hM k hka)
    · omega
theorem Sep.restOf {M : Nat → Prop} (H : Sep Γ w) (i : Nat) (hi : Γ[i]? = some (Fct.rest w0 M)) : Mod M w0 w := H.yes i _ hi
theorem Sep.start0 (w0 : World) : Sep [Fct.rest w0 None] w0 := by
  have one : ∀ (i : Nat) f, ([Fct.rest w0 None] : List Fct)[i]? = some f → i = 0 ∧ f = Fct.rest w0 None := fun i f h => by
    rcases i with _ | i
    · exact ⟨rfl, by simpa using h.symm⟩
    · simp at h
  refine ⟨fun i f h => ?_, fun i f h k hk => ?_, fun i j f g hij hf hg => ?_⟩
  · obtain ⟨_, rfl⟩ := one i f h; exact Mod.refl _ _
  · obtain ⟨_, rfl⟩ := one i f h; exact hk.1
  · have := (one i f hf).1; have := (one j g hg).1; omega
/-- A call that turns one part into another. -/
theorem Sep.call {f f' : Fct} {M : Nat → Prop} (H : Sep Γ w) (i : Nat) (hi : Γ[i]? = some f) (hM : ∀ k, M k → f.R k) (h : Sep [Fct.rest w M, f'] w') : Sep (Γ.set i f') w' := by
  refine H.mod i hi (h.restOf 0 rfl) (fun k _ e => hM k e) f' (h.yes 1 f' rfl) fun k hk => ?_
  by_cases hlt : k < w.heap.size
  · refine .inl (Classical.byContradiction fun hne => h.apart 0 1 _ f' (by decide) rfl rfl k ⟨hlt, fun e => hne (hM k e)⟩ hk)
  · exact .inr ⟨by omega, h.lt 1 f' rfl k hk⟩
/-- A call that makes a part. -/
theorem Sep.made {f' : Fct} (H : Sep Γ w) (h : Sep [Fct.rest w None, f'] w') : Sep (Γ ++ [f']) w' :=
  H.push (h.restOf 0 rfl) f' (h.yes 1 f' rfl) fun k hk => ⟨Nat.le_of_not_lt fun hlt => h.apart 0 1 _ f' (by decide) rfl rfl k ⟨hlt, id⟩ hk, h.lt 1 f' rfl k hk⟩
/-- Cells that read so: in the memory that was there at w0, or in newer memory of their own. -/
def Fct.seen (w0 : World) (A : Option Addr) (xs : List Value) : Fct :=
  ⟨fun k => xs ≠ [] ∧ w0.heap.size ≤ k ∧ ∃ a, A = some a ∧ a.block = k,
   fun w => xs = [] ∨ Cells w0 A xs ∨ ((∀ a, A = some a → w0.heap.size ≤ a.block) ∧ Cells w A xs),
   fun M w w' h hlt hm hn => by
    rcases h with h | h | ⟨h1, h2⟩
    · exact .inl h
    · exact .inr (.inl h)
    · by_cases hx : xs = []
      · exact .inl hx
      · exact .inr (.inr ⟨h1, h2.mod hm fun a ha _ => hn _ ⟨hx, h1 a ha, a, ha, rfl⟩⟩)⟩
theorem Sep.seen {A : Option Addr} {xs : List Value} (H : Sep Γ w) (hE : Ext w0 w) (i : Nat) (hi : Γ[i]? = some (Fct.seen w0 A xs)) : Cells w A xs := by
  rcases H.yes i _ hi with h | h | ⟨_, h⟩
  · rw [h]; exact Cells.nil _ _
  · exact h.ext hE
  · exact h
theorem Sep.weaken {f f' : Fct} (H : Sep Γ w) (i : Nat) (hi : Γ[i]? = some f) (hφ : f'.φ w) (hR : ∀ k, f'.R k → f.R k) : Sep (Γ.set i f') w :=
  H.mod i hi (Mod.refl None _) (fun _ _ e => e.elim) f' hφ fun k hk => .inl (hR k hk)
/-- What a call made, left alone since. -/
def Fct.span (w1 w2 : World) : Fct := ⟨fun k => w1.heap.size ≤ k ∧ k < w2.heap.size, fun w => ∃ M, Mod M w2 w ∧ ∀ j, w1.heap.size ≤ j → ¬ M j, fun M' w w' ⟨M, hM, hn⟩ _ hm hR =>
  ⟨fun k => M k ∨ (M' k ∧ k < w1.heap.size), (hM.mono fun _ _ e => .inl e).trans' hm fun i hi hMi => by
    by_cases hlt : i < w1.heap.size
    · exact .inr ⟨hMi, hlt⟩
    · exact absurd hMi (hR i ⟨by omega, hi⟩), fun j hj h => h.elim (hn j hj) fun h => by omega⟩⟩
theorem Sep.pushSpan (H : Sep Γ w) (h : Ext w w') : Sep (Γ ++ [Fct.span w w']) w' :=
  H.push h _ ⟨None, Mod.refl _ _, fun _ _ => id⟩ fun _ hk => hk
theorem Sep.spanOf {w1 w2 : World} (H : Sep Γ w) (i : Nat) (hi : Γ[i]? = some (Fct.span w1 w2)) : ∃ M, Mod M w2 w ∧ ∀ j, w1.heap.size ≤ j → ¬ M j := H.yes i _ hi
theorem Sep.lower {b b' e s n : Nat} {v : Value} {xs : List Value} (H : Sep Γ w) (i : Nat) (hi : Γ[i]? = some (Fct.own b e s v n xs)) (h : b' ≤ b) : Sep (Γ.set i (Fct.own b' e s v n xs)) w :=
  H.weaken i hi (own_base (H.own i hi) h) fun _ h => h
theorem Sep.pushSeen {A : Option Addr} {xs : List Value} (H : Sep Γ w) (hc : Cells w0 A xs) : Sep (Γ ++ [Fct.seen w0 A xs]) w :=
  H.push (Mod.refl _ _) _ (.inr (.inl hc)) fun k ⟨hx, hk, a, ha, e⟩ => by
    obtain ⟨a', ha', _⟩ := hc.at (i := 0) (by rcases xs with _ | ⟨x, r⟩; exact absurd rfl hx; simp)
    rw [ha] at ha'; cases ha'
    have := hc.lt (by rcases xs with _ | ⟨x, r⟩; exact absurd rfl hx; simp) ha
    omega
theorem Sep.ownSeen {b e s n c : Nat} {A : Option Addr} {xs : List Value} (H : Sep Γ w) (i : Nat) (hi : Γ[i]? = some (Fct.own b e s (.slice A n c) n xs)) (hb : w0.heap.size ≤ b) : Sep (Γ.set i (Fct.seen w0 A xs)) w := by
  have ho := H.own i hi
  obtain ⟨_, _, hv, _, hform, hall⟩ := own_form ho
  injection hv with h1 h2 h3
  subst h1; subst h3
  have hblk : xs ≠ [] → ∃ g, A = some ⟨g, 0, none⟩ ∧ b ≤ g := fun hx => by
    rcases hform with h0 | ⟨g, hg, hbg, _⟩
    · have := ho.1; rw [h0, Nat.zero_mul] at this; exact absurd (List.eq_nil_of_length_eq_zero this) hx
    · exact ⟨g, hg, hbg⟩
  refine H.weaken i hi ?_ fun k ⟨hx, hk, a, ha, e⟩ => ?_
  · by_cases hx : xs = []
    · exact .inl hx
    · obtain ⟨g, hg, hbg⟩ := hblk hx
      exact .inr (.inr ⟨fun a ha => by rw [hg] at ha; cases ha; show w0.heap.size ≤ g; omega, own_cells ho⟩)
  · obtain ⟨g, hg, hbg⟩ := hblk hx
    rw [hg] at ha; cases ha
    subst e
    show (Value.slice A n c).ownBlock = some g
    rw [hg]; rfl
/-! ### Steps -/
theorem NewVC.sep (H : Sep Γ w) {cs : List Value} {t : TypeId} {F : Nat → World → Prop} (h : ∀ g w', Sep (Γ ++ [Fct.blk g t cs]) w' → F g w') : NewVC w (.cells cs.toArray t) F :=
  NewVC.blk fun g w' hg hz hE hb => h g w' (H.pushBlk hE hb (by omega))
theorem zeros_single (z : Value) : ∀ n, zeros [z] n = List.replicate n z
  | 0 => rfl
  | n + 1 => by simp [zeros, zeros_single z n, List.replicate_succ]
theorem MakeVC.sep (H : Sep Γ w) {e bytes : Nat} {z : Value} {l c : Int} {F : Nat → World → Prop} (h0 : 0 ≤ l) (h1 : l ≤ c) (h2 : bytes * c ≤ 281474976710656)
    (h : ∀ g w', Sep (Γ ++ [Fct.blk g e (List.replicate c.toNat z)]) w' → F g w') : MakeVC w e bytes [z] l c F :=
  ⟨h0, h1, h2, NewVC.blk fun g w' hg hz hE hb => h g w' (H.pushBlk hE (by rw [zeros_single] at hb; exact hb) (by omega))⟩
theorem SetVC.sep (H : Sep Γ w) (i : Nat) {g k : Nat} {t : TypeId} {cs : List Value} {v : Value} {F : World → Prop} (hi : Γ[i]? = some (Fct.blk g t cs)) (hk : k < cs.length)
    (h : ∀ w', Sep (Γ.set i (Fct.blk g t (cs.set k v))) w' → F w') : SetVC w ⟨g, k, none⟩ v F :=
  SetVC.blk (H.blk i hi) hk fun w' _hz hm hb => h w' (H.mod i hi hm (fun _ _ e => e) _ hb fun _ e => .inl e)
/-- A run of cells is written. -/
def splice (cs : List Value) (i : Nat) (vs : List Value) : List Value := cs.take i ++ (vs ++ cs.drop (i + vs.length))
theorem splice_step (cs : List Value) (i : Nat) (v : Value) (r : List Value) (h : i < cs.length) : splice (cs.set i v) (i + 1) r = splice cs i (v :: r) := by
  unfold splice
  rw [List.take_set, List.take_succ_eq_append_getElem h, List.set_append_right _ _ (by simp; omega)]
  have : (cs.take i).length = i := by simp; omega
  rw [this, Nat.sub_self, List.drop_set, if_pos (by omega)]
  simp [Nat.add_assoc, Nat.add_comm 1]
theorem Stores.blk {g : Nat} {t : TypeId} : ∀ {vs cs : List Value} {o i : Nat} {w : World} {F : World → Prop}, Blk w g t cs → (∀ v ∈ vs, v.oneCell' = true) → o + i + vs.length ≤ cs.length →
    (∀ w', w'.heap.size = w.heap.size → Mod (fun k => k = g) w w' → Blk w' g t (splice cs (o + i) vs) → F w') → Stores ⟨g, o, none⟩ i vs w F
  | [], cs, o, i, w, F, hb, _, _, h => h w rfl (Mod.refl _ _) (by unfold splice; simpa using hb)
  | v :: r, cs, o, i, w, F, hb, h1, hl, h => by
    simp only [Stores, h1 v (by simp), cond_true, addr_add]
    simp only [List.length_cons] at hl
    refine SetVC.blk hb (by omega) fun w' hz hm hb' => ?_
    refine Stores.blk hb' (fun u hu => h1 u (by simp [hu])) (by rw [List.length_set]; omega) fun w2 hz2 hm2 hb2 => ?_
    refine h w2 (by omega) (hm.trans hm2) ?_
    rw [show o + (i + 1) = (o + i) + 1 by omega, splice_step cs (o + i) v r (by omega)] at hb2
    exact hb2
theorem Stores.sep (H : Sep Γ w) (i : Nat) {g o : Nat} {t : TypeId} {cs vs cs' : List Value} {F : World → Prop} (hi : Γ[i]? = some (Fct.blk g t cs)) (h1 : ∀ v ∈ vs, v.oneCell' = true) (hl : o + vs.length ≤ cs.length) (he : splice cs o vs = cs')
    (h : ∀ w', Sep (Γ.set i (Fct.blk g t cs')) w' → F w') : Stores ⟨g, o, none⟩ 0 vs w F :=
  Stores.blk (H.blk i hi) h1 (by omega) fun w' hz hm hb => h w' (H.mod i hi hm (fun _ _ e => e) _ (by rw [Nat.add_zero, he] at hb; exact hb) fun _ e => .inl e)
/-- All cells of a block. -/
theorem splice_all {cs vs : List Value} (h : vs.length = cs.length) : splice cs 0 vs = vs := by
  unfold splice; simp [h]
theorem DrawVC.sep (H : Sep Γ w) {B : (World → Prop) → World → Prop} (S : World → Prop) (h : ∀ w', Sep Γ w' → S w' ∧ B S w') : DrawVC w B :=
  DrawVC.of S fun w' hE _ => h w' (H.ext hE)
variable {P : Program} {base e n size : Nat} {xs : List Value}
/-- append onto a row of the call's own, of elements of any size; and where the new row lies. -/
theorem AppVC.rec {t ty : TypeId} {z : Value} {bytes : Nat} (ht : P.underlying t = some (.slice e)) (hi : TypeIs P e z size bytes) (hzs : z.cells.size = size) (hsz : 0 < size)
    {A A' : Option Addr} {c m c' : Nat} {news : List Value} {F : Option Addr → Nat → Nat → World → Prop}
    (hown : w.ownsRow base e size (.slice A n c) n xs) (hsrc : Cells w A' news) (hl : news.length = m * size) (h1 : ∀ u ∈ news, u.oneCell' = true)
    (hbytes : (n + m) * bytes ≤ 140737488355328) (hb0 : 0 < bytes) (hbase : base ≤ w.heap.size)
    (h : ∀ A2 c2 w', w'.ownsRow base e size (.slice A2 (n + m) c2) (n + m) (xs ++ news) → Mod (fun k => some k = (Value.slice A n c).ownBlock) w w' → n + m ≤ c2 →
      (∀ k, some k = (Value.slice A2 (n + m) c2).ownBlock → some k = (Value.slice A n c).ownBlock ∨ w.heap.size ≤ k) → F A2 (n + m) c2 w') :
    AppVC P #[t, t] ty (.slice A n c) (.slice A' m c') w F := by
  obtain ⟨i, hi, hz, hs, hy⟩ := hi
  have h63 : n + m ≤ maxLen := by
    have : (n + m) * 1 ≤ (n + m) * bytes := Nat.mul_le_mul_left _ hb0
    simp only [maxLen]; omega
  rcases A' with _ | ad
  · have hm : news = [] := by
      rcases news with _ | ⟨u, r⟩
      · rfl
      · obtain ⟨a, ha, _⟩ := hsrc 0 u rfl
        cases ha
    subst hm
    have hm0 : m = 0 := by
      rcases Nat.mul_eq_zero.1 (by simpa using hl.symm : m * size = 0) with h | h <;> omega
    subst hm0
    have hrun : (Builtin.append_ #[t, t] ty #[.slice A n c, .slice none 0 c']).run P w = .ok (.slice A n c) w := by
      rcases hown.2 with ⟨hv, rfl⟩ | ⟨g, cap, cur, hv, _, _, hnc, _⟩
      · injection hv with hA _ hc; subst hA; subst hc
        simp [Builtin.append_, run_underlying ht, sizeOf, typeInfo, hi, Builtin.lenOf, Builtin.firstCells]
      · injection hv with hA _ hc; subst hA; subst hc
        simp [Builtin.append_, run_underlying ht, sizeOf, typeInfo, hi, Builtin.lenOf, Builtin.firstCells, hnc, storeCells]
    obtain ⟨_, _, hv, hnc, _⟩ := own_form hown
    injection hv with _ _ hc
    subst hc
    exact ⟨A, n, c, w, hrun, h A c w (by simpa using hown) (Mod.refl _ w) (by omega) fun k hk => .inl hk⟩
  · obtain ⟨v', w', hr, h2, h3, _, hat⟩ := run_append_own_at (P := P) w base t ty e i z size bytes ht hi hz hs hy hzs hsz (.slice A n c) n xs hown ad m c' news hl
      (fun j u hu => by obtain ⟨a, ha, hc⟩ := hsrc j u hu; cases ha; exact hc) h1 h63 hbytes hbase
    obtain ⟨A2, c2, rfl, hc2, _⟩ := own_form h2
    refine ⟨A2, n + m, c2, w', hr, h A2 c2 w' h2 (Mod.grown h3) hc2 fun k hk => ?_⟩
    rcases hat with e | e
    · exact .inl (hk.trans e)
    · rw [e] at hk; injection hk with hk; exact .inr (by omega)
theorem AppVC.sep (H : Sep Γ w) (i : Nat) {t ty : TypeId} {z : Value} {bytes : Nat} (ht : P.underlying t = some (.slice e)) (hT : TypeIs P e z size bytes) (hzs : z.cells.size = size) (hsz : 0 < size)
    {A A' : Option Addr} {c m c' : Nat} {news : List Value} {F : Option Addr → Nat → Nat → World → Prop} (hi : Γ[i]? = some (Fct.own base e size (.slice A n c) n xs))
    (hsrc : Cells w A' news) (hl : news.length = m * size) (h1 : ∀ u ∈ news, u.oneCell' = true)
    (hbytes : (n + m) * bytes ≤ 140737488355328) (hb0 : 0 < bytes) (hbase : base ≤ w.heap.size)
    (h : ∀ A2 c2 w', Sep (Γ.set i (Fct.own base e size (.slice A2 (n + m) c2) (n + m) (xs ++ news))) w' → n + m ≤ c2 → F A2 (n + m) c2 w') :
    AppVC P #[t, t] ty (.slice A n c) (.slice A' m c') w F :=
  AppVC.rec ht hT hzs hsz (H.own i hi) hsrc hl h1 hbytes hb0 hbase fun A2 c2 w' ho hm hc hat =>
    h A2 c2 w' (H.mod i hi hm (fun k _ e => e.symm) _ ho fun k hk => by
      rcases hat k hk.symm with e | e
      · exact .inl e.symm
      · exact .inr ⟨e, (ho.lt k hk).2⟩) hc
/-- Into a row of the call's own: read, and written. -/
theorem IdxVC.sep (H : Sep Γ w) (j : Nat) {b n c m : Nat} {A : Option Addr} {i : Int} {F : Addr → Prop} (hi : Γ[j]? = some (Fct.own b e 1 (.slice A n c) n xs)) (h0 : 0 ≤ i) (h1 : i < n) (h2 : i < m)
    (hF : ∀ a, w.cell? a = xs[i.toNat]? → (∀ v K, v.oneCell' = true → (∀ w', Sep (Γ.set j (Fct.own b e 1 (.slice A n c) n (xs.set i.toNat v))) w' → K w') → SetVC w a v K) → F a) : IdxVC A m 1 i F :=
  IdxVC.own (H.own j hi) h0 h1 h2 fun a ha hset => hF a ha fun v K hv hK => hset v K hv fun w' _hz hm ho =>
    hK w' (H.mod j hi hm (fun _k _ e => e.symm) _ ho fun _k hk => .inl hk)
end
end Go.Eng
