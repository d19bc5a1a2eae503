/- General words over memory for laws of any program: rows of the call's own, lists of slices, append. -/
import Derived.Test.YtjngdcilnipjcaaDoorMem
import Derived.Maps.AppendAt
import Derived.ArgAppend
namespace Go.Eng
open Go Go.RowKit
theorem IdxVC.draw {A : Option Addr} {k : IntKind} {xs : List Int} {n : Nat} {i : Int} {F : Addr → Prop} {S : World → Prop} {w : World} (hw : S w) (hS : ∀ w', S w' → Cells w' A (xs.map (.int k))) (h0 : 0 ≤ i) (h1 : i < n) (hl : xs.length = n)
    (hF : ∀ a, (∀ w', S w' → w'.cell? a = some (.int k (xs.getD i.toNat 0))) → F a) : IdxVC A n 1 i F := by
  have hlt : i.toNat < xs.length := by omega
  obtain ⟨a, ha, _⟩ := (hS w hw).at (i := i.toNat) (by simpa using hlt)
  refine ⟨a, ha, h0, h1, hF _ fun w' hw' => ?_⟩
  obtain ⟨a', ha', hc⟩ := (hS w' hw').at (i := i.toNat) (by simpa using hlt)
  rw [ha] at ha'; cases ha'
  rw [Nat.mul_one, hc]; simp [hlt]
section
variable {P : Program} {w : World} {base e n : Nat} {xs : List Value}
theorem AppVC.one {t ty : TypeId} {z : Value} {bytes : Nat} (ht : P.underlying t = some (.slice e)) (hi : TypeIs P e z 1 bytes) (hzs : z.cells.size = 1)
    {A : Option Addr} {c : Nat} {u : Value} {F : Option Addr → Nat → Nat → World → Prop}
    (hown : w.ownsRow base e 1 (.slice A n c) n xs) (h1 : u.oneCell' = true) (hbytes : (n + 1) * bytes ≤ 140737488355328) (hb0 : 0 < bytes) (hbase : base ≤ w.heap.size)
    (h : ∀ A2 c2 w', w'.ownsRow base e 1 (.slice A2 (n + 1) c2) (n + 1) (xs ++ [u]) → Mod (fun k => some k = (Value.slice A n c).ownBlock) w w' → n + 1 ≤ c2 → F A2 (n + 1) c2 w') :
    NewVC w (.cells #[u] e) fun g w1 => AppVC P #[t, t] ty (.slice A n c) (.slice (some ⟨g, 0, none⟩) 1 1) w1 F := by
  obtain ⟨i, hi, hz, hs, hy⟩ := hi
  refine NewVC.blk fun g w1 hg hz1 hE1 hb1 => ?_
  refine AppVC.own ht hi hz hs hy hzs (by decide) (own_ext hown hE1) (by simpa using Cells.of_blk hb1 0) rfl (by simpa using h1) hbytes hb0 (by omega) fun A2 c2 w2 hown2 hm2 hc2 => ?_
  exact h A2 c2 w2 hown2 ((hE1.to _).trans hm2) hc2
end
theorem Ext.own {w0 w w' : World} {e size : Nat} {v : Value} {n : Nat} {xs : List Value} (hE : Ext w0 w) (hown : w.ownsRow w0.heap.size e size v n xs) (hm : Mod (fun k => some k = v.ownBlock) w w') : Ext w0 w' :=
  hE.trans' hm fun k hk e => by have := own_new hown k e.symm; omega
theorem Ext.set {w0 w w' : World} {g : Nat} (hE : Ext w0 w) (hm : Mod (fun k => k = g) w w') (hg : w0.heap.size ≤ g) : Ext w0 w' :=
  hE.trans' hm fun k hk e => by omega
theorem CellsAt.of {w : World} {a : Addr} : ∀ (cs : List Value) (i : Nat), (∀ j v, cs[j]? = some v → w.cell? (a.add (i + j)) = some v) → CellsAt w a i cs
  | [], _, _ => trivial
  | v :: r, i, h => ⟨by simpa using h 0 v rfl, CellsAt.of r (i + 1) fun j u hu => by
      have := h (j + 1) u (by simpa using hu)
      rwa [show i + 1 + j = i + (j + 1) by omega]⟩
theorem CellsAt.blk {w : World} {g : Nat} {t : TypeId} {cs : List Value} (h : Blk w g t cs) : CellsAt w ⟨g, 0, none⟩ 0 cs :=
  CellsAt.of cs 0 fun j v hv => by rw [addr_add, h.cell]; simpa using hv
def Recs (w : World) (A : Option Addr) (size : Nat) (rs : List (List Value)) : Prop := ∀ i cs, rs[i]? = some cs → ∃ a, A = some a ∧ CellsAt w (a.add (i * size)) 0 cs
theorem CellsAt.ext {w w' : World} {a : Addr} (hE : Ext w w') : ∀ {cs : List Value} {i : Nat}, CellsAt w a i cs → CellsAt w' a i cs
  | [], _, _ => trivial
  | _ :: _, _, h => ⟨Ext.cell hE h.1, CellsAt.ext hE h.2⟩
theorem Recs.ext {w w' : World} {A : Option Addr} {size : Nat} {rs : List (List Value)} (h : Recs w A size rs) (hE : Ext w w') : Recs w' A size rs := fun i cs hi => by
  obtain ⟨a, ha, hc⟩ := h i cs hi
  exact ⟨a, ha, hc.ext hE⟩
theorem IdxVC.rec {w : World} {A : Option Addr} {size n : Nat} {rs : List (List Value)} {i : Int} {F : Addr → Prop} (h : Recs w A size rs) (h0 : 0 ≤ i) (h1 : i < n) (hl : rs.length = n)
    (hF : ∀ a, CellsAt w a 0 (rs.getD i.toNat []) → F a) : IdxVC A n size i F := by
  have hlt : i.toNat < rs.length := by omega
  obtain ⟨a, ha, hc⟩ := h i.toNat _ (List.getElem?_eq_getElem hlt)
  refine ⟨a, ha, h0, h1, hF _ ?_⟩
  simpa [List.getD, hlt] using hc
theorem add_zero (a : Addr) : a.add 0 = a := by simp [Addr.add]
theorem Mod.to {w w' : World} (h : Mod None w w') (M : Nat → Prop) : Mod M w w' := Ext.to h M
section
variable {w w' : World} {base e n c : Nat} {A : Option Addr} {xs : List Value}
theorem IdxVC.own {m : Nat} {i : Int} {F : Addr → Prop} (hown : w.ownsRow base e 1 (.slice A n c) n xs) (h0 : 0 ≤ i) (h1 : i < n) (h2 : i < m)
    (hF : ∀ a, w.cell? a = xs[i.toNat]? → (∀ v K, v.oneCell' = true → (∀ w', w'.heap.size = w.heap.size → Mod (fun k => some k = (Value.slice A n c).ownBlock) w w' → w'.ownsRow base e 1 (.slice A n c) n (xs.set i.toNat v) → K w') → SetVC w a v K) → F a) :
    IdxVC A m 1 i F := by
  have hl := hown.1
  rcases hown.2 with ⟨hv, h0'⟩ | ⟨g, cap, cur, hv, hb, hg, hc, hm, hs, ht⟩
  · omega
  · injection hv with hA _ hcap
    subst hA; subst hcap
    have hcur : i.toNat < cur.size := by omega
    have hcell : w.cell? ⟨g, i.toNat, none⟩ = some cur[i.toNat] := by
      rw [cell_of_row w g i.toNat cur e (0, 0) hg]; simp [hcur]
    have hx : xs[i.toNat]? = some cur[i.toNat] := by
      rw [← ht, List.getElem?_take, if_pos (by omega)]; simp [hcur]
    refine ⟨_, rfl, h0, h2, ?_⟩
    rw [addr_add, Nat.zero_add, Nat.mul_one]
    refine hF _ (hcell.trans hx.symm) fun v K hv1 hK => ?_
    refine ⟨⟨_, hcell⟩, frozen_of_row w g i.toNat cur e hg, fun w' hw' => hK w' (by subst hw'; simp) ?_ ?_⟩
    · subst hw'
      exact (Mod.setCell w ⟨g, i.toNat, none⟩ v).mono fun k _ hk => by simp [Value.ownBlock]; exact hk
    · refine ⟨by simpa using hl, .inr ⟨g, c, cur.set! i.toNat v, rfl, hb, ?_, hc, hm, by simpa using hs, ?_⟩⟩
      · subst hw'
        simp [World.setCell, Array.getElem?_modify, hg]
      · rw [← ht]
        simp [List.take_set]
end
section
variable {P : Program} {w w' : World} {base e n c : Nat} {A : Option Addr} {xs : List Value}
theorem IdxVC.ownAt {m off : Nat} {i : Int} {F : Addr → Prop} (hown : w.ownsRow base e 1 (.slice A n c) n xs) (h0 : 0 ≤ i) (h1 : off + i.toNat < n) (h2 : i < m)
    (hF : ∀ a, w.cell? a = xs[off + i.toNat]? → (∀ v K, v.oneCell' = true → (∀ w', w'.heap.size = w.heap.size → Mod (fun k => some k = (Value.slice A n c).ownBlock) w w' → w'.ownsRow base e 1 (.slice A n c) n (xs.set (off + i.toNat) v) → K w') → SetVC w a v K) → F a) :
    IdxVC (A.map (·.add off)) m 1 i F := by
  have hidx : IdxVC A n 1 ((off + i.toNat : Nat) : Int) F := IdxVC.own hown (by omega) (by omega) (by omega) fun a ha hset => by
    rw [Int.toNat_natCast] at ha hset
    exact hF a ha hset
  obtain ⟨a, ha, _, _, hf⟩ := hidx
  subst ha
  refine ⟨a.add off, rfl, h0, h2, ?_⟩
  rw [add_add]
  rwa [Int.toNat_natCast, Nat.mul_one, ← Nat.mul_one i.toNat] at hf
end
section
variable {P : Program} {w w' : World} {base e n c : Nat} {A : Option Addr} {xs : List Value}
theorem AppVC.full {t ty : TypeId} {z : Value} {bytes : Nat} (ht : P.underlying t = some (.slice e)) (hi : TypeIs P e z 1 bytes) (hzs : z.cells.size = 1)
    {m c' g : Nat} {news : List Value} {F : Option Addr → Nat → Nat → World → Prop}
    (hd : Cells w A xs) (hl : xs.length = n) (hsrc : Blk w g e news) (hm : news.length = m) (h0 : 0 < m) (h1 : ∀ u ∈ news, u.oneCell' = true) (hbytes : (n + m) * bytes ≤ 140737488355328) (hb0 : 0 < bytes)
    (h : ∀ A2 c2 w', w'.ownsRow w.heap.size e 1 (.slice A2 (n + m) c2) (n + m) (xs ++ news) → Ext w w' → F A2 (n + m) c2 w') :
    AppVC P #[t, t] ty (.slice A n n) (.slice (some ⟨g, 0, none⟩) m c') w F := by
  obtain ⟨i, hi, hz, hs, hy⟩ := hi
  have hsc : Cells w (some ⟨g, 0, none⟩) news := by simpa using Cells.of_blk hsrc 0
  rcases A with _ | a
  · have hx : xs = [] := by
      rcases xs with _ | ⟨u, r⟩
      · rfl
      · obtain ⟨_, ha, _⟩ := hd 0 u rfl
        cases ha
    subst hx
    have hn0 : n = 0 := by simpa using hl.symm
    subst hn0
    refine AppVC.own ht hi hz hs hy hzs (by decide) (World.ownsRow_nil _ _ _ _) hsc (by omega) h1 hbytes hb0 (Nat.le_refl _) fun A2 c2 w2 hown hm2 _ => ?_
    exact h A2 c2 w2 hown (hm2.mono fun k hk e => by simp [Value.ownBlock] at e)
  · have h63 : n + m ≤ maxLen := by
      have : (n + m) * 1 ≤ (n + m) * bytes := Nat.mul_le_mul_left _ hb0
      simp only [maxLen]; omega
    obtain ⟨v', w', hr, ho, hg⟩ := run_append_arg_grows (P := P) (w := w) t ty e i z 1 bytes ht hi hz hs hy hzs (by decide) a n n xs (by omega)
      (fun j u hu => by obtain ⟨a', ha, hc⟩ := hd j u hu; cases ha; exact hc) ⟨g, 0, none⟩ m c' news (by omega)
      (fun j u hu => by obtain ⟨a', ha, hc⟩ := hsc j u hu; cases ha; exact hc) (by omega) h63 hbytes
    obtain ⟨A2, c2, rfl, _, _⟩ := own_form ho
    exact ⟨A2, n + m, c2, w', hr, h A2 c2 w' ho ((Mod.grown hg).mono fun k hk e => by cases e)⟩
end
section
variable {P : Program} {w w' : World} {base e n c : Nat} {A : Option Addr} {xs : List Value}
theorem map_add_zero (A : Option Addr) : A.map (·.add 0) = A := by cases A <;> simp [add_zero]
end
theorem Mod.set {w0 w w' : World} {g : Nat} (hE : Mod None w0 w) (hm : Mod (fun k => k = g) w w') (hg : w0.heap.size ≤ g) : Ext w0 w' := Ext.set hE hm hg
section
variable {P : Program} {w : World} {base e n : Nat} {xs : List Value}
theorem AppVC.at {t ty : TypeId} {z : Value} {bytes : Nat} (ht : P.underlying t = some (.slice e)) (hi : TypeIs P e z 1 bytes) (hzs : z.cells.size = 1)
    {A A' : Option Addr} {c m c' : Nat} {news : List Value} {F : Option Addr → Nat → Nat → World → Prop}
    (hown : w.ownsRow base e 1 (.slice A n c) n xs) (hsrc : Cells w A' news) (hl : news.length = m) (h1 : ∀ u ∈ news, u.oneCell' = true)
    (hbytes : (n + m) * bytes ≤ 140737488355328) (hb0 : 0 < bytes) (hbase : base ≤ w.heap.size)
    (h : ∀ A2 c2 w', w'.ownsRow base e 1 (.slice A2 (n + m) c2) (n + m) (xs ++ news) → Mod (fun k => some k = (Value.slice A n c).ownBlock) w w' → n + m ≤ c2 →
      (∀ k, some k = (Value.slice A2 (n + m) c2).ownBlock → some k = (Value.slice A n c).ownBlock ∨ w.heap.size ≤ k) → F A2 (n + m) c2 w') :
    AppVC P #[t, t] ty (.slice A n c) (.slice A' m c') w F := by
  obtain ⟨i, hi, hz, hs, hy⟩ := hi
  have h63 : n + m ≤ maxLen := by
    have : (n + m) * 1 ≤ (n + m) * bytes := Nat.mul_le_mul_left _ hb0
    simp only [maxLen]; omega
  rcases A' with _ | ad
  · have hm : news = [] := by
      rcases news with _ | ⟨u, r⟩
      · rfl
      · obtain ⟨a, ha, _⟩ := hsrc 0 u rfl
        cases ha
    subst hm
    have hm0 : m = 0 := by simpa using hl.symm
    subst hm0
    have hrun : (Builtin.append_ #[t, t] ty #[.slice A n c, .slice none 0 c']).run P w = .ok (.slice A n c) w := by
      rcases hown.2 with ⟨hv, rfl⟩ | ⟨g, cap, cur, hv, _, _, hnc, _⟩
      · injection hv with hA _ hc; subst hA; subst hc
        simp [Builtin.append_, run_underlying ht, sizeOf, typeInfo, hi, Builtin.lenOf, Builtin.firstCells]
      · injection hv with hA _ hc; subst hA; subst hc
        simp [Builtin.append_, run_underlying ht, sizeOf, typeInfo, hi, Builtin.lenOf, Builtin.firstCells, hnc, storeCells]
    obtain ⟨_, _, hv, hnc, _⟩ := own_form hown
    injection hv with _ _ hc
    subst hc
    exact ⟨A, n, c, w, hrun, h A c w (by simpa using hown) (Mod.refl _ w) (by omega) fun k hk => .inl hk⟩
  · obtain ⟨v', w', hr, h2, h3, _, hat⟩ := run_append_own_at (P := P) w base t ty e i z 1 bytes ht hi hz hs hy hzs (by decide) (.slice A n c) n xs hown ad m c' news (by omega)
      (fun j u hu => by obtain ⟨a, ha, hc⟩ := hsrc j u hu; cases ha; exact hc) h1 h63 hbytes hbase
    obtain ⟨A2, c2, rfl, hc2, _⟩ := own_form h2
    refine ⟨A2, n + m, c2, w', hr, h A2 c2 w' h2 (Mod.grown h3) hc2 fun k hk => ?_⟩
    rcases hat with e | e
    · exact .inl (hk.trans e)
    · rw [e] at hk; injection hk with hk; exact .inr (by omega)
end
theorem CopyVC.full {P : Program} {w : World} {dT sT ty e : TypeId} {g n c c' : Nat} {A : Option Addr} {olds cs : List Value} {F : Int → World → Prop} (hu : P.underlying dT = some (.slice e)) (hs : (P.info? e).map (·.size) = some 1)
    (hb : Blk w g e olds) (hl : olds.length = n) (hc : Cells w A cs) (hn : cs.length = n) (h1 : ∀ v ∈ cs, v.oneCell' = true)
    (h : ∀ m w', w'.heap.size = w.heap.size → Mod (fun k => k = g) w w' → Blk w' g e cs → F m w') : CopyVC P #[dT, sT] ty (.slice (some ⟨g, 0, none⟩) n c) (.slice A n c') w F := by
  by_cases h0 : n = 0
  · refine ⟨0, w, run_copy_none w dT sT ty e _ _ _ _ _ _ hu hs (by subst h0; rfl), h 0 w rfl (Mod.refl _ _) ?_⟩
    have e1 : olds = [] := List.eq_nil_of_length_eq_zero (by omega)
    have e2 : cs = [] := List.eq_nil_of_length_eq_zero (by omega)
    rw [e2, ← e1]; exact hb
  · obtain ⟨a, ha, _⟩ := hc.at (i := 0) (by omega)
    subst ha
    have hr := run_copy_row (P := P) w dT sT ty e g 0 n c a n c' olds.toArray e cs hu hs hb (by simp [hn]) (fun j v hv => by obtain ⟨a', ha', hcv⟩ := hc j v hv; cases ha'; exact hcv) (by simp; omega) h1
    refine ⟨_, _, hr, h _ _ ?_ ?_ ?_⟩
    · simp [World.setRow]
    · refine ⟨rfl, rfl, rfl, by simp [World.setRow], fun k hk hn => ?_⟩
      simp only [World.setRow, Array.getElem?_modify]
      rw [if_neg (fun e => hn e.symm)]
    · unfold Blk
      have := setRow_heap w g olds.toArray ((olds.take 0 ++ cs ++ olds.drop (0 + cs.length)).toArray) e (0, 0) hb
      rw [this]
      simp [show olds.length ≤ cs.length by omega]
theorem AppVC.full' {P : Program} {w : World} {e n : Nat} {A A' : Option Addr} {xs : List Value} {t ty : TypeId} {z : Value} {bytes : Nat} (ht : P.underlying t = some (.slice e)) (hi : TypeIs P e z 1 bytes) (hzs : z.cells.size = 1)
    {m c' : Nat} {news : List Value} {F : Option Addr → Nat → Nat → World → Prop}
    (hd : Cells w A xs) (hl : xs.length = n) (hsrc : Cells w A' news) (hm : news.length = m) (h0 : 0 < m) (h1 : ∀ u ∈ news, u.oneCell' = true) (hbytes : (n + m) * bytes ≤ 140737488355328) (hb0 : 0 < bytes)
    (h : ∀ A2 c2 w', w'.ownsRow w.heap.size e 1 (.slice A2 (n + m) c2) (n + m) (xs ++ news) → Ext w w' → F A2 (n + m) c2 w') :
    AppVC P #[t, t] ty (.slice A n n) (.slice A' m c') w F := by
  obtain ⟨i, hi, hz, hs, hy⟩ := hi
  obtain ⟨a', ha', _⟩ := hsrc.at (i := 0) (by omega)
  subst ha'
  rcases A with _ | a
  · have hx : xs = [] := by
      rcases xs with _ | ⟨u, r⟩
      · rfl
      · obtain ⟨_, ha, _⟩ := hd 0 u rfl
        cases ha
    subst hx
    have hn0 : n = 0 := by simpa using hl.symm
    subst hn0
    refine AppVC.own ht hi hz hs hy hzs (by decide) (World.ownsRow_nil _ _ _ _) hsrc (by omega) h1 hbytes hb0 (Nat.le_refl _) fun A2 c2 w2 hown hm2 _ => ?_
    exact h A2 c2 w2 hown (hm2.mono fun k hk e => by simp [Value.ownBlock] at e)
  · have h63 : n + m ≤ maxLen := by
      have : (n + m) * 1 ≤ (n + m) * bytes := Nat.mul_le_mul_left _ hb0
      simp only [maxLen]; omega
    obtain ⟨v', w', hr, ho, hg⟩ := run_append_arg_grows (P := P) (w := w) t ty e i z 1 bytes ht hi hz hs hy hzs (by decide) a n n xs (by omega)
      (fun j u hu => by obtain ⟨a', ha, hc⟩ := hd j u hu; cases ha; exact hc) a' m c' news (by omega)
      (fun j u hu => by obtain ⟨b', ha, hc⟩ := hsrc j u hu; cases ha; exact hc) (by omega) h63 hbytes
    obtain ⟨A2, c2, rfl, _, _⟩ := own_form ho
    exact ⟨A2, n + m, c2, w', hr, h A2 c2 w' ho ((Mod.grown hg).mono fun k hk e => by cases e)⟩
theorem DrawVC.of {w : World} {B : (World → Prop) → World → Prop} (S : World → Prop) (h : ∀ w', Ext w w' → w'.heap.size = w.heap.size → S w' ∧ B S w') : DrawVC w B := fun w' hw => by
  subst hw
  exact ⟨S, h _ (Ext.drew w) rfl⟩
section
variable {P : Program} {base e n c : Nat} {xs : List Value}
theorem own_setCells {g : Nat} : ∀ (vs : List Value) (o : Nat) (w : World), w.ownsRow base e 1 (.slice (some ⟨g, 0, none⟩) n c) n xs → n ≤ o → o + vs.length ≤ c →
    (w.setCells g o vs).ownsRow base e 1 (.slice (some ⟨g, 0, none⟩) n c) n xs ∧ Mod (fun k => k = g) w (w.setCells g o vs) ∧ (w.setCells g o vs).heap.size = w.heap.size
  | [], o, w, h, _, _ => ⟨h, Mod.refl _ _, rfl⟩
  | v :: r, o, w, h, ho, hc => by
    simp only [List.length_cons] at hc
    have h2 : (w.setCell ⟨g, o, none⟩ v).ownsRow base e 1 (.slice (some ⟨g, 0, none⟩) n c) n xs := by
      refine ⟨h.1, ?_⟩
      rcases h.2 with ⟨hv, _⟩ | ⟨g', cap, cur, hv, hb, hg, hnc, hm, hs, ht⟩
      · cases hv
      · injection hv with hA _ hcap
        injection hA with hA
        injection hA with hA
        subst hA; subst hcap
        refine .inr ⟨g, c, cur.set! o v, rfl, hb, ?_, hnc, hm, by simpa using hs, ?_⟩
        · simp [World.setCell, Array.getElem?_modify, hg]
        · rw [← ht]
          simp [List.take_set, List.set_eq_of_length_le, show min n cur.size ≤ o by omega]
    obtain ⟨h3, hm, hz⟩ := own_setCells r (o + 1) (w.setCell ⟨g, o, none⟩ v) h2 (by omega) (by omega)
    refine ⟨h3, (Mod.setCell w ⟨g, o, none⟩ v).trans hm, ?_⟩
    show ((w.setCell ⟨g, o, none⟩ v).setCells g (o + 1) r).heap.size = _
    rw [hz]; simp
end
section
variable {P : Program} {base e n c : Nat} {xs : List Value}
theorem AppVC.keep {w : World} {t ty : TypeId} {z : Value} {bytes : Nat} (ht : P.underlying t = some (.slice e)) (hi : TypeIs P e z 1 bytes) (hzs : z.cells.size = 1)
    {A A' : Option Addr} {m c' : Nat} {news : List Value} {F : Option Addr → Nat → Nat → World → Prop}
    (hown : w.ownsRow base e 1 (.slice A n c) n xs) (hsrc : Cells w A' news) (hl : news.length = m) (h0 : 0 < m) (h1 : ∀ u ∈ news, u.oneCell' = true)
    (hbytes : (n + m) * bytes ≤ 140737488355328) (hb0 : 0 < bytes)
    (h : ∀ A2 c2 w', w'.ownsRow base e 1 (.slice A n c) n xs → Mod (fun k => some k = (Value.slice A n c).ownBlock) w w' → F A2 (n + m) c2 w') :
    AppVC P #[t, t] ty (.slice A n c) (.slice A' m c') w F := by
  have hi' := hi
  obtain ⟨i, hi, hz, hs, hy⟩ := hi
  obtain ⟨a', ha', _⟩ := hsrc.at (i := 0) (by omega)
  subst ha'
  have hsrc' : ∀ j u, news[j]? = some u → w.cell? (a'.add j) = some u := fun j u hu => by
    obtain ⟨b', ha, hc⟩ := hsrc j u hu; cases ha; exact hc
  have h63 : n + m ≤ maxLen := by
    have : (n + m) * 1 ≤ (n + m) * bytes := Nat.mul_le_mul_left _ hb0
    simp only [maxLen]; omega
  rcases hown.2 with ⟨hv, hn0⟩ | ⟨g, cap, cur, hv, hb, hg, hnc, hm, hsz, htk⟩
  · injection hv with hA _ hc
    subst hA; subst hc; subst hn0
    refine AppVC.own ht hi hz hs hy hzs (by decide) (base := w.heap.size) (World.ownsRow_nil _ _ _ _) hsrc (by omega) h1 hbytes hb0 (Nat.le_refl _) fun A2 c2 w2 _ hm2 _ => ?_
    exact h A2 c2 w2 (own_mod hown hm2 fun k hk => by simp [Value.ownBlock] at hk) hm2
  · injection hv with hA _ hcap
    subst hA; subst hcap
    by_cases hroom : n + m ≤ c
    · have hcell : ∀ j, j < news.length → (w.cell? ⟨g, 0 + n * i.size + j, none⟩).isSome = true := fun j hj => by
        rw [cell_of_row w g _ cur e (0, 0) hg, hs]
        have : n + j < cur.size := by omega
        simp [this]
      have hr := run_append_room_cells (P := P) w t ty e i ht hi g 0 n c a' m c' news (by rw [hs]; omega) hsrc' h1 hroom hcell (fun j hj => frozen_of_row w g _ cur e hg)
      obtain ⟨h2, h3, _⟩ := own_setCells news (0 + n * i.size) w hown (by rw [hs]; omega) (by rw [hs]; omega)
      exact ⟨_, _, _, _, hr, h _ _ _ h2 (h3.mono fun k _ e => by simp [Value.ownBlock]; exact e)⟩
    · obtain ⟨v', w', hr, ho, hgr⟩ := run_append_arg_grows (P := P) (w := w) t ty e i z 1 bytes ht hi hz hs hy hzs (by decide) ⟨g, 0, none⟩ n c xs (by have := hown.1; omega)
        (fun j u hu => by obtain ⟨a, ha, hc⟩ := own_cells hown j u hu; cases ha; exact hc) a' m c' news (by omega) hsrc' (by omega) h63 hbytes
      obtain ⟨A2, c2, rfl, _, _⟩ := own_form ho
      have hE : Ext w w' := (Mod.grown hgr).mono fun k hk e => by cases e
      exact ⟨A2, n + m, c2, w', hr, h A2 c2 w' (own_ext hown hE) (hE.to _)⟩
end
end Go.Eng
