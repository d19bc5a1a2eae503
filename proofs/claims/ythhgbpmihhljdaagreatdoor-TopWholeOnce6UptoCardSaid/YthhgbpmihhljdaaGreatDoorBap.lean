/- append(s, make([]byte, n)...): zeros are laid behind a row of the call's own. It speaks of any program. -/
import Derived.Test.YthhgbpmihhljdaaGreatDoorBao
import Derived.WalkKit
namespace Go.Eng
open Go Go.RowKit
theorem zeroCells_u8 (m : Nat) : Builtin.zeroCells #[Value.int .u8 0] m = (List.replicate m (Value.int .u8 0)).toArray := by
  apply Array.ext'
  simp only [Builtin.zeroCells, List.size_toArray, List.length_cons, List.length_nil, Nat.zero_add, Nat.mul_one, Array.toList_map, Array.toList_range]
  apply List.ext_getElem
  · simp
  · intro i h1 h2
    simp [Nat.mod_one]
section
variable {P : Program} {w : World} {base e n : Nat} {xs : List Value}
theorem AppVC.zeros {t u ty : TypeId} (ht : P.underlying t = some (.slice e)) (hu : P.underlying u = some (.int .i64)) (hT : TypeIs P e (.int .u8 0) 1 1) {A : Option Addr} {c m : Nat} {k : Int} (hk : k = m) {F : Option Addr → Nat → Nat → World → Prop}
    (hown : w.ownsRow base e 1 (.slice A n c) n xs) (hb : n + m ≤ 140737488355328) (hbase : base ≤ w.heap.size)
    (h : ∀ A2 c2 w', w'.ownsRow base e 1 (.slice A2 (n + m) c2) (n + m) (xs ++ List.replicate m (Value.int .u8 0)) → Mod (fun k => some k = (Value.slice A n c).ownBlock) w w' → n + m ≤ c2 →
      (∀ k, some k = (Value.slice A2 (n + m) c2).ownBlock → some k = (Value.slice A n c).ownBlock ∨ w.heap.size ≤ k) → F A2 (n + m) c2 w') :
    AppVC P #[t, u] ty (.slice A n c) (.int .i64 k) w F := by
  subst hk
  obtain ⟨i, hi, hz, hs, hy⟩ := hT
  have hsmall : n + m ≤ maxLen := by simp only [maxLen]; omega
  have hlen : (xs ++ List.replicate m (Value.int .u8 0)).length = (n + m) * 1 := by
    rw [List.length_append, hown.1, List.length_replicate]; omega
  have hzc : Builtin.zeroCells (Value.int IntKind.u8 0).cells m = (List.replicate m (Value.int .u8 0)).toArray := zeroCells_u8 m
  have hz0 : ∀ q, (Builtin.zeroCells (Value.int IntKind.u8 0).cells q).size = q := fun q => by
    rw [show (Value.int IntKind.u8 0).cells = #[Value.int .u8 0] from rfl, zeroCells_u8]; simp
  have hw : IntKind.i64.wrap (m : Int) = m := w64 (by omega) (by omega)
  have l0 : ¬ ((m : Int) < 0) := by omega
  have l1 : ¬ ((281474976710656 : Int) < (m : Int)) := by omega
  have l2 : ¬ ((9223372036854775807 : Int) < (n : Int) + (m : Int)) := by omega
  have grown : ∀ (old : Nat), old < n + m → ∀ cs : Array Value, cs.toList = xs →
      (w.drew.alloc (.cells (cs ++ (List.replicate m (Value.int .u8 0)).toArray ++ Builtin.zeroCells (Value.int IntKind.u8 0).cells (grownCap w (n + m) old e - (n + m))) e)).ownsRow base e 1
        (.slice (some ⟨w.heap.size, 0, none⟩) (n + m) (grownCap w (n + m) old e)) (n + m) (xs ++ List.replicate m (Value.int .u8 0)) := by
    intro old ho cs hcs
    have hge := grownCap_ge w (n + m) old e
    have hcm : grownCap w (n + m) old e ≤ maxLen := grownCap_le_maxLen w (n + m) old e hsmall
    have hsz : cs.size = n := by rw [← Array.length_toList, hcs, hown.1]; omega
    refine ⟨hlen, .inr ⟨w.heap.size, _, _, rfl, hbase, heap_alloc_new w.drew _, hge, hcm, ?_, ?_⟩⟩
    · simp only [Array.size_append, List.size_toArray, List.length_replicate, hz0, hsz]
      omega
    · simp only [Array.toList_append, hcs, List.append_assoc]
      rw [← List.append_assoc, ← hlen]
      exact List.take_left
  have fin : ∀ (old : Nat), old < n + m → ∀ cs : Array Value, cs.toList = xs →
      F (some ⟨w.heap.size, 0, none⟩) (n + m) (grownCap w (n + m) old e) (w.drew.alloc (.cells (cs ++ (List.replicate m (Value.int .u8 0)).toArray ++ Builtin.zeroCells (Value.int IntKind.u8 0).cells (grownCap w (n + m) old e - (n + m))) e)) := fun old ho cs hcs =>
    h _ _ _ (grown old ho cs hcs) ⟨rfl, rfl, rfl, by simp, fun k hk _ => Below.heap_alloc w.drew _ k hk⟩ (grownCap_ge w (n + m) old e) fun k hk => .inr (by
      simp [Value.ownBlock] at hk; omega)
  have hbb : (Builtin.nextslicecap (n + m) c) * 1 ≤ 281474976710656 ∨ n + m ≤ c := by
    by_cases hc : n + m ≤ c
    · exact .inr hc
    · exact .inl (growslice_fits (by omega) (by omega))
  rcases hown.2 with ⟨hv, hn0⟩ | ⟨g, cap, cur, hv, hbg, hg, hnc, hcm, hcs, htake⟩
  · injection hv with hA _ hc
    subst hA; subst hc; subst hn0
    have hx : xs = [] := List.eq_nil_of_length_eq_zero (by simpa using hown.1)
    by_cases hm : m = 0
    · subst hm
      refine ⟨none, 0, 0, w, ?_, ?_⟩
      · simp [Builtin.append_, run_underlying ht, run_underlying hu, sizeOf, typeInfo, hi, asInt, asIntOf, show IntKind.i64.wrap 0 = 0 from rfl]
      · have := h none 0 w (by simpa [hx] using World.ownsRow_nil w base e 1) (Mod.refl _ _) (by omega) fun k hk => .inl (by simpa using hk)
        simpa using this
    · have h48 : ¬ ((281474976710656 : Nat) < Builtin.nextslicecap m 0 * 1) := by
        rcases hbb with e1 | e1
        · simp only [Nat.zero_add] at e1; omega
        · omega
      refine ⟨_, _, _, _, ?_, by simpa [hx] using fin 0 (by omega) #[] (by simp [hx])⟩
      have hm1 : ¬ (m * 1 = 0) := by omega
      simp [Builtin.append_, run_underlying ht, run_underlying hu, sizeOf, typeInfo, zeroValue, hi, hz, asInt, asIntOf, hw, l0, l1, hm, Question.forced, newRow, grownCap, hs, hy, hzc, Builtin.firstCells]
      rw [Nat.mul_one] at h48
      have l2' : ¬ ((9223372036854775807 : Int) < (m : Int)) := by omega
      simp [l2', h48]
  · injection hv with hA _ hcap
    subst hA; subst hcap
    by_cases hroom : n + m ≤ c
    · have hB : Blk w g e cur.toList := by unfold Blk; simpa using hg
      have hst : Stores ⟨g, n, none⟩ 0 (List.replicate m (Value.int .u8 0)) w fun w' => (Builtin.append_ #[t, u] ty #[.slice (some ⟨g, 0, none⟩) n c, .int .i64 m]).run P w = (do storeCells (⟨g, n, none⟩ : Addr) (List.replicate m (Value.int .u8 0)) 0; pure (Value.slice (some ⟨g, 0, none⟩) (n + m) c) : Sem Value).run P w ∧ F (some ⟨g, 0, none⟩) (n + m) c w' := by
        refine Stores.blk hB (fun v hv => by rw [(List.mem_replicate.1 hv).2]; rfl) (by simp; omega) fun w' hz' hm' hb' => ⟨?_, ?_⟩
        · have hn : ¬ (m * 1 = 0) ∨ m = 0 := by omega
          rcases hn with hn | hn
          · have hn' : ¬ (m = 0) := by omega
            simp [Builtin.append_, run_underlying ht, run_underlying hu, sizeOf, typeInfo, zeroValue, hi, hz, asInt, asIntOf, hw, l0, l1, hroom, hs, hy, hn', hzc, addr_add]
          · subst hn
            simp [Builtin.append_, run_underlying ht, run_underlying hu, sizeOf, typeInfo, zeroValue, hi, hz, asInt, asIntOf, show IntKind.i64.wrap 0 = 0 from rfl, hy, addr_add, hnc, storeCells]
        · refine h _ _ w' ⟨hlen, .inr ⟨g, c, (splice cur.toList n (List.replicate m (Value.int .u8 0))).toArray, rfl, hbg, by unfold Blk at hb'; simpa using hb', hroom, hcm, ?_, ?_⟩⟩ (hm'.mono fun k _ e => by simp [Value.ownBlock]; exact e) hroom fun k hk => .inl hk
          · unfold splice
            simp
            omega
          · unfold splice
            simp only [Nat.mul_one] at htake ⊢
            rw [htake, ← List.append_assoc]
            exact List.take_left' (by rw [hlen]; omega)
      obtain ⟨w', hr, he, hF⟩ := stores_sound (P := P) hst
      refine ⟨_, _, _, w', ?_, hF⟩
      rw [he]
      simp [hr]
    · have h48 : ¬ ((281474976710656 : Nat) < Builtin.nextslicecap (n + m) c * 1) := by
        rcases hbb with e1 | e1 <;> omega
      have holds : ∀ j u, xs[j]? = some u → w.drew.cell? ((⟨g, 0, none⟩ : Addr).add j) = some u := fun j u hu => by
        have := hown.cells (g := g) rfl j u hu
        simpa using this
      have hfo := run_firstCells_some (P := P) w.drew i.size n ⟨g, 0, none⟩ n c xs (by rw [hs]; exact hown.1) holds
      refine ⟨_, _, _, _, ?_, fin c (by omega) xs.toArray (by simp)⟩
      have hm' : ¬ (m = 0) := by omega
      simp [Builtin.append_, run_underlying ht, run_underlying hu, sizeOf, typeInfo, zeroValue, hi, hz, asInt, asIntOf, hw, l0, l1, hm', Question.forced, newRow, grownCap, hs, hy, hzc, hroom]
      rw [Nat.mul_one] at h48
      rw [hs] at hfo
      simp [l2, h48, hfo]
end
end Go.Eng
/- Rows with room behind their capacity; copies into a part of a block; new bytes of the library's own. It speaks of any program. -/
namespace Go.Eng
open Go Go.RowKit
/-- v reads xs, and its memory is its own: a row's head, or nil. -/
def Win (w : World) (b e : Nat) (v : Value) (n : Nat) (xs : List Value) : Prop :=
  xs.length = n ∧ ((v = .slice none 0 0 ∧ n = 0) ∨ ∃ g c cs, v = .slice (some ⟨g, 0, none⟩) n c ∧ b ≤ g ∧ n ≤ c ∧ c ≤ cs.length ∧ c ≤ maxLen ∧ Blk w g e cs ∧ cs.take n = xs)
section
variable {P : Program} {w w' : World} {b e n c : Nat} {v : Value} {A : Option Addr} {xs : List Value} {M : Nat → Prop}
theorem Win.mod (h : Win w b e v n xs) (hm : Mod M w w') (hn : ∀ k, v.ownBlock = some k → ¬ M k) : Win w' b e v n xs := by
  refine ⟨h.1, ?_⟩
  rcases h.2 with h2 | ⟨g, c, cs, rfl, h1, h2, h3, h4, h5, h6⟩
  · exact .inl h2
  · exact .inr ⟨g, c, cs, rfl, h1, h2, h3, h4, h5.mod hm (hn g rfl), h6⟩
theorem Win.of_own (h : w.ownsRow b e 1 v n xs) : Win w b e v n xs := by
  refine ⟨by have := h.1; omega, ?_⟩
  rcases h.2 with ⟨rfl, rfl⟩ | ⟨g, cap, cur, rfl, hb, hg, hc, hm, hs, ht⟩
  · exact .inl ⟨rfl, rfl⟩
  · exact .inr ⟨g, cap, cur.toList, rfl, hb, hc, by simp [hs], hm, by unfold Blk; simpa using hg, by simpa using ht⟩
theorem Win.cells (h : Win w b e (.slice A n c) n xs) : Cells w A xs := by
  rcases h.2 with ⟨h1, rfl⟩ | ⟨g, c', cs, h1, _, _, _, _, h5, h6⟩
  · have := h.1
    have : xs = [] := List.eq_nil_of_length_eq_zero this
    subst this
    exact Cells.nil _ _
  · injection h1 with hA _ _
    subst hA
    rw [← h6]
    exact (by simpa using Cells.of_blk h5 0 : Cells w (some ⟨g, 0, none⟩) cs).take n
theorem Win.lt (h : Win w b e v n xs) {k : Nat} (hk : v.ownBlock = some k) : b ≤ k ∧ k < w.heap.size := by
  rcases h.2 with ⟨rfl, rfl⟩ | ⟨g, c', cs, rfl, h1, _, _, _, h5, _⟩
  · simp [Value.ownBlock] at hk
  · simp [Value.ownBlock] at hk
    subst hk
    exact ⟨h1, h5.lt⟩
/-- A part of its own head: s[:m:m] too. -/
theorem Win.cut (h : Win w b e (.slice A n c) n xs) {m c2 : Nat} (hm : m ≤ n) (hmc : m ≤ c2) (hc : c2 ≤ c) : Win w b e (.slice A m c2) m (xs.take m) := by
  refine ⟨by rw [List.length_take, h.1]; omega, ?_⟩
  rcases h.2 with ⟨h1, h0⟩ | ⟨g, c', cs, h1, h2, h3, h4, h5, h6, h7⟩
  · injection h1 with hA _ hcc
    subst hA; subst hcc
    have : m = 0 := by omega
    subst this
    exact .inl ⟨by rw [show c2 = 0 by omega], rfl⟩
  · injection h1 with hA _ hcc
    subst hA; subst hcc
    exact .inr ⟨g, c2, cs, rfl, h2, hmc, by omega, by omega, h6, by rw [← h7, List.take_take, Nat.min_eq_left hm]⟩
def Fct.win (b e : Nat) (v : Value) (n : Nat) (xs : List Value) : Fct := ⟨fun k => v.ownBlock = some k, fun w => Win w b e v n xs, fun _ _ _ h _ hm hn => h.mod hm fun k hk => hn k hk⟩
variable {Γ : List Fct}
theorem Sep.win (H : Sep Γ w) (i : Nat) (hi : Γ[i]? = some (Fct.win b e v n xs)) : Win w b e v n xs := H.yes i _ hi
theorem Sep.ownWin {i : Nat} (H : Sep Γ w) (hi : Γ[i]? = some (Fct.own b e 1 v n xs)) : Sep (Γ.set i (Fct.win b e v n xs)) w :=
  H.weaken i hi (Win.of_own (H.own i hi)) fun _ h => h
theorem CopyVC.part {dT sT ty g o dn dc c' m e' : Nat} {cs xs : List Value} {F : Int → World → Prop} (hu : P.underlying dT = some (.slice e)) (hs : (P.info? e).map (·.size) = some 1)
    (hb : Blk w g e' cs) (hc : Cells w A xs) (hl : xs.length = m) (hm : m ≤ dn) (hfit : o + dn ≤ cs.length) (h1 : ∀ v ∈ xs, v.oneCell' = true)
    (h : ∀ w', w'.heap.size = w.heap.size → Mod (fun k => k = g) w w' → Blk w' g e' (splice cs o xs) → F m w') : CopyVC P #[dT, sT] ty (.slice (some ⟨g, o, none⟩) dn dc) (.slice A m c') w F := by
  by_cases h0 : m = 0
  · subst h0
    have hx : xs = [] := List.eq_nil_of_length_eq_zero hl
    subst hx
    refine ⟨0, w, run_copy_none w dT sT ty e _ _ _ _ _ _ hu hs (by simp), h w rfl (Mod.refl _ _) ?_⟩
    unfold splice; simpa using hb
  · obtain ⟨a, ha, _⟩ := hc.at (i := 0) (by omega)
    subst ha
    have hr := run_copy_row (P := P) w dT sT ty e g o dn dc a m c' cs.toArray e' xs hu hs hb (by rw [hl]; exact (Nat.min_eq_left hm).symm) (fun j v hv => by obtain ⟨a', ha', hcv⟩ := hc j v hv; cases ha'; exact hcv) (by simp; omega) h1
    rw [hl] at hr
    refine ⟨_, _, hr, h _ ?_ ?_ ?_⟩
    · simp [World.setRow]
    · refine ⟨rfl, rfl, rfl, by simp [World.setRow], fun k hk hn => ?_⟩
      simp only [World.setRow, Array.getElem?_modify]
      rw [if_neg (fun e => hn e.symm)]
    · unfold Blk
      have := setRow_heap w g cs.toArray ((cs.take o ++ xs ++ cs.drop (o + xs.length)).toArray) e' (0, 0) hb
      rw [hl] at this
      unfold splice
      rw [hl]
      simpa using this
theorem CopyVC.sep (H : Sep Γ w) (i : Nat) {dT sT ty g o dn dc c' m e' : Nat} {cs xs : List Value} {F : Int → World → Prop} (hu : P.underlying dT = some (.slice e)) (hs : (P.info? e).map (·.size) = some 1)
    (hi : Γ[i]? = some (Fct.blk g e' cs)) (hc : Cells w A xs) (hl : xs.length = m) (hm : m ≤ dn) (hfit : o + dn ≤ cs.length) (h1 : ∀ v ∈ xs, v.oneCell' = true)
    (h : ∀ w', Sep (Γ.set i (Fct.blk g e' (splice cs o xs))) w' → F m w') : CopyVC P #[dT, sT] ty (.slice (some ⟨g, o, none⟩) dn dc) (.slice A m c') w F :=
  CopyVC.part hu hs (H.blk i hi) hc hl hm hfit h1 fun w' _hz hm' hb => h w' (H.mod i hi hm' (fun _ _ e => e) _ hb fun _ e => .inl e)
theorem NoZeroVC.sep (H : Sep Γ w) {k : Int} {F : Nat → Nat → World → Prop} (h0 : 0 ≤ k) (h1 : k ≤ 140737488355328) (h : ∀ g cs w', Sep (Γ ++ [Fct.blk g e cs]) w' → k ≤ cs.length → cs.length ≤ maxLen → F g cs.length w') : NoZeroVC w e k F := by
  refine ⟨h0, h1, fun g cs w' hg hk hm hw => ?_⟩
  have hE : Ext w w.drew.drew := (Ext.drew w).ext (Ext.drew _)
  have hE2 : Ext w w' := by rw [hw]; exact hE.ext (Ext.alloc _ _)
  have hb : Blk w' g e cs.toList := by
    subst hg; rw [hw]; exact Blk.new w.drew.drew e cs
  have := h g cs.toList w' (H.pushBlk hE2 hb (by omega)) (by simpa using hk) (by simpa using hm)
  simpa using this
theorem splice_len {cs xs : List Value} {o : Nat} (h : o + xs.length ≤ cs.length) : (splice cs o xs).length = cs.length := by
  unfold splice; simp; omega
theorem splice_take {cs xs : List Value} {o : Nat} (h : o + xs.length ≤ cs.length) : (splice cs o xs).take (o + xs.length) = cs.take o ++ xs := by
  unfold splice
  rw [← List.append_assoc]
  exact List.take_left' (by simp; omega)
/-- Where a part of a slice begins. -/
theorem at_off {g o k c : Nat} : ∃ o', (if c = k then (some ⟨g, o, none⟩ : Option Addr) else (some (⟨g, o, none⟩ : Addr)).map (·.add (k * 1))) = some ⟨g, o', none⟩ ∧ (c ≠ k → o' = o + k) ∧ (c = k → o' = o) := by
  by_cases h : c = k
  · exact ⟨o, by rw [if_pos h], fun x => absurd h x, fun _ => rfl⟩
  · exact ⟨o + k, by rw [if_neg h, Nat.mul_one]; simp [addr_add], fun _ => rfl, fun x => absurd x h⟩
end
end Go.Eng
/- Several parts of memory at once: what a call makes of many rows. It speaks of any program. -/
namespace Go.Eng
open Go Go.RowKit
def Fct.apart (f g : Fct) : Prop := ∀ k, f.R k → g.R k → False
section
variable {w0 w w' : World} {Γ Γ' Δ : List Fct} {f g : Fct}
theorem Sep.iff : Sep Γ w ↔ (∀ f ∈ Γ, f.φ w ∧ ∀ k, f.R k → k < w.heap.size) ∧ Γ.Pairwise Fct.apart := by
  constructor
  · intro H
    refine ⟨fun f hf => ?_, List.pairwise_iff_getElem.2 fun i j hi hj hij k h1 h2 => ?_⟩
    · obtain ⟨i, hi, rfl⟩ := List.getElem_of_mem hf
      exact ⟨H.yes i _ (List.getElem?_eq_getElem hi), H.lt i _ (List.getElem?_eq_getElem hi)⟩
    · exact H.apart i j _ _ (by omega) (List.getElem?_eq_getElem hi) (List.getElem?_eq_getElem hj) k h1 h2
  · rintro ⟨h1, h2⟩
    refine ⟨fun i f hf => (h1 f (List.mem_of_getElem? hf)).1, fun i f hf => (h1 f (List.mem_of_getElem? hf)).2, fun i j f g hij hf hg k hkf hkg => ?_⟩
    obtain ⟨hi, rfl⟩ := List.getElem?_eq_some_iff.1 hf
    obtain ⟨hj, rfl⟩ := List.getElem?_eq_some_iff.1 hg
    rw [List.pairwise_iff_getElem] at h2
    rcases Nat.lt_or_ge i j with h | h
    · exact h2 i j hi hj h k hkf hkg
    · exact h2 j i hj hi (by omega) k hkg hkf
theorem Sep.sub (H : Sep Γ w) (h : Γ'.Sublist Γ) : Sep Γ' w :=
  Sep.iff.2 ⟨fun f hf => (Sep.iff.1 H).1 f (h.subset hf), (Sep.iff.1 H).2.sublist h⟩
theorem Sep.perm (H : Sep Γ w) (h : Γ'.Perm Γ) : Sep Γ' w :=
  Sep.iff.2 ⟨fun f hf => (Sep.iff.1 H).1 f (h.subset hf), (h.pairwise_iff (fun {_a _b} hab k h1 h2 => hab k h2 h1)).2 (Sep.iff.1 H).2⟩
/-- A call that makes many parts. -/
theorem Sep.mades (H : Sep Γ w) (h : Sep (Fct.rest w None :: Δ) w') : Sep (Γ ++ Δ) w' := by
  have H' := Sep.iff.1 (H.ext (h.restOf 0 rfl))
  have h' := Sep.iff.1 h
  have hc := List.pairwise_cons.1 h'.2
  refine Sep.iff.2 ⟨fun f hf => ?_, List.pairwise_append.2 ⟨H'.2, hc.2, fun f hf g hg k h1 h2 => ?_⟩⟩
  · rcases List.mem_append.1 hf with hf | hf
    · exact H'.1 f hf
    · exact h'.1 f (by simp [hf])
  · exact hc.1 g hg k ⟨((Sep.iff.1 H).1 f hf).2 k h1, id⟩ h2
theorem Sep.start1 (H : Sep (Fct.rest w0 None :: Δ) w) : Ext w0 w := H.restOf 0 rfl
/-- A part that is looked at where it stands. -/
theorem Sep.mem (H : Sep Γ w) (hf : f ∈ Γ) : f.φ w := ((Sep.iff.1 H).1 f hf).1
end
section
variable {w : World} {Γ : List Fct} {f : Fct}
theorem Sep.front (H : Sep (Γ ++ [f]) w) : Sep (f :: Γ) w := H.perm (List.perm_append_singleton f Γ).symm
theorem Sep.rot (H : Sep (f :: Γ) w) : Sep (Γ ++ [f]) w := H.perm (List.perm_append_singleton f Γ)
theorem Cells.blk0 {g t : Nat} {cs : List Value} (h : Blk w g t cs) : Cells w (some ⟨g, 0, none⟩) cs := by simpa using Cells.of_blk h 0
theorem Sep.tail (H : Sep (f :: Γ) w) : Sep Γ w := H.sub (List.sublist_cons_self f Γ)
end
/-- The like parts, of which less is said. -/
inductive AllLe : List Fct → List Fct → Prop
  | nil : AllLe [] []
  | cons {f g : Fct} {Γ Δ : List Fct} (h1 : ∀ w, f.φ w → g.φ w) (h2 : ∀ k, g.R k → f.R k) (h : AllLe Γ Δ) : AllLe (f :: Γ) (g :: Δ)
theorem AllLe.refl : ∀ Γ : List Fct, AllLe Γ Γ
  | [] => .nil
  | _ :: Γ => .cons (fun _ h => h) (fun _ h => h) (AllLe.refl Γ)
theorem AllLe.append {Γ Δ Γ' Δ' : List Fct} (h : AllLe Γ Δ) (h' : AllLe Γ' Δ') : AllLe (Γ ++ Γ') (Δ ++ Δ') := by
  induction h with
  | nil => exact h'
  | cons h1 h2 _ ih => exact .cons h1 h2 ih
theorem AllLe.map {α : Type} {f g : α → Fct} : ∀ (l : List α), (∀ x ∈ l, (∀ w, (f x).φ w → (g x).φ w) ∧ ∀ k, (g x).R k → (f x).R k) → AllLe (l.map f) (l.map g)
  | [], _ => .nil
  | x :: l, h => .cons (h x (by simp)).1 (h x (by simp)).2 (AllLe.map l fun y hy => h y (by simp [hy]))
theorem AllLe.flatMap {α : Type} {f g : α → List Fct} : ∀ (l : List α), (∀ x ∈ l, AllLe (f x) (g x)) → AllLe (l.flatMap f) (l.flatMap g)
  | [], _ => .nil
  | x :: l, h => by
    rw [List.flatMap_cons, List.flatMap_cons]
    exact (h x (by simp)).append (AllLe.flatMap l fun y hy => h y (by simp [hy]))
theorem AllLe.sep {w : World} {Γ Δ : List Fct} (h : AllLe Γ Δ) (H : Sep Γ w) : Sep Δ w := by
  rw [Sep.iff] at H ⊢
  have key : ∀ {Γ Δ : List Fct}, AllLe Γ Δ → (∀ f ∈ Γ, f.φ w ∧ ∀ k, f.R k → k < w.heap.size) → Γ.Pairwise Fct.apart → (∀ f ∈ Δ, f.φ w ∧ ∀ k, f.R k → k < w.heap.size) ∧ Δ.Pairwise Fct.apart ∧ ∀ g ∈ Δ, ∃ f ∈ Γ, ∀ k, g.R k → f.R k := by
    intro Γ Δ h
    induction h with
    | nil => exact fun _ _ => ⟨(fun _ h => by cases h), .nil, fun _ h => by cases h⟩
    | @cons f g Γ Δ h1 h2 h ih =>
      intro ha hp
      have hp := List.pairwise_cons.1 hp
      obtain ⟨i1, i2, i3⟩ := ih (fun x hx => ha x (by simp [hx])) hp.2
      refine ⟨fun x hx => ?_, List.pairwise_cons.2 ⟨fun x hx k hk hxk => ?_, i2⟩, fun x hx => ?_⟩
      · rcases List.mem_cons.1 hx with rfl | hx
        · have := ha f (by simp)
          exact ⟨h1 _ this.1, fun k hk => this.2 k (h2 k hk)⟩
        · exact i1 x hx
      · obtain ⟨y, hy, hyk⟩ := i3 x hx
        exact hp.1 y hy k (h2 k hk) (hyk k hxk)
      · rcases List.mem_cons.1 hx with rfl | hx
        · exact ⟨f, by simp, h2⟩
        · obtain ⟨y, hy, hyk⟩ := i3 x hx
          exact ⟨y, by simp [hy], hyk⟩
  obtain ⟨i1, i2, _⟩ := key h H.1 H.2
  exact ⟨i1, i2⟩
theorem own_less {b b' e size n : Nat} {v : Value} {xs : List Value} (h : b' ≤ b) : (∀ w, (Fct.own b e size v n xs).φ w → (Fct.own b' e size v n xs).φ w) ∧ ∀ k, (Fct.own b' e size v n xs).R k → (Fct.own b e size v n xs).R k :=
  ⟨fun _ ho => own_base ho h, fun _ h => h⟩
/-- Records, laid one behind the other. -/
theorem Recs.of_cells {w : World} {A : Option Addr} {size : Nat} (h0 : 0 < size) {rs : List (List Value)} (hs : ∀ r ∈ rs, r.length = size) (h : Cells w A rs.flatten) : Recs w A size rs := by
  intro i cs hi
  have hcs : cs.length = size := hs cs (List.mem_of_getElem? hi)
  have key : ∀ (rs : List (List Value)) (i : Nat) (cs : List Value), (∀ r ∈ rs, r.length = size) → rs[i]? = some cs → ∀ j v, cs[j]? = some v → rs.flatten[i * size + j]? = some v := by
    intro rs
    induction rs with
    | nil => intro i cs _ h; simp at h
    | cons r l ih =>
      intro i cs hs h j v hv
      have hr : r.length = size := hs r (by simp)
      cases i with
      | zero =>
        simp at h; subst h
        have hj := (List.getElem?_eq_some_iff.1 hv).1
        rw [List.flatten_cons, List.getElem?_append_left (by omega)]
        simpa using hv
      | succ i =>
        rw [List.flatten_cons, List.getElem?_append_right (by rw [hr, Nat.succ_mul]; omega)]
        have := ih i cs (fun r hr => hs r (by simp [hr])) (by simpa using h) j v hv
        rw [← this]; congr 1; rw [hr, Nat.succ_mul]; omega
  obtain ⟨v, hv⟩ : ∃ v, cs[0]? = some v := by
    cases cs with
    | nil => simp at hcs; omega
    | cons v r => exact ⟨v, rfl⟩
  obtain ⟨a, ha, _⟩ := h _ v (key rs i cs hs hi 0 v hv)
  refine ⟨a, ha, CellsAt.of _ 0 fun j u hu => ?_⟩
  obtain ⟨a', ha', hc⟩ := h _ u (key rs i cs hs hi j u hu)
  rw [ha] at ha'; cases ha'
  rw [add_add]; simpa using hc
end Go.Eng
/- Plain laws of bytes, numbers and bits: no program in sight. -/
namespace Go.Eng
open Go
def Bts (bs : List Int) : Prop := ∀ x ∈ bs, 0 ≤ x ∧ x < 256
theorem Bts.at {bs : List Int} (h : Bts bs) {i : Nat} (hi : i < bs.length) : 0 ≤ bs[i] ∧ bs[i] < 256 := h _ (List.getElem_mem hi)
theorem Bts.take {bs : List Int} (h : Bts bs) (n : Nat) : Bts (bs.take n) := fun x hx => h x (List.mem_of_mem_take hx)
theorem Bts.drop {bs : List Int} (h : Bts bs) (n : Nat) : Bts (bs.drop n) := fun x hx => h x (List.mem_of_mem_drop hx)
theorem Bts.append {a b : List Int} (h : Bts a) (k : Bts b) : Bts (a ++ b) := fun x hx => (List.mem_append.1 hx).elim (h x) (k x)
theorem snoc_ind {α : Type} {P : List α → Prop} (h0 : P []) (h1 : ∀ l a, P l → P (l ++ [a])) (l : List α) : P l := by
  have : ∀ l : List α, P l.reverse := by
    intro l
    induction l with
    | nil => exact h0
    | cons a l ih => rw [List.reverse_cons]; exact h1 _ _ ih
  have h := this l.reverse
  rwa [List.reverse_reverse] at h
/-- The number of bytes, the first the highest. -/
def beNum (bs : List Int) : Int := bs.foldl (fun v b => v * 256 + b) 0
theorem beNum_snoc (bs : List Int) (b : Int) : beNum (bs ++ [b]) = beNum bs * 256 + b := by simp [beNum]
theorem beNum_bound {bs : List Int} (h : Bts bs) : 0 ≤ beNum bs ∧ beNum bs < 256 ^ bs.length := by
  revert h
  refine snoc_ind (P := fun bs => Bts bs → 0 ≤ beNum bs ∧ beNum bs < 256 ^ bs.length) ?_ ?_ bs
  · intro _; simp [beNum]
  · intro l b ih h
    have h1 := ih fun x hx => h x (by simp [hx])
    have h2 := h b (by simp)
    rw [beNum_snoc, List.length_append, List.length_singleton, Int.pow_succ]
    omega
theorem pow256_lt {n : Nat} (h : n < 8) : (256 : Int) ^ n ≤ 72057594037927936 := by
  have : n = 0 ∨ n = 1 ∨ n = 2 ∨ n = 3 ∨ n = 4 ∨ n = 5 ∨ n = 6 ∨ n = 7 := by omega
  rcases this with rfl | rfl | rfl | rfl | rfl | rfl | rfl | rfl <;> decide

/-- What Uint answers. -/
def uintS (bs : List Int) (p k : Int) : Int × Int := if k < 1 ∨ 8 < k then (0, 1) else if 0 ≤ p ∧ p + k ≤ bs.length then (beNum ((bs.drop p.toNat).take k.toNat), 0) else (0, 10)

/-! ### 'v | x' where the low bits of v are free -/
theorem or_low (v x : Int) (n : Nat) (hv : 0 ≤ v) (hx : 0 ≤ x) (hd : v % 2 ^ n = 0) (hlt : x < 2 ^ n) (k : Nat) (hk : v + x < 2 ^ k) :
    (((BitVec.ofInt k v) ||| (BitVec.ofInt k x)).toNat : Int) = v + x := by
  obtain ⟨a, rfl⟩ := Int.eq_ofNat_of_zero_le hv
  obtain ⟨b, rfl⟩ := Int.eq_ofNat_of_zero_le hx
  have hd' : a % 2 ^ n = 0 := by exact_mod_cast hd
  have hlt' : b < 2 ^ n := by exact_mod_cast hlt
  have hk' : a + b < 2 ^ k := by exact_mod_cast hk
  rw [BitVec.toNat_or]
  simp only [BitVec.toNat_ofInt]
  have e1 : ((a : Int) % ((2 ^ k : Nat) : Int)).toNat = a := by
    rw [Int.emod_eq_of_lt (by omega) (by exact_mod_cast (by omega : a < 2 ^ k))]; simp
  have e2 : ((b : Int) % ((2 ^ k : Nat) : Int)).toNat = b := by
    rw [Int.emod_eq_of_lt (by omega) (by exact_mod_cast (by omega : b < 2 ^ k))]; simp
  rw [e1, e2]
  obtain ⟨q, rfl⟩ := Nat.dvd_of_mod_eq_zero hd'
  have : 2 ^ n * q ||| b = 2 ^ n * q + b := by
    rw [Nat.mul_comm, ← Nat.shiftLeft_eq, Nat.shiftLeft_add_eq_or_of_lt hlt']
  rw [this]
  push_cast
  rfl
end Go.Eng
/- Options, extension headers and datagrams by value, and how they lie in memory. -/
namespace Go.Eng
open Go Go.RowKit
structure OptD where
  kind : Int
  data : List Int
structure ExtD where
  kind : Int
  opts : List OptD
  data : List Int
structure Ip6D where
  cls : Int
  flow : Int
  hop : Int
  src : IPV
  dst : IPV
  exts : List ExtD
  frag : FragV
  next : Int
  data : List Int
structure Ip4D where
  tos : Int
  id : Int
  df : Bool
  mf : Bool
  off : Int
  ttl : Int
  proto : Int
  src : IPV
  dst : IPV
  opts : List OptD
  data : List Int
/-- An option as it lies there, and its bytes. -/
structure OptR where
  v : OptV
  data : List Int
structure ExtR where
  v : ExtV
  opts : List OptR
  data : List Int
def OptR.d (r : OptR) : OptD := ⟨r.v.kind, r.data⟩
def ExtR.d (r : ExtR) : ExtD := ⟨r.v.kind, r.opts.map OptR.d, r.data⟩
def Ip6V.d (h : Ip6V) (es : List ExtR) (data : List Int) : Ip6D := ⟨h.cls, h.flow, h.hop, h.src, h.dst, es.map ExtR.d, h.frag, h.next, data⟩
def Ip4V.d (h : Ip4V) (os : List OptR) (data : List Int) : Ip4D := ⟨h.tos, h.id, h.df, h.mf, h.off, h.ttl, h.proto, h.src, h.dst, os.map OptR.d, data⟩
structure BytesAt (w : World) (s : Sl) (l : List Int) : Prop where
  len : l.length = s.n
  cap : s.n ≤ s.k
  small : s.n ≤ 4000000
  bts : Bts l
  cells : Cells w s.A (l.map (.int .u8))
structure OptsAt (w : World) (s : Sl) (rs : List OptR) : Prop where
  len : rs.length = s.n
  cap : s.n ≤ s.k
  small : s.n ≤ 4000000
  recs : Recs w s.A 2 (rs.map fun r => r.v.cells)
  each : ∀ r ∈ rs, BytesAt w r.v.data r.data
structure ExtsAt (w : World) (s : Sl) (rs : List ExtR) : Prop where
  len : rs.length = s.n
  cap : s.n ≤ s.k
  small : s.n ≤ 4000000
  recs : Recs w s.A 3 (rs.map fun r => r.v.cells)
  opts : ∀ r ∈ rs, OptsAt w r.v.opts r.opts
  data : ∀ r ∈ rs, BytesAt w r.v.data r.data
structure Ip6At (w : World) (h : Ip6V) (es : List ExtR) (data : List Int) : Prop where
  exts : ExtsAt w h.exts es
  data : BytesAt w h.data data
  src : Bts h.src.bytes
  dst : Bts h.dst.bytes
structure Ip4At (w : World) (h : Ip4V) (os : List OptR) (data : List Int) : Prop where
  opts : OptsAt w h.opts os
  data : BytesAt w h.data data
  src : Bts h.src.bytes
  dst : Bts h.dst.bytes
section
variable {w w' : World} {s : Sl}
theorem BytesAt.ext {l : List Int} (h : BytesAt w s l) (hE : Ext w w') : BytesAt w' s l := { h with cells := h.cells.ext hE }
theorem OptsAt.ext {l : List OptR} (h : OptsAt w s l) (hE : Ext w w') : OptsAt w' s l := { h with recs := h.recs.ext hE, each := fun r hr => (h.each r hr).ext hE }
theorem ExtsAt.ext {l : List ExtR} (h : ExtsAt w s l) (hE : Ext w w') : ExtsAt w' s l := { h with recs := h.recs.ext hE, opts := fun r hr => (h.opts r hr).ext hE, data := fun r hr => (h.data r hr).ext hE }
theorem Ip6At.ext {h : Ip6V} {es : List ExtR} {data : List Int} (H : Ip6At w h es data) (hE : Ext w w') : Ip6At w' h es data := { H with exts := H.exts.ext hE, data := H.data.ext hE }
theorem Ip4At.ext {h : Ip4V} {os : List OptR} {data : List Int} (H : Ip4At w h os data) (hE : Ext w w') : Ip4At w' h os data := { H with opts := H.opts.ext hE, data := H.data.ext hE }
theorem BytesAt.nil (w : World) (A : Option Addr) (k : Nat) : BytesAt w ⟨A, 0, k⟩ [] := ⟨rfl, Nat.zero_le _, Nat.zero_le _, (fun _ h => by cases h), Cells.nil _ _⟩
theorem OptsAt.nil (w : World) (A : Option Addr) (k : Nat) : OptsAt w ⟨A, 0, k⟩ [] := ⟨rfl, Nat.zero_le _, Nat.zero_le _, (fun i cs h => by simp at h), fun _ h => by cases h⟩
theorem ExtsAt.nil (w : World) (A : Option Addr) (k : Nat) : ExtsAt w ⟨A, 0, k⟩ [] := ⟨rfl, Nat.zero_le _, Nat.zero_le _, (fun i cs h => by simp at h), (fun _ h => by cases h), fun _ h => by cases h⟩
/-- The i-th option is looked at. -/
theorem OptsAt.idx {rs : List OptR} (h : OptsAt w s rs) {i : Nat} {m : Nat} (hm : s.n = m) (hi : i < m) {F : Addr → Prop} (hF : ∀ a r, rs[i]? = some r → CellsAt w a 0 r.v.cells → BytesAt w r.v.data r.data → F a) : IdxVC s.A m 2 (i : Int) F := by
  subst hm
  refine IdxVC.rec h.recs (by omega) (by omega) (by simpa using h.len) fun a hc => ?_
  have hlt : i < rs.length := by rw [h.len]; exact hi
  have he : rs[i]? = some rs[i] := List.getElem?_eq_getElem hlt
  refine hF a rs[i] he ?_ (h.each _ (List.getElem_mem hlt))
  simpa [List.getD_eq_getElem?_getD, he] using hc
theorem ExtsAt.idx {rs : List ExtR} (h : ExtsAt w s rs) {i : Nat} {m : Nat} (hm : s.n = m) (hi : i < m) {F : Addr → Prop} (hF : ∀ a r, rs[i]? = some r → CellsAt w a 0 r.v.cells → OptsAt w r.v.opts r.opts → BytesAt w r.v.data r.data → F a) : IdxVC s.A m 3 (i : Int) F := by
  subst hm
  refine IdxVC.rec h.recs (by omega) (by omega) (by simpa using h.len) fun a hc => ?_
  have hlt : i < rs.length := by rw [h.len]; exact hi
  have he : rs[i]? = some rs[i] := List.getElem?_eq_getElem hlt
  refine hF a rs[i] he ?_ (h.opts _ (List.getElem_mem hlt)) (h.data _ (List.getElem_mem hlt))
  simpa [List.getD_eq_getElem?_getD, he] using hc
/-- The i-th byte is looked at. -/
theorem BytesAt.idx {l : List Int} (h : BytesAt w s l) {i : Nat} {m : Nat} (hm : s.n = m) (hi : i < m) {F : Addr → Prop} (hF : ∀ a x, l[i]? = some x → 0 ≤ x → x < 256 → w.cell? a = some (.int .u8 x) → F a) : IdxVC s.A m 1 (i : Int) F := by
  subst hm
  have hlt : i < l.length := by rw [h.len]; exact hi
  have hb := h.bts _ (List.getElem_mem hlt)
  refine IdxVC.int h.cells (by omega) (by omega) h.len fun a hc => hF a l[i] (List.getElem?_eq_getElem hlt) hb.1 hb.2 ?_
  rw [hc]; simp [hlt]
end
end Go.Eng
