/- Words for memory over the engine's conditions: slices that read as lists, blocks known whole, what a step leaves alone; and how each small condition is met. It speaks of any program. -/
import Derived.Test.YthhgbpmihhljdaaGreatDoorBae
namespace Go.Eng
open Go Go.RowKit

/-! ### What a step leaves alone -/
/-- But for the blocks of M, what was there is as it was. -/
structure Mod (M : Nat → Prop) (w w' : World) : Prop where
  os : w'.os = w.os
  tape : w'.tape = w.tape
  output : w'.output = w.output
  size : w.heap.size ≤ w'.heap.size
  block : ∀ k, k < w.heap.size → ¬ M k → w'.heap[k]? = w.heap[k]?
def None : Nat → Prop := fun _ => False
abbrev Ext (w w' : World) : Prop := Mod None w w'
section
variable {M M' : Nat → Prop} {w w' w'' : World}
theorem Mod.refl (M : Nat → Prop) (w : World) : Mod M w w := ⟨rfl, rfl, rfl, Nat.le_refl _, fun _ _ _ => rfl⟩
theorem Mod.trans' (h : Mod M w w') (k : Mod M' w' w'') (hm : ∀ i, i < w.heap.size → M' i → M i) : Mod M w w'' :=
  ⟨k.os.trans h.os, k.tape.trans h.tape, k.output.trans h.output, Nat.le_trans h.size k.size, fun i hi hn =>
    (k.block i (Nat.lt_of_lt_of_le hi h.size) (fun e => hn (hm i hi e))).trans (h.block i hi hn)⟩
theorem Mod.trans (h : Mod M w w') (k : Mod M w' w'') : Mod M w w'' := h.trans' k fun _ _ e => e
theorem Mod.ext (h : Mod M w w') (k : Ext w' w'') : Mod M w w'' := h.trans' k fun _ _ e => e.elim
theorem Mod.mono (h : Mod M w w') (hm : ∀ i, i < w.heap.size → M i → M' i) : Mod M' w w' :=
  ⟨h.os, h.tape, h.output, h.size, fun i hi hn => h.block i hi fun e => hn (hm i hi e)⟩
theorem Ext.to (h : Ext w w') (M : Nat → Prop) : Mod M w w' := h.mono fun _ _ e => e.elim
theorem Mod.below (h : Ext w w') : Below w.heap.size w w' := ⟨h.os, h.tape, h.output, h.size, fun k hk => h.block k hk id⟩
theorem Ext.alloc (w : World) (o : Obj) : Ext w (w.alloc o) := ⟨rfl, rfl, rfl, by simp, fun k hk _ => Below.heap_alloc w o k hk⟩
theorem Ext.drew (w : World) : Ext w w.drew := ⟨rfl, rfl, rfl, Nat.le_refl _, fun _ _ _ => rfl⟩
theorem Mod.setCell (w : World) (a : Addr) (v : Value) : Mod (fun k => k = a.block) w (w.setCell a v) :=
  ⟨rfl, rfl, rfl, by simp, fun k _ hn => heap_setCell_other w a k v hn⟩
theorem Mod.grown {row : Option Nat} (h : w.grownBy w' row) : Mod (fun k => some k = row) w w' := ⟨h.os, h.tape, h.output, h.size, fun k hk hn => h.block k hk hn⟩
/-- A cell of a block that was left alone. -/
theorem Mod.cell (h : Mod M w w') {a : Addr} {v : Value} (hc : w.cell? a = some v) (hn : ¬ M a.block) : w'.cell? a = some v :=
  (World.cell?_of_block (h.block a.block (World.block_lt_of_cell? w a hc) hn)).trans hc
theorem Ext.cell (h : Ext w w') {a : Addr} {v : Value} (hc : w.cell? a = some v) : w'.cell? a = some v := Mod.cell h hc id
end

/-! ### A block known whole -/
def Blk (w : World) (g : Nat) (t : TypeId) (cs : List Value) : Prop := w.heap[g]? = some (.cells cs.toArray t (0, 0))
section
variable {w w' : World} {g : Nat} {t : TypeId} {cs : List Value} {M : Nat → Prop}
theorem Blk.lt (h : Blk w g t cs) : g < w.heap.size := by
  unfold Blk at h
  rcases Nat.lt_or_ge g w.heap.size with hlt | hge
  · exact hlt
  · rw [Array.getElem?_eq_none hge] at h; cases h
theorem Blk.cell (h : Blk w g t cs) (i : Nat) : w.cell? ⟨g, i, none⟩ = cs[i]? := by
  rw [cell_of_row w g i cs.toArray t (0, 0) h]; simp
theorem Blk.frozen (h : Blk w g t cs) (i : Nat) : w.frozen? ⟨g, i, none⟩ = false := frozen_of_row w g i cs.toArray t h
theorem Blk.new (w : World) (t : TypeId) (cs : Array Value) : Blk (w.alloc (.cells cs t)) w.heap.size t cs.toList := by
  unfold Blk; simpa using heap_alloc_new w (.cells cs t)
theorem Blk.mod (h : Blk w g t cs) (hm : Mod M w w') (hn : ¬ M g) : Blk w' g t cs := (hm.block g h.lt hn).trans h
theorem Blk.ext (h : Blk w g t cs) (hm : Ext w w') : Blk w' g t cs := h.mod hm id
theorem Blk.set (h : Blk w g t cs) (i : Nat) (v : Value) : Blk (w.setCell ⟨g, i, none⟩ v) g t (cs.set i v) := by
  unfold Blk at h ⊢
  simp [World.setCell, Array.getElem?_modify, h]
end
theorem addr_add (g o n : Nat) : (⟨g, o, none⟩ : Addr).add n = ⟨g, o + n, none⟩ := by
  unfold Addr.add; split <;> simp_all
theorem add_add (a : Addr) (i j : Nat) : (a.add i).add j = a.add (i + j) := by
  unfold Addr.add
  by_cases hi : i = 0 <;> by_cases hj : j = 0 <;> simp [hi, hj, Nat.add_assoc]

/-! ### A slice that reads as a list of cells -/
def Cells (w : World) (A : Option Addr) (vs : List Value) : Prop := ∀ i v, vs[i]? = some v → ∃ a, A = some a ∧ w.cell? (a.add i) = some v
section
variable {w w' : World} {A : Option Addr} {vs : List Value} {M : Nat → Prop}
theorem Cells.nil (w : World) (A : Option Addr) : Cells w A [] := fun i v h => by simp at h
theorem Cells.mod (h : Cells w A vs) (hm : Mod M w w') (hn : ∀ a, A = some a → 0 < vs.length → ¬ M a.block) : Cells w' A vs := by
  intro i v hv
  obtain ⟨a, ha, hc⟩ := h i v hv
  refine ⟨a, ha, hm.cell hc ?_⟩
  rw [add_block]
  refine hn a ha ?_
  have := (List.getElem?_eq_some_iff.1 hv).1
  omega
theorem Cells.ext (h : Cells w A vs) (hm : Ext w w') : Cells w' A vs := h.mod hm fun _ _ _ => id
theorem Cells.at (h : Cells w A vs) {i : Nat} (hi : i < vs.length) : ∃ a, A = some a ∧ w.cell? (a.add i) = some vs[i] := h i _ (List.getElem?_eq_getElem hi)
theorem Cells.take (h : Cells w A vs) (n : Nat) : Cells w A (vs.take n) := by
  intro i v hv
  rw [List.getElem?_take] at hv
  split at hv
  · exact h i v hv
  · cases hv
theorem Cells.drop (h : Cells w A vs) (n : Nat) {c : Nat} (hc : vs.length ≤ c) (size : Nat) (hs : size = 1 ∨ n = 0) :
    Cells w (if c = n then A else A.map (·.add (n * size))) (vs.drop n) := by
  intro i v hv
  rw [List.getElem?_drop] at hv
  have hlt := (List.getElem?_eq_some_iff.1 hv).1
  obtain ⟨a, rfl, hcell⟩ := h _ v hv
  rw [if_neg (by omega)]
  refine ⟨a.add (n * size), rfl, ?_⟩
  rw [add_add]
  rcases hs with rfl | rfl
  · rw [Nat.mul_one]; exact hcell
  · rw [Nat.zero_mul]; exact hcell
theorem Cells.win (hb : Cells w A vs) {p k : Int} : Cells w (if k = 0 then A else A.map (·.add p.toNat)) ((vs.drop p.toNat).take k.toNat) := by
  by_cases hk0 : k = 0
  · subst hk0; simpa using Cells.nil w _
  · rw [if_neg hk0]
    have := (hb.drop p.toNat (c := p.toNat + 1 + vs.length) (by omega) 1 (.inl rfl)).take k.toNat
    rwa [if_neg (by omega), Nat.mul_one] at this
theorem Cells.of_blk {g : Nat} {t : TypeId} {cs : List Value} (h : Blk w g t cs) (o : Nat) : Cells w (some ⟨g, o, none⟩) (cs.drop o) := by
  intro i v hv
  refine ⟨_, rfl, ?_⟩
  rw [addr_add, h.cell]
  rwa [List.getElem?_drop] at hv
theorem Cells.lt (h : Cells w A vs) (hp : 0 < vs.length) {a : Addr} (ha : A = some a) : a.block < w.heap.size := by
  obtain ⟨a', ha', hc⟩ := h.at hp
  rw [ha] at ha'
  cases ha'
  have := World.block_lt_of_cell? w _ hc
  rwa [add_block] at this
end

/-! ### How the small conditions are met -/
section
variable {w w' : World}
theorem IdxVC.of {A : Option Addr} {vs : List Value} {n : Nat} {i : Int} {F : Addr → Prop} (h : Cells w A vs) (h0 : 0 ≤ i) (h1 : i < n) (hl : vs.length = n)
    (hF : ∀ a, A = some a → w.cell? (a.add (i.toNat * 1)) = some (vs[i.toNat]'(by omega)) → F (a.add (i.toNat * 1))) : IdxVC A n 1 i F := by
  obtain ⟨a, ha, hc⟩ := h.at (i := i.toNat) (by omega)
  exact ⟨a, ha, h0, h1, hF a ha (by rw [Nat.mul_one]; exact hc)⟩
theorem IdxVC.int {A : Option Addr} {k : IntKind} {xs : List Int} {n : Nat} {i : Int} {F : Addr → Prop} (h : Cells w A (xs.map (.int k))) (h0 : 0 ≤ i) (h1 : i < n) (hl : xs.length = n)
    (hF : ∀ a, w.cell? a = some (.int k (xs.getD i.toNat 0)) → F a) : IdxVC A n 1 i F := by
  refine IdxVC.of h h0 h1 (by simpa using hl) fun a _ hc => hF _ ?_
  rw [hc]
  have hlt : i.toNat < xs.length := by omega
  simp [hlt]
theorem getD_cast (l : List Int) (i : Nat) (h : i < l.length) : l.getD ((i : Nat) : Int).toNat 0 = l[i] := by
  rw [Int.toNat_natCast]; simp [h]
theorem NewVC.of {o : Obj} {F : Nat → World → Prop} (h : ∀ g w', g = w.heap.size → Ext w w' → w' = w.alloc o → F g w') : NewVC w o F :=
  fun g w' hg hw => h g w' hg (by subst hw; exact Ext.alloc w o) hw
/-- A new block, as one that is known whole. -/
theorem NewVC.blk {cs : Array Value} {t : TypeId} {F : Nat → World → Prop} (h : ∀ g w', g = w.heap.size → w'.heap.size = w.heap.size + 1 → Ext w w' → Blk w' g t cs.toList → F g w') : NewVC w (.cells cs t) F :=
  fun g w' hg hw => h g w' hg (by subst hw; simp) (by subst hw; exact Ext.alloc w _) (by subst hw; subst hg; exact Blk.new w t cs)
theorem SetVC.blk {g : Nat} {t : TypeId} {cs : List Value} {i : Nat} {v : Value} {F : World → Prop} (hb : Blk w g t cs) (hi : i < cs.length)
    (h : ∀ w', w'.heap.size = w.heap.size → Mod (fun k => k = g) w w' → Blk w' g t (cs.set i v) → F w') : SetVC w ⟨g, i, none⟩ v F :=
  ⟨⟨cs[i], by rw [hb.cell, List.getElem?_eq_getElem hi]⟩, hb.frozen i, fun w' hw => h w' (by subst hw; simp) (by subst hw; exact Mod.setCell w ⟨g, i, none⟩ v) (by subst hw; exact hb.set i v)⟩
/-- A call by its contract. -/
theorem Calls.by {P : Program} {f : FuncId} {args : Array Value} {R R' : Ending → World → Prop} (c : Calls P f args w R) (h : ∀ e w', R e w' → R' e w') : Calls P f args w R' := c.mono h
theorem LoopVC.of {S : Type} {body : S → World → (S → World → Prop) → Prop} {s : S} {w : World} (I : S → World → Prop) (μ : S → World → Nat) (h0 : I s w)
    (h : ∀ s w, I s w → body s w fun s' w' => I s' w' ∧ μ s' w' < μ s w) : LoopVC body s w := ⟨I, μ, h0, h⟩
theorem JoinVC.of {S : Type} {A : (S → World → Prop) → Prop} {B : S → World → Prop} (J : S → World → Prop) (hA : A J) (hB : ∀ s w, J s w → B s w) : JoinVC A B := ⟨J, hA, hB⟩
end

/-! ### Whole numbers -/
theorem w64 {n : Int} (h : -9223372036854775808 ≤ n) (h' : n ≤ 9223372036854775807) : IntKind.i64.wrap n = n := by
  rw [IntKind.wrap_i64]; omega
theorem wu64 {n : Int} (h : 0 ≤ n) (h' : n < 18446744073709551616) : IntKind.u64.wrap n = n := by
  unfold IntKind.wrap; simp [IntKind.bits, IntKind.signed]; omega
theorem wu8 {n : Int} (h : 0 ≤ n) (h' : n < 256) : IntKind.u8.wrap n = n := by
  unfold IntKind.wrap; simp [IntKind.bits, IntKind.signed]; omega
theorem u8_eq (n : Int) : IntKind.u8.wrap n = n % 256 := by
  unfold IntKind.wrap; simp [IntKind.bits, IntKind.signed]
theorem u64_eq (n : Int) : IntKind.u64.wrap n = n % 18446744073709551616 := by
  unfold IntKind.wrap; simp [IntKind.bits, IntKind.signed]
end Go.Eng
namespace Go.Eng
open Go Go.RowKit
/-! ### Rows of the call's own, and append -/
theorem ints_one (k : IntKind) (l : List Int) : ∀ u ∈ l.map (Value.int k), u.oneCell' = true := by
  intro u hu
  obtain ⟨x, _, rfl⟩ := List.mem_map.1 hu
  rfl
section
variable {P : Program} {w : World} {base e size n : Nat} {v : Value} {xs : List Value}
/-- What an owned row's value looks like. -/
theorem own_form (h : w.ownsRow base e size v n xs) : ∃ A c, v = .slice A n c ∧ n ≤ c ∧ (n = 0 ∨ ∃ g, A = some ⟨g, 0, none⟩ ∧ base ≤ g ∧ g < w.heap.size) ∧ (∀ g, v.ownBlock = some g → A = some ⟨g, 0, none⟩) := by
  rcases h.2 with ⟨rfl, rfl⟩ | ⟨g, cap, cur, rfl, hb, hg, hc, _⟩
  · exact ⟨none, 0, rfl, Nat.le_refl _, .inl rfl, by simp [Value.ownBlock]⟩
  · refine ⟨_, cap, rfl, hc, .inr ⟨g, rfl, hb, (Array.getElem?_eq_some_iff.1 hg).1⟩, ?_⟩
    intro g' hg'
    simp [Value.ownBlock] at hg'
    subst hg'
    rfl
theorem own_cells {A : Option Addr} {c : Nat} (h : w.ownsRow base e size (.slice A n c) n xs) : Cells w A xs := by
  intro i u hu
  rcases h.2 with ⟨hv, rfl⟩ | ⟨g, cap, cur, hv, hb, hg, hc, hm, hs, ht⟩
  · have := h.1
    simp at this
    subst this
    simp at hu
  · injection hv with hA _ _
    subst hA
    exact ⟨_, rfl, h.cells (g := g) (by simp [Value.ownBlock]) i u hu⟩
theorem own_new {t : TypeId} (h : w.ownsRow base t size v n xs) : ∀ g, v.ownBlock = some g → base ≤ g := fun g hg => (h.lt g hg).1
theorem own_mod {M : Nat → Prop} {w' : World} (h : w.ownsRow base e size v n xs) (hm : Mod M w w') (hn : ∀ g, v.ownBlock = some g → ¬ M g) : w'.ownsRow base e size v n xs := by
  refine ⟨h.1, ?_⟩
  rcases h.2 with h2 | ⟨g, cap, cur, rfl, hb, hg, r⟩
  · exact .inl h2
  · exact .inr ⟨g, cap, cur, rfl, hb, (hm.block g (Array.getElem?_eq_some_iff.1 hg).1 (hn g (by simp [Value.ownBlock]))).trans hg, r⟩
theorem own_ext {w' : World} (h : w.ownsRow base e size v n xs) (hm : Ext w w') : w'.ownsRow base e size v n xs := own_mod h hm fun _ _ => id
theorem own_base {base' : Nat} (h : w.ownsRow base e size v n xs) (hb : base' ≤ base) : w.ownsRow base' e size v n xs := by
  refine ⟨h.1, ?_⟩
  rcases h.2 with h2 | ⟨g, cap, cur, rfl, hg, r⟩
  · exact .inl h2
  · exact .inr ⟨g, cap, cur, rfl, by omega, r⟩

/-- append onto a row of the call's own; the source may be nil, empty or not. -/
theorem AppVC.own {t ty : TypeId} {i : TypeInfo} {z : Value} {bytes : Nat} (ht : P.underlying t = some (.slice e)) (hi : P.info? e = some i) (hz : i.zero = some z)
    (hsize : i.size = size) (hby : i.bytes = bytes) (hzs : z.cells.size = size) (hsz : 0 < size)
    {A A' : Option Addr} {c m c' : Nat} {news : List Value} {F : Option Addr → Nat → Nat → World → Prop}
    (hown : w.ownsRow base e size (.slice A n c) n xs) (hsrc : Cells w A' news) (hl : news.length = m * size) (h1 : ∀ u ∈ news, u.oneCell' = true)
    (hbytes : (n + m) * bytes ≤ 140737488355328) (hb0 : 0 < bytes) (hbase : base ≤ w.heap.size)
    (h : ∀ A2 c2 w', w'.ownsRow base e size (.slice A2 (n + m) c2) (n + m) (xs ++ news) → Mod (fun k => some k = (Value.slice A n c).ownBlock) w w' → n + m ≤ c2 → F A2 (n + m) c2 w') :
    AppVC P #[t, t] ty (.slice A n c) (.slice A' m c') w F := by
  have h63 : n + m ≤ maxLen := by
    have : (n + m) * 1 ≤ (n + m) * bytes := Nat.mul_le_mul_left _ hb0
    simp only [maxLen]; omega
  rcases A' with _ | ad
  · have hm : news = [] := by
      rcases news with _ | ⟨u, r⟩
      · rfl
      · obtain ⟨a, ha, _⟩ := hsrc 0 u rfl
        cases ha
    subst hm
    have hm0 : m = 0 := by
      rcases Nat.mul_eq_zero.1 (by simpa using hl.symm : m * size = 0) with h | h
      · exact h
      · omega
    subst hm0
    have hrun : (Builtin.append_ #[t, t] ty #[.slice A n c, .slice none 0 c']).run P w = .ok (.slice A n c) w := by
      rcases hown.2 with ⟨hv, rfl⟩ | ⟨g, cap, cur, hv, _, _, hnc, _⟩
      · injection hv with hA _ hc; subst hA; subst hc
        simp [Builtin.append_, run_underlying ht, sizeOf, typeInfo, hi, Builtin.lenOf, Builtin.firstCells]
      · injection hv with hA _ hc; subst hA; subst hc
        simp [Builtin.append_, run_underlying ht, sizeOf, typeInfo, hi, Builtin.lenOf, Builtin.firstCells, hnc, storeCells]
    obtain ⟨_, _, hv, hnc, _⟩ := own_form hown
    injection hv with _ _ hc
    subst hc
    exact ⟨A, n, c, w, hrun, h A c w (by simpa using hown) (Mod.refl _ w) (by omega)⟩
  · have hcells : ∀ j u, news[j]? = some u → w.cell? (ad.add j) = some u := by
      intro j u hu
      obtain ⟨a, ha, hc⟩ := hsrc j u hu
      cases ha; exact hc
    obtain ⟨v', w', hr, h2, h3, _⟩ := run_append_own (P := P) w base t ty e i z size bytes ht hi hz hsize hby hzs hsz (.slice A n c) n xs hown ad m c' news hl hcells h1 h63 hbytes hbase
    obtain ⟨A2, c2, rfl, hc2, _⟩ := own_form h2
    exact ⟨A2, n + m, c2, w', hr, h A2 c2 w' h2 (Mod.grown h3) hc2⟩
end
/-- A program's row of the table, in parts. -/
def TypeIs (P : Program) (e : TypeId) (z : Value) (size bytes : Nat) : Prop := ∃ i, P.info? e = some i ∧ i.zero = some z ∧ i.size = size ∧ i.bytes = bytes
theorem TypeIs.of {P : Program} {e : TypeId} {z : Value} {size bytes : Nat} (h : (P.info? e).map (fun i => (i.zero, i.size, i.bytes)) = some (some z, size, bytes)) : TypeIs P e z size bytes := by
  cases hi : P.info? e with
  | none => simp [hi] at h
  | some i => simp [hi] at h; exact ⟨i, hi, h.1, h.2.1, h.2.2⟩

/-! ### Bytes as a text -/
def toBytes (l : List Int) : List UInt8 := l.map fun n => UInt8.ofNat n.toNat
theorem StrVC.of {P : Program} {w : World} {A : Option Addr} {c : Nat} {bs : List Int} {F : ByteArray → Prop} (h : Cells w A (bs.map (.int .u8))) (hF : F ⟨(toBytes bs).toArray⟩) :
    StrVC P (.slice A bs.length c) w F := by
  refine ⟨_, ?_, hF⟩
  rcases A with _ | a
  · have : bs = [] := by
      rcases bs with _ | ⟨x, r⟩
      · rfl
      · obtain ⟨_, h, _⟩ := h 0 (.int .u8 x) (by simp)
        cases h
    subst this
    rfl
  · have hl : (loadCells a bs.length).run P w = .ok (bs.map (Value.int .u8)).toArray w := by
      have := run_loadCells_list (P := P) (w := w) a (bs.map (Value.int .u8)) (fun j v hv => by
        obtain ⟨a', ha, hc⟩ := h j v hv
        cases ha; exact hc)
      simpa using this
    rw [run_bytesToString w a _ c bs hl, foldl_push_bytes]
    simp [toBytes, ByteArray.empty, ByteArray.emptyWithCapacity]
    rfl
theorem toBytes_inj : ∀ {a b : List Int}, (∀ x ∈ a, 0 ≤ x ∧ x < 256) → (∀ x ∈ b, 0 ≤ x ∧ x < 256) → (toBytes a == toBytes b) = decide (a = b)
  | [], [], _, _ => rfl
  | [], y :: b, _, _ => by simp [toBytes]
  | x :: a, [], _, _ => by simp [toBytes]
  | x :: a, y :: b, ha, hb => by
    have ih := toBytes_inj (a := a) (b := b) (fun z hz => ha z (by simp [hz])) (fun z hz => hb z (by simp [hz]))
    have hx := ha x (by simp)
    have hy := hb y (by simp)
    have e1 : (UInt8.ofNat x.toNat == UInt8.ofNat y.toNat) = decide (x = y) := by
      rw [Bool.eq_iff_iff]
      simp only [beq_iff_eq, decide_eq_true_eq]
      constructor
      · intro h
        have := congrArg UInt8.toNat h
        simp at this
        omega
      · rintro rfl; rfl
    simp only [toBytes, List.map_cons, List.cons_beq_cons] at ih ⊢
    rw [e1, ih]
    simp [Bool.decide_and]
theorem str_eq (a b : List Int) (ha : ∀ x ∈ a, 0 ≤ x ∧ x < 256) (hb : ∀ x ∈ b, 0 ≤ x ∧ x < 256) :
    ((⟨(toBytes a).toArray⟩ : ByteArray).toList == (⟨(toBytes b).toArray⟩ : ByteArray).toList) = decide (a = b) := by
  rw [ByteArray.toList_mk, ByteArray.toList_mk]; exact toBytes_inj ha hb
end Go.Eng
