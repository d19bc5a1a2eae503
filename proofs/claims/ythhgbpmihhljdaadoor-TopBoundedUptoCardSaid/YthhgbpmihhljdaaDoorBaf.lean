/- Words for memory over the engine's conditions: slices that read as lists, blocks known whole, what a step leaves alone; and how each small condition is met. It speaks of any program. -/
import Derived.Test.YthhgbpmihhljdaaDoorBae
import Derived.Maps.AppendAt
import Derived.ArgAppend
namespace Go.Eng
open Go Go.RowKit

/-! ### What a step leaves alone -/
/-- But for the blocks of M, what was there is as it was. -/
structure Mod (M : Nat → Prop) (w w' : World) : Prop where
  os : w'.os = w.os
  tape : w'.tape = w.tape
  output : w'.output = w.output
  size : w.heap.size ≤ w'.heap.size
  block : ∀ k, k < w.heap.size → ¬ M k → w'.heap[k]? = w.heap[k]?
def None : Nat → Prop := fun _ => False
abbrev Ext (w w' : World) : Prop := Mod None w w'
section
variable {M M' : Nat → Prop} {w w' w'' : World}
theorem Mod.refl (M : Nat → Prop) (w : World) : Mod M w w := ⟨rfl, rfl, rfl, Nat.le_refl _, fun _ _ _ => rfl⟩
theorem Mod.trans' (h : Mod M w w') (k : Mod M' w' w'') (hm : ∀ i, i < w.heap.size → M' i → M i) : Mod M w w'' :=
  ⟨k.os.trans h.os, k.tape.trans h.tape, k.output.trans h.output, Nat.le_trans h.size k.size, fun i hi hn =>
    (k.block i (Nat.lt_of_lt_of_le hi h.size) (fun e => hn (hm i hi e))).trans (h.block i hi hn)⟩
theorem Mod.trans (h : Mod M w w') (k : Mod M w' w'') : Mod M w w'' := h.trans' k fun _ _ e => e
theorem Mod.ext (h : Mod M w w') (k : Ext w' w'') : Mod M w w'' := h.trans' k fun _ _ e => e.elim
theorem Mod.mono (h : Mod M w w') (hm : ∀ i, i < w.heap.size → M i → M' i) : Mod M' w w' :=
  ⟨h.os, h.tape, h.output, h.size, fun i hi hn => h.block i hi fun e => hn (hm i hi e)⟩
theorem Ext.to (h : Ext w w') (M : Nat → Prop) : Mod M w w' := h.mono fun _ _ e => e.elim
theorem Mod.below (h : Ext w w') : Below w.heap.size w w' := ⟨h.os, h.tape, h.output, h.size, fun k hk => h.block k hk id⟩
theorem Ext.alloc (w : World) (o : Obj) : Ext w (w.alloc o) := ⟨rfl, rfl, rfl, by simp, fun k hk _ => Below.heap_alloc w o k hk⟩
theorem Ext.drew (w : World) : Ext w w.drew := ⟨rfl, rfl, rfl, Nat.le_refl _, fun _ _ _ => rfl⟩
theorem Mod.setCell (w : World) (a : Addr) (v : Value) : Mod (fun k => k = a.block) w (w.setCell a v) :=
  ⟨rfl, rfl, rfl, by simp, fun k _ hn => heap_setCell_other w a k v hn⟩
theorem Mod.grown {row : Option Nat} (h : w.grownBy w' row) : Mod (fun k => some k = row) w w' := ⟨h.os, h.tape, h.output, h.size, fun k hk hn => h.block k hk hn⟩
/-- A cell of a block that was left alone. -/
theorem Mod.cell (h : Mod M w w') {a : Addr} {v : Value} (hc : w.cell? a = some v) (hn : ¬ M a.block) : w'.cell? a = some v :=
  (World.cell?_of_block (h.block a.block (World.block_lt_of_cell? w a hc) hn)).trans hc
theorem Ext.cell (h : Ext w w') {a : Addr} {v : Value} (hc : w.cell? a = some v) : w'.cell? a = some v := Mod.cell h hc id
end

/-! ### A block known whole -/
def Blk (w : World) (g : Nat) (t : TypeId) (cs : List Value) : Prop := w.heap[g]? = some (.cells cs.toArray t (0, 0))
section
variable {w w' : World} {g : Nat} {t : TypeId} {cs : List Value} {M : Nat → Prop}
theorem Blk.lt (h : Blk w g t cs) : g < w.heap.size := by
  unfold Blk at h
  rcases Nat.lt_or_ge g w.heap.size with hlt | hge
  · exact hlt
  · rw [Array.getElem?_eq_none hge] at h; cases h
theorem Blk.cell (h : Blk w g t cs) (i : Nat) : w.cell? ⟨g, i, none⟩ = cs[i]? := by
  rw [cell_of_row w g i cs.toArray t (0, 0) h]; simp
theorem Blk.frozen (h : Blk w g t cs) (i : Nat) : w.frozen? ⟨g, i, none⟩ = false := frozen_of_row w g i cs.toArray t h
theorem Blk.new (w : World) (t : TypeId) (cs : Array Value) : Blk (w.alloc (.cells cs t)) w.heap.size t cs.toList := by
  unfold Blk; simpa using heap_alloc_new w (.cells cs t)
theorem Blk.mod (h : Blk w g t cs) (hm : Mod M w w') (hn : ¬ M g) : Blk w' g t cs := (hm.block g h.lt hn).trans h
theorem Blk.ext (h : Blk w g t cs) (hm : Ext w w') : Blk w' g t cs := h.mod hm id
theorem Blk.set (h : Blk w g t cs) (i : Nat) (v : Value) : Blk (w.setCell ⟨g, i, none⟩ v) g t (cs.set i v) := by
  unfold Blk at h ⊢
  simp [World.setCell, Array.getElem?_modify, h]
end
theorem addr_add (g o n : Nat) : (⟨g, o, none⟩ : Addr).add n = ⟨g, o + n, none⟩ := by
  unfold Addr.add; split <;> simp_all
theorem add_add (a : Addr) (i j : Nat) : (a.add i).add j = a.add (i + j) := by
  unfold Addr.add
  by_cases hi : i = 0 <;> by_cases hj : j = 0 <;> simp [hi, hj, Nat.add_assoc]

/-! ### A slice that reads as a list of cells -/
def Cells (w : World) (A : Option Addr) (vs : List Value) : Prop := ∀ i v, vs[i]? = some v → ∃ a, A = some a ∧ w.cell? (a.add i) = some v
section
variable {w w' : World} {A : Option Addr} {vs : List Value} {M : Nat → Prop}
theorem Cells.nil (w : World) (A : Option Addr) : Cells w A [] := fun i v h => by simp at h
theorem Cells.mod (h : Cells w A vs) (hm : Mod M w w') (hn : ∀ a, A = some a → 0 < vs.length → ¬ M a.block) : Cells w' A vs := by
  intro i v hv
  obtain ⟨a, ha, hc⟩ := h i v hv
  refine ⟨a, ha, hm.cell hc ?_⟩
  rw [add_block]
  refine hn a ha ?_
  have := (List.getElem?_eq_some_iff.1 hv).1
  omega
theorem Cells.ext (h : Cells w A vs) (hm : Ext w w') : Cells w' A vs := h.mod hm fun _ _ _ => id
theorem Cells.at (h : Cells w A vs) {i : Nat} (hi : i < vs.length) : ∃ a, A = some a ∧ w.cell? (a.add i) = some vs[i] := h i _ (List.getElem?_eq_getElem hi)
theorem Cells.take (h : Cells w A vs) (n : Nat) : Cells w A (vs.take n) := by
  intro i v hv
  rw [List.getElem?_take] at hv
  split at hv
  · exact h i v hv
  · cases hv
theorem Cells.drop (h : Cells w A vs) (n : Nat) {c : Nat} (hc : vs.length ≤ c) (size : Nat) (hs : size = 1 ∨ n = 0) :
    Cells w (if c = n then A else A.map (·.add (n * size))) (vs.drop n) := by
  intro i v hv
  rw [List.getElem?_drop] at hv
  have hlt := (List.getElem?_eq_some_iff.1 hv).1
  obtain ⟨a, rfl, hcell⟩ := h _ v hv
  rw [if_neg (by omega)]
  refine ⟨a.add (n * size), rfl, ?_⟩
  rw [add_add]
  rcases hs with rfl | rfl
  · rw [Nat.mul_one]; exact hcell
  · rw [Nat.zero_mul]; exact hcell
theorem Cells.win (hb : Cells w A vs) {p k : Int} : Cells w (if k = 0 then A else A.map (·.add p.toNat)) ((vs.drop p.toNat).take k.toNat) := by
  by_cases hk0 : k = 0
  · subst hk0; simpa using Cells.nil w _
  · rw [if_neg hk0]
    have := (hb.drop p.toNat (c := p.toNat + 1 + vs.length) (by omega) 1 (.inl rfl)).take k.toNat
    rwa [if_neg (by omega), Nat.mul_one] at this
theorem Cells.of_blk {g : Nat} {t : TypeId} {cs : List Value} (h : Blk w g t cs) (o : Nat) : Cells w (some ⟨g, o, none⟩) (cs.drop o) := by
  intro i v hv
  refine ⟨_, rfl, ?_⟩
  rw [addr_add, h.cell]
  rwa [List.getElem?_drop] at hv
theorem Cells.lt (h : Cells w A vs) (hp : 0 < vs.length) {a : Addr} (ha : A = some a) : a.block < w.heap.size := by
  obtain ⟨a', ha', hc⟩ := h.at hp
  rw [ha] at ha'
  cases ha'
  have := World.block_lt_of_cell? w _ hc
  rwa [add_block] at this
end

/-! ### How the small conditions are met -/
section
variable {w w' : World}
theorem IdxVC.of {A : Option Addr} {vs : List Value} {n : Nat} {i : Int} {F : Addr → Prop} (h : Cells w A vs) (h0 : 0 ≤ i) (h1 : i < n) (hl : vs.length = n)
    (hF : ∀ a, A = some a → w.cell? (a.add (i.toNat * 1)) = some (vs[i.toNat]'(by omega)) → F (a.add (i.toNat * 1))) : IdxVC A n 1 i F := by
  obtain ⟨a, ha, hc⟩ := h.at (i := i.toNat) (by omega)
  exact ⟨a, ha, h0, h1, hF a ha (by rw [Nat.mul_one]; exact hc)⟩
theorem IdxVC.int {A : Option Addr} {k : IntKind} {xs : List Int} {n : Nat} {i : Int} {F : Addr → Prop} (h : Cells w A (xs.map (.int k))) (h0 : 0 ≤ i) (h1 : i < n) (hl : xs.length = n)
    (hF : ∀ a, w.cell? a = some (.int k (xs.getD i.toNat 0)) → F a) : IdxVC A n 1 i F := by
  refine IdxVC.of h h0 h1 (by simpa using hl) fun a _ hc => hF _ ?_
  rw [hc]
  have hlt : i.toNat < xs.length := by omega
  simp [hlt]
theorem getD_cast (l : List Int) (i : Nat) (h : i < l.length) : l.getD ((i : Nat) : Int).toNat 0 = l[i] := by
  rw [Int.toNat_natCast]; simp [h]
theorem NewVC.of {o : Obj} {F : Nat → World → Prop} (h : ∀ g w', g = w.heap.size → Ext w w' → w' = w.alloc o → F g w') : NewVC w o F :=
  fun g w' hg hw => h g w' hg (by subst hw; exact Ext.alloc w o) hw
/-- A new block, as one that is known whole. -/
theorem NewVC.blk {cs : Array Value} {t : TypeId} {F : Nat → World → Prop} (h : ∀ g w', g = w.heap.size → w'.heap.size = w.heap.size + 1 → Ext w w' → Blk w' g t cs.toList → F g w') : NewVC w (.cells cs t) F :=
  fun g w' hg hw => h g w' hg (by subst hw; simp) (by subst hw; exact Ext.alloc w _) (by subst hw; subst hg; exact Blk.new w t cs)
theorem SetVC.blk {g : Nat} {t : TypeId} {cs : List Value} {i : Nat} {v : Value} {F : World → Prop} (hb : Blk w g t cs) (hi : i < cs.length)
    (h : ∀ w', w'.heap.size = w.heap.size → Mod (fun k => k = g) w w' → Blk w' g t (cs.set i v) → F w') : SetVC w ⟨g, i, none⟩ v F :=
  ⟨⟨cs[i], by rw [hb.cell, List.getElem?_eq_getElem hi]⟩, hb.frozen i, fun w' hw => h w' (by subst hw; simp) (by subst hw; exact Mod.setCell w ⟨g, i, none⟩ v) (by subst hw; exact hb.set i v)⟩
/-- A call by its contract. -/
theorem Calls.by {P : Program} {f : FuncId} {args : Array Value} {R R' : Ending → World → Prop} (c : Calls P f args w R) (h : ∀ e w', R e w' → R' e w') : Calls P f args w R' := c.mono h
theorem LoopVC.of {S : Type} {body : S → World → (S → World → Prop) → Prop} {s : S} {w : World} (I : S → World → Prop) (μ : S → World → Nat) (h0 : I s w)
    (h : ∀ s w, I s w → body s w fun s' w' => I s' w' ∧ μ s' w' < μ s w) : LoopVC body s w := ⟨I, μ, h0, h⟩
theorem JoinVC.of {S : Type} {A : (S → World → Prop) → Prop} {B : S → World → Prop} (J : S → World → Prop) (hA : A J) (hB : ∀ s w, J s w → B s w) : JoinVC A B := ⟨J, hA, hB⟩
end

/-! ### Whole numbers -/
theorem w64 {n : Int} (h : -9223372036854775808 ≤ n) (h' : n ≤ 9223372036854775807) : IntKind.i64.wrap n = n := by
  rw [IntKind.wrap_i64]; omega
theorem wu64 {n : Int} (h : 0 ≤ n) (h' : n < 18446744073709551616) : IntKind.u64.wrap n = n := by
  unfold IntKind.wrap; simp [IntKind.bits, IntKind.signed]; omega
theorem wu8 {n : Int} (h : 0 ≤ n) (h' : n < 256) : IntKind.u8.wrap n = n := by
  unfold IntKind.wrap; simp [IntKind.bits, IntKind.signed]; omega
theorem u8_eq (n : Int) : IntKind.u8.wrap n = n % 256 := by
  unfold IntKind.wrap; simp [IntKind.bits, IntKind.signed]
end Go.Eng
namespace Go.Eng
open Go Go.RowKit
/-! ### Rows of the call's own, and append -/
theorem ints_one (k : IntKind) (l : List Int) : ∀ u ∈ l.map (Value.int k), u.oneCell' = true := by
  intro u hu
  obtain ⟨x, _, rfl⟩ := List.mem_map.1 hu
  rfl
section
variable {P : Program} {w : World} {base e size n : Nat} {v : Value} {xs : List Value}
/-- What an owned row's value looks like. -/
theorem own_form (h : w.ownsRow base e size v n xs) : ∃ A c, v = .slice A n c ∧ n ≤ c ∧ (n = 0 ∨ ∃ g, A = some ⟨g, 0, none⟩ ∧ base ≤ g ∧ g < w.heap.size) ∧ (∀ g, v.ownBlock = some g → A = some ⟨g, 0, none⟩) := by
  rcases h.2 with ⟨rfl, rfl⟩ | ⟨g, cap, cur, rfl, hb, hg, hc, _⟩
  · exact ⟨none, 0, rfl, Nat.le_refl _, .inl rfl, by simp [Value.ownBlock]⟩
  · refine ⟨_, cap, rfl, hc, .inr ⟨g, rfl, hb, (Array.getElem?_eq_some_iff.1 hg).1⟩, ?_⟩
    intro g' hg'
    simp [Value.ownBlock] at hg'
    subst hg'
    rfl
theorem own_cells {A : Option Addr} {c : Nat} (h : w.ownsRow base e size (.slice A n c) n xs) : Cells w A xs := by
  intro i u hu
  rcases h.2 with ⟨hv, rfl⟩ | ⟨g, cap, cur, hv, hb, hg, hc, hm, hs, ht⟩
  · have := h.1
    simp at this
    subst this
    simp at hu
  · injection hv with hA _ _
    subst hA
    exact ⟨_, rfl, h.cells (g := g) (by simp [Value.ownBlock]) i u hu⟩
theorem own_new {t : TypeId} (h : w.ownsRow base t size v n xs) : ∀ g, v.ownBlock = some g → base ≤ g := fun g hg => (h.lt g hg).1
theorem own_mod {M : Nat → Prop} {w' : World} (h : w.ownsRow base e size v n xs) (hm : Mod M w w') (hn : ∀ g, v.ownBlock = some g → ¬ M g) : w'.ownsRow base e size v n xs := by
  refine ⟨h.1, ?_⟩
  rcases h.2 with h2 | ⟨g, cap, cur, rfl, hb, hg, r⟩
  · exact .inl h2
  · exact .inr ⟨g, cap, cur, rfl, hb, (hm.block g (Array.getElem?_eq_some_iff.1 hg).1 (hn g (by simp [Value.ownBlock]))).trans hg, r⟩
theorem own_ext {w' : World} (h : w.ownsRow base e size v n xs) (hm : Ext w w') : w'.ownsRow base e size v n xs := own_mod h hm fun _ _ => id
theorem own_base {base' : Nat} (h : w.ownsRow base e size v n xs) (hb : base' ≤ base) : w.ownsRow base' e size v n xs := by
  refine ⟨h.1, ?_⟩
  rcases h.2 with h2 | ⟨g, cap, cur, rfl, hg, r⟩
  · exact .inl h2
  · exact .inr ⟨g, cap, cur, rfl, by omega, r⟩

/-- append onto a row of the call's own; the source may be nil, empty or not. -/
theorem AppVC.own {t ty : TypeId} {i : TypeInfo} {z : Value} {bytes : Nat} (ht : P.underlying t = some (.slice e)) (hi : P.info? e = some i) (hz : i.zero = some z)
    (hsize : i.size = size) (hby : i.bytes = bytes) (hzs : z.cells.size = size) (hsz : 0 < size)
    {A A' : Option Addr} {c m c' : Nat} {news : List Value} {F : Option Addr → Nat → Nat → World → Prop}
    (hown : w.ownsRow base e size (.slice A n c) n xs) (hsrc : Cells w A' news) (hl : news.length = m * size) (h1 : ∀ u ∈ news, u.oneCell' = true)
    (hbytes : (n + m) * bytes ≤ 140737488355328) (hb0 : 0 < bytes) (hbase : base ≤ w.heap.size)
    (h : ∀ A2 c2 w', w'.ownsRow base e size (.slice A2 (n + m) c2) (n + m) (xs ++ news) → Mod (fun k => some k = (Value.slice A n c).ownBlock) w w' → n + m ≤ c2 → F A2 (n + m) c2 w') :
    AppVC P #[t, t] ty (.slice A n c) (.slice A' m c') w F := by
  have h63 : n + m ≤ maxLen := by
    have : (n + m) * 1 ≤ (n + m) * bytes := Nat.mul_le_mul_left _ hb0
    simp only [maxLen]; omega
  rcases A' with _ | ad
  · have hm : news = [] := by
      rcases news with _ | ⟨u, r⟩
      · rfl
      · obtain ⟨a, ha, _⟩ := hsrc 0 u rfl
        cases ha
    subst hm
    have hm0 : m = 0 := by
      rcases Nat.mul_eq_zero.1 (by simpa using hl.symm : m * size = 0) with h | h
      · exact h
      · omega
    subst hm0
    have hrun : (Builtin.append_ #[t, t] ty #[.slice A n c, .slice none 0 c']).run P w = .ok (.slice A n c) w := by
      rcases hown.2 with ⟨hv, rfl⟩ | ⟨g, cap, cur, hv, _, _, hnc, _⟩
      · injection hv with hA _ hc; subst hA; subst hc
        simp [Builtin.append_, run_underlying ht, sizeOf, typeInfo, hi, Builtin.lenOf, Builtin.firstCells]
      · injection hv with hA _ hc; subst hA; subst hc
        simp [Builtin.append_, run_underlying ht, sizeOf, typeInfo, hi, Builtin.lenOf, Builtin.firstCells, hnc, storeCells]
    obtain ⟨_, _, hv, hnc, _⟩ := own_form hown
    injection hv with _ _ hc
    subst hc
    exact ⟨A, n, c, w, hrun, h A c w (by simpa using hown) (Mod.refl _ w) (by omega)⟩
  · have hcells : ∀ j u, news[j]? = some u → w.cell? (ad.add j) = some u := by
      intro j u hu
      obtain ⟨a, ha, hc⟩ := hsrc j u hu
      cases ha; exact hc
    obtain ⟨v', w', hr, h2, h3, _⟩ := run_append_own (P := P) w base t ty e i z size bytes ht hi hz hsize hby hzs hsz (.slice A n c) n xs hown ad m c' news hl hcells h1 h63 hbytes hbase
    obtain ⟨A2, c2, rfl, hc2, _⟩ := own_form h2
    exact ⟨A2, n + m, c2, w', hr, h A2 c2 w' h2 (Mod.grown h3) hc2⟩
end
/-- A program's row of the table, in parts. -/
def TypeIs (P : Program) (e : TypeId) (z : Value) (size bytes : Nat) : Prop := ∃ i, P.info? e = some i ∧ i.zero = some z ∧ i.size = size ∧ i.bytes = bytes
theorem TypeIs.of {P : Program} {e : TypeId} {z : Value} {size bytes : Nat} (h : (P.info? e).map (fun i => (i.zero, i.size, i.bytes)) = some (some z, size, bytes)) : TypeIs P e z size bytes := by
  cases hi : P.info? e with
  | none => simp [hi] at h
  | some i => simp [hi] at h; exact ⟨i, hi, h.1, h.2.1, h.2.2⟩

/-! ### Bytes as a text -/
def toBytes (l : List Int) : List UInt8 := l.map fun n => UInt8.ofNat n.toNat
theorem StrVC.of {P : Program} {w : World} {A : Option Addr} {c : Nat} {bs : List Int} {F : ByteArray → Prop} (h : Cells w A (bs.map (.int .u8))) (hF : F ⟨(toBytes bs).toArray⟩) :
    StrVC P (.slice A bs.length c) w F := by
  refine ⟨_, ?_, hF⟩
  rcases A with _ | a
  · have : bs = [] := by
      rcases bs with _ | ⟨x, r⟩
      · rfl
      · obtain ⟨_, h, _⟩ := h 0 (.int .u8 x) (by simp)
        cases h
    subst this
    rfl
  · have hl : (loadCells a bs.length).run P w = .ok (bs.map (Value.int .u8)).toArray w := by
      have := run_loadCells_list (P := P) (w := w) a (bs.map (Value.int .u8)) (fun j v hv => by
        obtain ⟨a', ha, hc⟩ := h j v hv
        cases ha; exact hc)
      simpa using this
    rw [run_bytesToString w a _ c bs hl, foldl_push_bytes]
    simp [toBytes, ByteArray.empty, ByteArray.emptyWithCapacity]
    rfl
theorem toBytes_inj : ∀ {a b : List Int}, (∀ x ∈ a, 0 ≤ x ∧ x < 256) → (∀ x ∈ b, 0 ≤ x ∧ x < 256) → (toBytes a == toBytes b) = decide (a = b)
  | [], [], _, _ => rfl
  | [], y :: b, _, _ => by simp [toBytes]
  | x :: a, [], _, _ => by simp [toBytes]
  | x :: a, y :: b, ha, hb => by
    have ih := toBytes_inj (a := a) (b := b) (fun z hz => ha z (by simp [hz])) (fun z hz => hb z (by simp [hz]))
    have hx := ha x (by simp)
    have hy := hb y (by simp)
    have e1 : (UInt8.ofNat x.toNat == UInt8.ofNat y.toNat) = decide (x = y) := by
      rw [Bool.eq_iff_iff]
      simp only [beq_iff_eq, decide_eq_true_eq]
      constructor
      · intro h
        have := congrArg UInt8.toNat h
        simp at this
        omega
      · rintro rfl; rfl
    simp only [toBytes, List.map_cons, List.cons_beq_cons] at ih ⊢
    rw [e1, ih]
    simp [Bool.decide_and]
theorem str_eq (a b : List Int) (ha : ∀ x ∈ a, 0 ≤ x ∧ x < 256) (hb : ∀ x ∈ b, 0 ≤ x ∧ x < 256) :
    ((⟨(toBytes a).toArray⟩ : ByteArray).toList == (⟨(toBytes b).toArray⟩ : ByteArray).toList) = decide (a = b) := by
  rw [ByteArray.toList_mk, ByteArray.toList_mk]; exact toBytes_inj ha hb
end Go.Eng
/- General words over memory for laws of any program: rows of the call's own, lists of slices, append. -/
namespace Go.Eng
open Go Go.RowKit
theorem IdxVC.draw {A : Option Addr} {k : IntKind} {xs : List Int} {n : Nat} {i : Int} {F : Addr → Prop} {S : World → Prop} {w : World} (hw : S w) (hS : ∀ w', S w' → Cells w' A (xs.map (.int k))) (h0 : 0 ≤ i) (h1 : i < n) (hl : xs.length = n)
    (hF : ∀ a, (∀ w', S w' → w'.cell? a = some (.int k (xs.getD i.toNat 0))) → F a) : IdxVC A n 1 i F := by
  have hlt : i.toNat < xs.length := by omega
  obtain ⟨a, ha, _⟩ := (hS w hw).at (i := i.toNat) (by simpa using hlt)
  refine ⟨a, ha, h0, h1, hF _ fun w' hw' => ?_⟩
  obtain ⟨a', ha', hc⟩ := (hS w' hw').at (i := i.toNat) (by simpa using hlt)
  rw [ha] at ha'; cases ha'
  rw [Nat.mul_one, hc]; simp [hlt]
section
variable {P : Program} {w : World} {base e n : Nat} {xs : List Value}
theorem AppVC.one {t ty : TypeId} {z : Value} {bytes : Nat} (ht : P.underlying t = some (.slice e)) (hi : TypeIs P e z 1 bytes) (hzs : z.cells.size = 1)
    {A : Option Addr} {c : Nat} {u : Value} {F : Option Addr → Nat → Nat → World → Prop}
    (hown : w.ownsRow base e 1 (.slice A n c) n xs) (h1 : u.oneCell' = true) (hbytes : (n + 1) * bytes ≤ 140737488355328) (hb0 : 0 < bytes) (hbase : base ≤ w.heap.size)
    (h : ∀ A2 c2 w', w'.ownsRow base e 1 (.slice A2 (n + 1) c2) (n + 1) (xs ++ [u]) → Mod (fun k => some k = (Value.slice A n c).ownBlock) w w' → n + 1 ≤ c2 → F A2 (n + 1) c2 w') :
    NewVC w (.cells #[u] e) fun g w1 => AppVC P #[t, t] ty (.slice A n c) (.slice (some ⟨g, 0, none⟩) 1 1) w1 F := by
  obtain ⟨i, hi, hz, hs, hy⟩ := hi
  refine NewVC.blk fun g w1 hg hz1 hE1 hb1 => ?_
  refine AppVC.own ht hi hz hs hy hzs (by decide) (own_ext hown hE1) (by simpa using Cells.of_blk hb1 0) rfl (by simpa using h1) hbytes hb0 (by omega) fun A2 c2 w2 hown2 hm2 hc2 => ?_
  exact h A2 c2 w2 hown2 ((hE1.to _).trans hm2) hc2
end
theorem Ext.own {w0 w w' : World} {e size : Nat} {v : Value} {n : Nat} {xs : List Value} (hE : Ext w0 w) (hown : w.ownsRow w0.heap.size e size v n xs) (hm : Mod (fun k => some k = v.ownBlock) w w') : Ext w0 w' :=
  hE.trans' hm fun k hk e => by have := own_new hown k e.symm; omega
theorem Ext.set {w0 w w' : World} {g : Nat} (hE : Ext w0 w) (hm : Mod (fun k => k = g) w w') (hg : w0.heap.size ≤ g) : Ext w0 w' :=
  hE.trans' hm fun k hk e => by omega
theorem CellsAt.of {w : World} {a : Addr} : ∀ (cs : List Value) (i : Nat), (∀ j v, cs[j]? = some v → w.cell? (a.add (i + j)) = some v) → CellsAt w a i cs
  | [], _, _ => trivial
  | v :: r, i, h => ⟨by simpa using h 0 v rfl, CellsAt.of r (i + 1) fun j u hu => by
      have := h (j + 1) u (by simpa using hu)
      rwa [show i + 1 + j = i + (j + 1) by omega]⟩
theorem CellsAt.blk {w : World} {g : Nat} {t : TypeId} {cs : List Value} (h : Blk w g t cs) : CellsAt w ⟨g, 0, none⟩ 0 cs :=
  CellsAt.of cs 0 fun j v hv => by rw [addr_add, h.cell]; simpa using hv
def Recs (w : World) (A : Option Addr) (size : Nat) (rs : List (List Value)) : Prop := ∀ i cs, rs[i]? = some cs → ∃ a, A = some a ∧ CellsAt w (a.add (i * size)) 0 cs
theorem CellsAt.ext {w w' : World} {a : Addr} (hE : Ext w w') : ∀ {cs : List Value} {i : Nat}, CellsAt w a i cs → CellsAt w' a i cs
  | [], _, _ => trivial
  | _ :: _, _, h => ⟨Ext.cell hE h.1, CellsAt.ext hE h.2⟩
theorem Recs.ext {w w' : World} {A : Option Addr} {size : Nat} {rs : List (List Value)} (h : Recs w A size rs) (hE : Ext w w') : Recs w' A size rs := fun i cs hi => by
  obtain ⟨a, ha, hc⟩ := h i cs hi
  exact ⟨a, ha, hc.ext hE⟩
theorem IdxVC.rec {w : World} {A : Option Addr} {size n : Nat} {rs : List (List Value)} {i : Int} {F : Addr → Prop} (h : Recs w A size rs) (h0 : 0 ≤ i) (h1 : i < n) (hl : rs.length = n)
    (hF : ∀ a, CellsAt w a 0 (rs.getD i.toNat []) → F a) : IdxVC A n size i F := by
  have hlt : i.toNat < rs.length := by omega
  obtain ⟨a, ha, hc⟩ := h i.toNat _ (List.getElem?_eq_getElem hlt)
  refine ⟨a, ha, h0, h1, hF _ ?_⟩
  simpa [List.getD, hlt] using hc
theorem add_zero (a : Addr) : a.add 0 = a := by simp [Addr.add]
theorem Mod.to {w w' : World} (h : Mod None w w') (M : Nat → Prop) : Mod M w w' := Ext.to h M
section
variable {w w' : World} {base e n c : Nat} {A : Option Addr} {xs : List Value}
theorem IdxVC.own {m : Nat} {i : Int} {F : Addr → Prop} (hown : w.ownsRow base e 1 (.slice A n c) n xs) (h0 : 0 ≤ i) (h1 : i < n) (h2 : i < m)
    (hF : ∀ a, w.cell? a = xs[i.toNat]? → (∀ v K, v.oneCell' = true → (∀ w', w'.heap.size = w.heap.size → Mod (fun k => some k = (Value.slice A n c).ownBlock) w w' → w'.ownsRow base e 1 (.slice A n c) n (xs.set i.toNat v) → K w') → SetVC w a v K) → F a) :
    IdxVC A m 1 i F := by
  have hl := hown.1
  rcases hown.2 with ⟨hv, h0'⟩ | ⟨g, cap, cur, hv, hb, hg, hc, hm, hs, ht⟩
  · omega
  · injection hv with hA _ hcap
    subst hA; subst hcap
    have hcur : i.toNat < cur.size := by omega
    have hcell : w.cell? ⟨g, i.toNat, none⟩ = some cur[i.toNat] := by
      rw [cell_of_row w g i.toNat cur e (0, 0) hg]; simp [hcur]
    have hx : xs[i.toNat]? = some cur[i.toNat] := by
      rw [← ht, List.getElem?_take, if_pos (by omega)]; simp [hcur]
    refine ⟨_, rfl, h0, h2, ?_⟩
    rw [addr_add, Nat.zero_add, Nat.mul_one]
    refine hF _ (hcell.trans hx.symm) fun v K hv1 hK => ?_
    refine ⟨⟨_, hcell⟩, frozen_of_row w g i.toNat cur e hg, fun w' hw' => hK w' (by subst hw'; simp) ?_ ?_⟩
    · subst hw'
      exact (Mod.setCell w ⟨g, i.toNat, none⟩ v).mono fun k _ hk => by simp [Value.ownBlock]; exact hk
    · refine ⟨by simpa using hl, .inr ⟨g, c, cur.set! i.toNat v, rfl, hb, ?_, hc, hm, by simpa using hs, ?_⟩⟩
      · subst hw'
        simp [World.setCell, Array.getElem?_modify, hg]
      · rw [← ht]
        simp [List.take_set]
end
section
variable {P : Program} {w w' : World} {base e n c : Nat} {A : Option Addr} {xs : List Value}
end
section
variable {P : Program} {w w' : World} {base e n c : Nat} {A : Option Addr} {xs : List Value}
end
section
variable {P : Program} {w w' : World} {base e n c : Nat} {A : Option Addr} {xs : List Value}
end
theorem Mod.set {w0 w w' : World} {g : Nat} (hE : Mod None w0 w) (hm : Mod (fun k => k = g) w w') (hg : w0.heap.size ≤ g) : Ext w0 w' := Ext.set hE hm hg
section
variable {P : Program} {w : World} {base e n : Nat} {xs : List Value}
theorem AppVC.at {t ty : TypeId} {z : Value} {bytes : Nat} (ht : P.underlying t = some (.slice e)) (hi : TypeIs P e z 1 bytes) (hzs : z.cells.size = 1)
    {A A' : Option Addr} {c m c' : Nat} {news : List Value} {F : Option Addr → Nat → Nat → World → Prop}
    (hown : w.ownsRow base e 1 (.slice A n c) n xs) (hsrc : Cells w A' news) (hl : news.length = m) (h1 : ∀ u ∈ news, u.oneCell' = true)
    (hbytes : (n + m) * bytes ≤ 140737488355328) (hb0 : 0 < bytes) (hbase : base ≤ w.heap.size)
    (h : ∀ A2 c2 w', w'.ownsRow base e 1 (.slice A2 (n + m) c2) (n + m) (xs ++ news) → Mod (fun k => some k = (Value.slice A n c).ownBlock) w w' → n + m ≤ c2 →
      (∀ k, some k = (Value.slice A2 (n + m) c2).ownBlock → some k = (Value.slice A n c).ownBlock ∨ w.heap.size ≤ k) → F A2 (n + m) c2 w') :
    AppVC P #[t, t] ty (.slice A n c) (.slice A' m c') w F := by
  obtain ⟨i, hi, hz, hs, hy⟩ := hi
  have h63 : n + m ≤ maxLen := by
    have : (n + m) * 1 ≤ (n + m) * bytes := Nat.mul_le_mul_left _ hb0
    simp only [maxLen]; omega
  rcases A' with _ | ad
  · have hm : news = [] := by
      rcases news with _ | ⟨u, r⟩
      · rfl
      · obtain ⟨a, ha, _⟩ := hsrc 0 u rfl
        cases ha
    subst hm
    have hm0 : m = 0 := by simpa using hl.symm
    subst hm0
    have hrun : (Builtin.append_ #[t, t] ty #[.slice A n c, .slice none 0 c']).run P w = .ok (.slice A n c) w := by
      rcases hown.2 with ⟨hv, rfl⟩ | ⟨g, cap, cur, hv, _, _, hnc, _⟩
      · injection hv with hA _ hc; subst hA; subst hc
        simp [Builtin.append_, run_underlying ht, sizeOf, typeInfo, hi, Builtin.lenOf, Builtin.firstCells]
      · injection hv with hA _ hc; subst hA; subst hc
        simp [Builtin.append_, run_underlying ht, sizeOf, typeInfo, hi, Builtin.lenOf, Builtin.firstCells, hnc, storeCells]
    obtain ⟨_, _, hv, hnc, _⟩ := own_form hown
    injection hv with _ _ hc
    subst hc
    exact ⟨A, n, c, w, hrun, h A c w (by simpa using hown) (Mod.refl _ w) (by omega) fun k hk => .inl hk⟩
  · obtain ⟨v', w', hr, h2, h3, _, hat⟩ := run_append_own_at (P := P) w base t ty e i z 1 bytes ht hi hz hs hy hzs (by decide) (.slice A n c) n xs hown ad m c' news (by omega)
      (fun j u hu => by obtain ⟨a, ha, hc⟩ := hsrc j u hu; cases ha; exact hc) h1 h63 hbytes hbase
    obtain ⟨A2, c2, rfl, hc2, _⟩ := own_form h2
    refine ⟨A2, n + m, c2, w', hr, h A2 c2 w' h2 (Mod.grown h3) hc2 fun k hk => ?_⟩
    rcases hat with e | e
    · exact .inl (hk.trans e)
    · rw [e] at hk; injection hk with hk; exact .inr (by omega)
end
theorem DrawVC.of {w : World} {B : (World → Prop) → World → Prop} (S : World → Prop) (h : ∀ w', Ext w w' → w'.heap.size = w.heap.size → S w' ∧ B S w') : DrawVC w B := fun w' hw => by
  subst hw
  exact ⟨S, h _ (Ext.drew w) rfl⟩
section
variable {P : Program} {base e n c : Nat} {xs : List Value}
theorem own_setCells {g : Nat} : ∀ (vs : List Value) (o : Nat) (w : World), w.ownsRow base e 1 (.slice (some ⟨g, 0, none⟩) n c) n xs → n ≤ o → o + vs.length ≤ c →
    (w.setCells g o vs).ownsRow base e 1 (.slice (some ⟨g, 0, none⟩) n c) n xs ∧ Mod (fun k => k = g) w (w.setCells g o vs) ∧ (w.setCells g o vs).heap.size = w.heap.size
  | [], o, w, h, _, _ => ⟨h, Mod.refl _ _, rfl⟩
  | v :: r, o, w, h, ho, hc => by
    simp only [List.length_cons] at hc
    have h2 : (w.setCell ⟨g, o, none⟩ v).ownsRow base e 1 (.slice (some ⟨g, 0, none⟩) n c) n xs := by
      refine ⟨h.1, ?_⟩
      rcases h.2 with ⟨hv, _⟩ | ⟨g', cap, cur, hv, hb, hg, hnc, hm, hs, ht⟩
      · cases hv
      · injection hv with hA _ hcap
        injection hA with hA
        injection hA with hA
        subst hA; subst hcap
        refine .inr ⟨g, c, cur.set! o v, rfl, hb, ?_, hnc, hm, by simpa using hs, ?_⟩
        · simp [World.setCell, Array.getElem?_modify, hg]
        · rw [← ht]
          simp [List.take_set, List.set_eq_of_length_le, show min n cur.size ≤ o by omega]
    obtain ⟨h3, hm, hz⟩ := own_setCells r (o + 1) (w.setCell ⟨g, o, none⟩ v) h2 (by omega) (by omega)
    refine ⟨h3, (Mod.setCell w ⟨g, o, none⟩ v).trans hm, ?_⟩
    show ((w.setCell ⟨g, o, none⟩ v).setCells g (o + 1) r).heap.size = _
    rw [hz]; simp
end
section
variable {P : Program} {base e n c : Nat} {xs : List Value}
theorem AppVC.keep {w : World} {t ty : TypeId} {z : Value} {bytes : Nat} (ht : P.underlying t = some (.slice e)) (hi : TypeIs P e z 1 bytes) (hzs : z.cells.size = 1)
    {A A' : Option Addr} {m c' : Nat} {news : List Value} {F : Option Addr → Nat → Nat → World → Prop}
    (hown : w.ownsRow base e 1 (.slice A n c) n xs) (hsrc : Cells w A' news) (hl : news.length = m) (h0 : 0 < m) (h1 : ∀ u ∈ news, u.oneCell' = true)
    (hbytes : (n + m) * bytes ≤ 140737488355328) (hb0 : 0 < bytes)
    (h : ∀ A2 c2 w', w'.ownsRow base e 1 (.slice A n c) n xs → Mod (fun k => some k = (Value.slice A n c).ownBlock) w w' → F A2 (n + m) c2 w') :
    AppVC P #[t, t] ty (.slice A n c) (.slice A' m c') w F := by
  have hi' := hi
  obtain ⟨i, hi, hz, hs, hy⟩ := hi
  obtain ⟨a', ha', _⟩ := hsrc.at (i := 0) (by omega)
  subst ha'
  have hsrc' : ∀ j u, news[j]? = some u → w.cell? (a'.add j) = some u := fun j u hu => by
    obtain ⟨b', ha, hc⟩ := hsrc j u hu; cases ha; exact hc
  have h63 : n + m ≤ maxLen := by
    have : (n + m) * 1 ≤ (n + m) * bytes := Nat.mul_le_mul_left _ hb0
    simp only [maxLen]; omega
  rcases hown.2 with ⟨hv, hn0⟩ | ⟨g, cap, cur, hv, hb, hg, hnc, hm, hsz, htk⟩
  · injection hv with hA _ hc
    subst hA; subst hc; subst hn0
    refine AppVC.own ht hi hz hs hy hzs (by decide) (base := w.heap.size) (World.ownsRow_nil _ _ _ _) hsrc (by omega) h1 hbytes hb0 (Nat.le_refl _) fun A2 c2 w2 _ hm2 _ => ?_
    exact h A2 c2 w2 (own_mod hown hm2 fun k hk => by simp [Value.ownBlock] at hk) hm2
  · injection hv with hA _ hcap
    subst hA; subst hcap
    by_cases hroom : n + m ≤ c
    · have hcell : ∀ j, j < news.length → (w.cell? ⟨g, 0 + n * i.size + j, none⟩).isSome = true := fun j hj => by
        rw [cell_of_row w g _ cur e (0, 0) hg, hs]
        have : n + j < cur.size := by omega
        simp [this]
      have hr := run_append_room_cells (P := P) w t ty e i ht hi g 0 n c a' m c' news (by rw [hs]; omega) hsrc' h1 hroom hcell (fun j hj => frozen_of_row w g _ cur e hg)
      obtain ⟨h2, h3, _⟩ := own_setCells news (0 + n * i.size) w hown (by rw [hs]; omega) (by rw [hs]; omega)
      exact ⟨_, _, _, _, hr, h _ _ _ h2 (h3.mono fun k _ e => by simp [Value.ownBlock]; exact e)⟩
    · obtain ⟨v', w', hr, ho, hgr⟩ := run_append_arg_grows (P := P) (w := w) t ty e i z 1 bytes ht hi hz hs hy hzs (by decide) ⟨g, 0, none⟩ n c xs (by have := hown.1; omega)
        (fun j u hu => by obtain ⟨a, ha, hc⟩ := own_cells hown j u hu; cases ha; exact hc) a' m c' news (by omega) hsrc' (by omega) h63 hbytes
      obtain ⟨A2, c2, rfl, _, _⟩ := own_form ho
      have hE : Ext w w' := (Mod.grown hgr).mono fun k hk e => by cases e
      exact ⟨A2, n + m, c2, w', hr, h A2 c2 w' (own_ext hown hE) (hE.to _)⟩
end
end Go.Eng
