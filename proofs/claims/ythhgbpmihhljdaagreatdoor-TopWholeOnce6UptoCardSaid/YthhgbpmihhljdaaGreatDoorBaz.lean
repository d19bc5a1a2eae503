/- Maps as parts of memory: what is looked up, laid in, struck out, ranged over. It speaks of any program. -/
import Derived.Test.YthhgbpmihhljdaaGreatDoorBap
import Derived.Maps.RangeRun
import Derived.MapKept
import Derived.WideKeyRuns
namespace Go.Eng
open Go Go.RowKit
/-- Permutations, by counting. -/
theorem perm_cn {α : Type} {l1 l2 : List α} (h : ∀ (c : List α → Nat) (o : α → Nat), (∀ l l', c (l ++ l') = c l + c l') → (∀ x l, c (x :: l) = o x + c l) → c [] = 0 → c l1 = c l2) : l1.Perm l2 := by
  classical
  refine List.perm_iff_count.2 fun a => h (List.count a) (fun x => if x == a then 1 else 0) (fun l l' => List.count_append) (fun x l => ?_) List.count_nil
  rw [List.count_cons]; omega
/-- The blocks of some parts. -/
def Blocks (Δ : List Fct) (k : Nat) : Prop := ∃ f ∈ Δ, f.R k
section
variable {w0 w w' : World} {Γ Γ' Δ Δ' : List Fct} {f g : Fct}
theorem Sep.begins (H : Sep Δ w) : Sep (Fct.rest w (Blocks Δ) :: Δ) w := by
  have h := Sep.iff.1 H
  refine Sep.iff.2 ⟨fun f hf => ?_, List.pairwise_cons.2 ⟨fun f hf k h1 h2 => h1.2 ⟨f, hf, h2⟩, h.2⟩⟩
  rcases List.mem_cons.1 hf with rfl | hf
  · exact ⟨Mod.refl _ _, fun k hk => hk.1⟩
  · exact h.1 f hf
/-- What is apart from the parts that change stays. -/
theorem Sep.keep (H : Sep (Γ ++ Δ) w) (hm : Mod (Blocks Δ) w w') : Sep Γ w' := by
  have h := Sep.iff.1 H
  have hp := List.pairwise_append.1 h.2
  refine Sep.iff.2 ⟨fun f hf => ?_, hp.1⟩
  have hf' := h.1 f (List.mem_append_left _ hf)
  exact ⟨f.st (Blocks Δ) w w' hf'.1 hf'.2 hm fun k hk ⟨g, hg, hgk⟩ => hp.2.2 f hf g hg k hk hgk, fun k hk => Nat.lt_of_lt_of_le (hf'.2 k hk) hm.size⟩
/-- A call that turns some parts into others. -/
theorem Sep.turn (H : Sep (Γ ++ Δ) w) (h : Sep (Fct.rest w (Blocks Δ) :: Δ') w') : Sep (Γ ++ Δ') w' := by
  have hm : Mod (Blocks Δ) w w' := h.restOf 0 rfl
  have hk := H.keep hm
  have h0 := Sep.iff.1 H
  have hp := List.pairwise_append.1 h0.2
  have h1 := Sep.iff.1 hk
  have h2 := Sep.iff.1 h
  have hc := List.pairwise_cons.1 h2.2
  refine Sep.iff.2 ⟨fun f hf => ?_, List.pairwise_append.2 ⟨h1.2, hc.2, fun f hf g hg k hkf hkg => ?_⟩⟩
  · rcases List.mem_append.1 hf with hf | hf
    · exact h1.1 f hf
    · exact h2.1 f (List.mem_cons_of_mem _ hf)
  · refine hc.1 g hg k ⟨(h0.1 f (List.mem_append_left _ hf)).2 k hkf, fun ⟨x, hx, hxk⟩ => hp.2.2 f hf x hx k hkf hxk⟩ hkg
theorem Blocks.append {k : Nat} : Blocks (Γ ++ Δ) k ↔ Blocks Γ k ∨ Blocks Δ k := by
  constructor
  · rintro ⟨f, hf, hk⟩
    rcases List.mem_append.1 hf with hf | hf
    · exact .inl ⟨f, hf, hk⟩
    · exact .inr ⟨f, hf, hk⟩
  · rintro (⟨f, hf, hk⟩ | ⟨f, hf, hk⟩)
    · exact ⟨f, List.mem_append_left _ hf, hk⟩
    · exact ⟨f, List.mem_append_right _ hf, hk⟩
end
/-! ### Maps -/
structure MapIs (es : Array MapEntry) (clock : Nat) (kvs : List (Value × Value)) : Prop where
  kv : es.toList.map (fun e => (e.key, e.val)) = kvs
  born : ∀ e ∈ es.toList, e.born < clock
  nodup : (es.toList.map (·.born)).Nodup
def MapAt (w : World) (g : Nat) (kvs : List (Value × Value)) : Prop := ∃ es clock, w.heap[g]? = some (.map es clock) ∧ MapIs es clock kvs
theorem heap_lt {w : World} {g : Nat} {o : Obj} (h : w.heap[g]? = some o) : g < w.heap.size := (Array.getElem?_eq_some_iff.1 h).1
def Fct.mp (g : Nat) (kvs : List (Value × Value)) : Fct := ⟨fun k => k = g, fun w => MapAt w g kvs, fun _ _ _ ⟨es, c, h, hi⟩ _ hm hn => ⟨es, c, (hm.block g (heap_lt h) (hn g rfl)).trans h, hi⟩⟩
/-- The keys of a map: values of a type whose equality is decided so. -/
structure KeyOk (P : Program) (kt : TypeId) {α : Type} (enc : α → Value) (eqb : α → α → Bool) : Prop where
  wide : (match P.underlying kt with | some (.array _ _) | some (.struct _) => true | _ => false) = true
  check : ∀ (x : α) (em : Bool) (w : World), (Instr.checkKey em 10000 kt (enc x)).run P w = .ok () w
  eq : ∀ (x y : α) (w : World), (Op.equal kt (enc x) (enc y)).run P w = .ok (eqb x y) w
  same : ∀ x y, eqb x y = true ↔ x = y
  bits : ∀ x, Instr.sameBits 10000 (enc x) (enc x) = true
section
variable {α : Type} {eqb : α → α → Bool}
def findS (eqb : α → α → Bool) (x : α) : List (α × Value) → Nat → Option (Nat × Value)
  | [], _ => none
  | p :: l, i => if eqb x p.1 then some (i, p.2) else findS eqb x l (i + 1)
theorem findS_at {x : α} : ∀ {l : List (α × Value)} {i j : Nat} {v : Value}, findS eqb x l i = some (j, v) → ∃ k y, j = i + k ∧ l[k]? = some (y, v) ∧ eqb x y = true ∧ ∀ m, m < k → ∀ z, l[m]? = some z → eqb x z.1 = false
  | [], i, j, v, h => by simp [findS] at h
  | p :: l, i, j, v, h => by
    simp only [findS] at h
    cases hb : eqb x p.1 with
    | true =>
      rw [hb, if_pos rfl] at h
      injection h with h; injection h with h1 h2
      exact ⟨0, p.1, by omega, by simp [← h2], hb, fun m hm => by omega⟩
    | false =>
      rw [hb, if_neg (by simp)] at h
      obtain ⟨k, y, hk, hy, he, hn⟩ := findS_at h
      refine ⟨k + 1, y, by omega, by simpa using hy, he, fun m hm z hz => ?_⟩
      cases m with
      | zero => simp at hz; subst hz; exact hb
      | succ m => exact hn m (by omega) z (by simpa using hz)
def mget (eqb : α → α → Bool) (x : α) (l : List (α × Value)) : Option Value := (findS eqb x l 0).map (·.2)
def mset (eqb : α → α → Bool) (x : α) (v : Value) (l : List (α × Value)) : List (α × Value) :=
  match findS eqb x l 0 with
  | some (i, _) => l.set i (x, v)
  | none => l ++ [(x, v)]
def mdel (eqb : α → α → Bool) (x : α) (l : List (α × Value)) : List (α × Value) :=
  match findS eqb x l 0 with
  | some (i, _) => l.eraseIdx i
  | none => l
/-- A map's pairs as they lie there. -/
def kvs (enc : α → Value) (l : List (α × Value)) : List (Value × Value) := l.map fun p => (enc p.1, p.2)
variable {P : Program} {kt e t : TypeId} {enc : α → Value} {w w' : World} {g : Nat} {l : List (α × Value)}
theorem run_asking (K : KeyOk P kt enc eqb) (x : α) (w : World) : ∀ (es : List MapEntry) (l : List (α × Value)) (i : Nat), es.map (fun e => (e.key, e.val)) = kvs enc l → (Instr.findAsking kt (enc x) es i).run P w = .ok (findS eqb x l i) w
  | [], l, i, h => by
    cases l with
    | nil => simp [Instr.findAsking, findS]
    | cons p l => simp [kvs] at h
  | c :: es, l, i, h => by
    cases l with
    | nil => simp [kvs] at h
    | cons p l =>
      simp only [kvs, List.map_cons, List.cons.injEq, Prod.mk.injEq] at h
      obtain ⟨⟨h1, h2⟩, h3⟩ := h
      simp only [Instr.findAsking, findS, Sem.run_bind, h1, K.eq, Result.andThen_ok]
      cases hb : eqb x p.1 with
      | true => simp [h2]
      | false => simpa using run_asking K x w es l (i + 1) h3
theorem run_find (K : KeyOk P kt enc eqb) (x : α) (w : World) {es : Array MapEntry} {clock : Nat} (h : MapIs es clock (kvs enc l)) : (Instr.findKey kt (enc x) es.toList).run P w = .ok (findS eqb x l 0) w := by
  rw [run_findKey_eq w K.wide]
  exact run_asking K x w es.toList l 0 h.kv
theorem run_look (K : KeyOk P kt enc eqb) (ht : P.underlying t = some (.map kt e)) {z : Value} (hz : zr P e = some z) (x : α) (ok : Bool) (h : MapAt w g (kvs enc l)) :
    (Instr.lookup t (.map (some g)) (enc x) ok).run P w = .ok (if ok then .tuple #[(mget eqb x l).getD z, .bool (mget eqb x l).isSome] else (mget eqb x l).getD z) w := by
  obtain ⟨es, clock, hb, hi⟩ := h
  unfold mget
  simp only [Instr.lookup, Sem.run_bind, run_underlying ht, Result.andThen_ok, MapKept.run_getObj_map hb, Sem.run_pure, K.check, run_find K x w hi]
  cases findS eqb x l 0 with
  | none => simp [run_zero hz]
  | some p => simp
theorem run_len (ht : P.underlying t = some (.map kt e)) (ty : TypeId) (h : MapAt w g (kvs enc l)) : (Builtin.len_ #[t] ty #[.map (some g)]).run P w = .ok (.int .i64 (l.length : Int)) w := by
  obtain ⟨es, clock, hb, hi⟩ := h
  have : es.size = l.length := by have := congrArg List.length hi.kv; simpa [kvs] using this
  simp [Builtin.len_, run_underlying ht, MapKept.run_getObj_map hb, this, goInt]
theorem mp_set {α β : Type} (f : α → β) : ∀ (l : List α) (i : Nat) (x : α), (l.set i x).map f = (l.map f).set i (f x)
  | [], _, _ => rfl
  | _ :: _, 0, _ => rfl
  | y :: l, i + 1, x => by simp [mp_set f l i x]
theorem mp_erase {α β : Type} (f : α → β) : ∀ (l : List α) (i : Nat), (l.eraseIdx i).map f = (l.map f).eraseIdx i
  | [], _ => rfl
  | _ :: _, 0 => rfl
  | y :: l, i + 1 => by simp [mp_erase f l i]
def setH (w : World) (g : Nat) (o : Obj) : World := { w with heap := w.heap.setIfInBounds g o }
theorem Mod.setH (w : World) (g : Nat) {o : Obj} (o' : Obj) (hb : w.heap[g]? = some o) : Mod (fun k => k = g) w (setH w g o') :=
  ⟨rfl, rfl, rfl, by unfold Eng.setH; simp, fun k _ hn => (MapKept.heap_set (o' := o') hb).2 k hn⟩
theorem setH_at {o : Obj} (o' : Obj) (hb : w.heap[g]? = some o) : (setH w g o').heap[g]? = some o' := (MapKept.heap_set (o' := o') hb).1
theorem run_setH {es : Array MapEntry} {clock : Nat} (o : Obj) (hb : w.heap[g]? = some (.map es clock)) : (setObj g o).run P w = .ok () (setH w g o) := MapKept.run_setObj_map o hb
/-- One entry is laid in. -/
theorem MapSetVC.sep {Γ : List Fct} {F : World → Prop} (H : Sep Γ w) (i : Nat) (K : KeyOk P kt enc eqb) (ht : P.underlying t = some (.map kt e)) (hi : Γ[i]? = some (Fct.mp g (kvs enc l))) (x : α) (v : Value)
    (h : ∀ w', Sep (Γ.set i (Fct.mp g (kvs enc (mset eqb x v l)))) w' → F w') : MapSetVC P t (.map (some g)) (enc x) v w F := by
  obtain ⟨es, clock, hb, hm⟩ := H.yes i _ hi
  have hlt := heap_lt hb
  have fin : ∀ (es' : Array MapEntry) (c' : Nat), MapIs es' c' (kvs enc (mset eqb x v l)) → F (setH w g (.map es' c')) := fun es' c' hm' =>
    h _ (H.mod i hi (Mod.setH w g (.map es' c') hb) (fun k _ hk => hk) (Fct.mp g (kvs enc (mset eqb x v l))) ⟨es', c', setH_at _ hb, hm'⟩ fun k hk => .inl hk)
  unfold mset at fin
  cases hf : findS eqb x l 0 with
  | none =>
    rw [hf] at fin
    refine ⟨_, ?_, fin (es.push { key := enc x, val := v, born := clock }) (clock + 1) ⟨?_, ?_, ?_⟩⟩
    · simp only [Instr.mapUpdate, Sem.run_bind, run_underlying ht, Result.andThen_ok, MapKept.run_getObj_map hb, K.check, run_find K x w hm, hf]
      exact run_setH _ hb
    · simp [hm.kv, kvs]
    · intro e he
      rw [Array.toList_push] at he
      rcases List.mem_append.1 he with he | he
      · have := hm.born e he; omega
      · simp at he; subst he; show clock < clock + 1; omega
    · rw [Array.toList_push, List.map_append]
      refine List.nodup_append.2 ⟨hm.nodup, by simp, fun a ha b hb' => ?_⟩
      obtain ⟨e, he, rfl⟩ := List.mem_map.1 ha
      simp at hb'; subst hb'
      have := hm.born e he
      omega
  | some p =>
    obtain ⟨j, u⟩ := p
    rw [hf] at fin
    obtain ⟨k, y, hk, hy, he, _⟩ := findS_at hf
    have hjk : j = k := by omega
    subst hjk
    have hxy := (K.same x y).1 he
    subst hxy
    have hle : j < es.size := by
      have h1 : j < l.length := (List.getElem?_eq_some_iff.1 hy).1
      have := congrArg List.length hm.kv
      simp [kvs] at this; omega
    have hkey : es[j].key = enc x := by
      have h1 := congrArg (fun q => q[j]?) hm.kv
      simp only [kvs, List.getElem?_map, hy, Array.getElem?_toList, Array.getElem?_eq_getElem hle, Option.map_some, Option.some.injEq, Prod.mk.injEq] at h1
      exact h1.1
    have hst : (Instr.keyThatStays (((es[j]?).map (·.key)).getD (enc x)) (enc x)).run P w = .ok (enc x) w := by
      rw [Array.getElem?_eq_getElem hle, Option.map_some, Option.getD_some, hkey]
      simp [Instr.keyThatStays, K.bits]
    have e1 : (es.modify j fun e => { e with key := enc x, val := v }).toList = es.toList.set j { es[j] with key := enc x, val := v } := by
      apply List.ext_getElem?
      intro m
      simp only [Array.getElem?_toList, Array.getElem?_modify, List.getElem?_set]
      by_cases hm' : j = m
      · subst hm'; simp [hle]
      · simp [hm']
    have e2 : (es.toList.set j { es[j] with key := enc x, val := v }).map (·.born) = es.toList.map (·.born) := by
      rw [mp_set]
      apply List.ext_getElem?
      intro m
      simp only [List.getElem?_set, List.getElem?_map, List.length_map, Array.length_toList, Array.getElem?_toList]
      by_cases hm' : j = m
      · subst hm'; simp [hle]
      · simp [hm']
    refine ⟨_, ?_, fin (es.modify j fun e => { e with key := enc x, val := v }) clock ⟨?_, ?_, ?_⟩⟩
    · simp only [Instr.mapUpdate, Sem.run_bind, run_underlying ht, Result.andThen_ok, MapKept.run_getObj_map hb, K.check, run_find K x w hm, hf]
      exact (congrArg (Result.andThen · _) hst).trans (run_setH _ hb)
    · rw [e1, mp_set, hm.kv]
      unfold kvs
      rw [mp_set]
    · intro c hc
      have : c.born ∈ es.toList.map (·.born) := by rw [← e2, ← e1]; exact List.mem_map.2 ⟨c, hc, rfl⟩
      obtain ⟨d, hd, hdc⟩ := List.mem_map.1 this
      rw [← hdc]; exact hm.born d hd
    · rw [e1, e2]; exact hm.nodup
/-- One entry is struck out. -/
theorem DelVC.sep {Γ : List Fct} {F : World → Prop} {k2 ty : TypeId} (H : Sep Γ w) (i : Nat) (K : KeyOk P kt enc eqb) (ht : P.underlying t = some (.map kt e)) (hi : Γ[i]? = some (Fct.mp g (kvs enc l))) (x : α)
    (h : ∀ w', Sep (Γ.set i (Fct.mp g (kvs enc (mdel eqb x l)))) w' → F w') : DelVC P #[t, k2] ty (.map (some g)) (enc x) w F := by
  obtain ⟨es, clock, hb, hm⟩ := H.yes i _ hi
  have fin : ∀ (es' : Array MapEntry), MapIs es' clock (kvs enc (mdel eqb x l)) → F (setH w g (.map es' clock)) := fun es' hm' =>
    h _ (H.mod i hi (Mod.setH w g (.map es' clock) hb) (fun k _ hk => hk) (Fct.mp g (kvs enc (mdel eqb x l))) ⟨es', clock, setH_at _ hb, hm'⟩ fun k hk => .inl hk)
  unfold mdel at fin
  cases hf : findS eqb x l 0 with
  | none =>
    rw [hf] at fin
    refine ⟨_, ?_, fin es hm⟩
    simp only [Builtin.delete_, List.getElem?_toArray, List.getElem?_cons_zero, List.getElem?_cons_succ, Sem.run_bind, run_underlying ht, Result.andThen_ok, MapKept.run_getObj_map hb, K.check, run_find K x w hm, hf, run_setH _ hb, Sem.run_pure]
  | some p =>
    obtain ⟨j, u⟩ := p
    rw [hf] at fin
    obtain ⟨k, y, hk, hy, he, _⟩ := findS_at hf
    have hjk : j = k := by omega
    subst hjk
    have hle : j < es.size := by
      have h1 : j < l.length := (List.getElem?_eq_some_iff.1 hy).1
      have := congrArg List.length hm.kv
      simp [kvs] at this; omega
    have e1 : (es.eraseIdxIfInBounds j).toList = es.toList.eraseIdx j := by
      unfold Array.eraseIdxIfInBounds
      rw [dif_pos hle, Array.toList_eraseIdx]
    have hsub : (es.eraseIdxIfInBounds j).toList.Sublist es.toList := by rw [e1]; exact List.eraseIdx_sublist _ _
    refine ⟨_, ?_, fin (es.eraseIdxIfInBounds j) ⟨?_, fun c hc => hm.born c (hsub.subset hc), (hsub.map _).nodup hm.nodup⟩⟩
    · simp only [Builtin.delete_, List.getElem?_toArray, List.getElem?_cons_zero, List.getElem?_cons_succ, Sem.run_bind, run_underlying ht, Result.andThen_ok, MapKept.run_getObj_map hb, K.check, run_find K x w hm, hf, run_setH _ hb, Sem.run_pure]
    · rw [e1, mp_erase, hm.kv]
      unfold kvs
      rw [mp_erase]
theorem NewMapVC.sep {Γ : List Fct} {F : Nat → World → Prop} (H : Sep Γ w) (h : ∀ g w', Sep (Γ ++ [Fct.mp g []]) w' → F g w') : NewVC w (.map #[] 0) F :=
  NewVC.of fun g' w' hg hE hw => h g' w' (H.push hE (Fct.mp g' []) ⟨#[], 0, by subst hw; subst hg; exact (MapKept.heap_alloc w _).1, ⟨rfl, fun e he => by simp at he, by simp⟩⟩ fun k hk => by
    have : k = g' := hk
    subst this; subst hg; subst hw
    exact ⟨Nat.le_refl _, by simp⟩)
end
end Go.Eng
/- Ranges over maps; keys that are structs. It speaks of any program. -/
namespace Go.Eng
open Go Go.RowKit
section
variable {w0 w w' : World} {Γ : List Fct} {P : Program} {t kt e : TypeId} {g r : Nat} {es : Array MapEntry} {clock : Nat}
def Fct.mpx (g : Nat) (es : Array MapEntry) (clock : Nat) : Fct := ⟨fun k => k = g, fun w => w.heap[g]? = some (.map es clock), fun _ _ _ h _ hm hn => (hm.block g (heap_lt h) (hn g rfl)).trans h⟩
def ItAt (w : World) (r g : Nat) (es : Array MapEntry) (clock : Nat) (left : List MapEntry) : Prop :=
  ∃ since seen c0, w.heap[r]? = some (.mapIter (some g) since seen c0) ∧ (∀ x ∈ es.toList, x.born < since) ∧ since ≤ c0 ∧ since ≤ clock ∧ left.Perm (leftOf es seen).toList
def Fct.it (r g : Nat) (es : Array MapEntry) (clock : Nat) (left : List MapEntry) : Fct :=
  ⟨fun k => k = r, fun w => ItAt w r g es clock left, fun _ _ _ ⟨a, b, c, h, h'⟩ _ hm hn => ⟨a, b, c, (hm.block r (heap_lt h) (hn r rfl)).trans h, h'⟩⟩
theorem RangeVC.sep {F : Nat → World → Prop} {kv : List (Value × Value)} (H : Sep Γ w) (i : Nat) (ht : P.underlying t = some (.map kt e)) (hi : Γ[i]? = some (Fct.mp g kv))
    (h : ∀ r es clock w', MapIs es clock kv → Sep (Γ.set i (Fct.mpx g es clock) ++ [Fct.it r g es clock es.toList]) w' → F r w') : RangeVC P t (.map (some g)) w F := by
  obtain ⟨es, clock, hb, hm⟩ := H.yes i _ hi
  refine ⟨_, _, run_range_map w t kt e g es clock ht hb, h _ es clock _ hm ?_⟩
  have H1 : Sep (Γ.set i (Fct.mpx g es clock)) w := H.weaken i hi hb fun k hk => hk
  refine H1.push (Ext.alloc w _) (Fct.it w.heap.size g es clock es.toList) ⟨clock, #[], clock, (MapKept.heap_alloc w _).1, hm.born, Nat.le_refl _, Nat.le_refl _, ?_⟩ fun k hk => by
    have : k = w.heap.size := hk
    subst this
    exact ⟨Nat.le_refl _, by simp⟩
  have : (leftOf es #[]).toList = es.toList := by unfold leftOf; simp
  rw [this]
theorem NextVC.sep {F0 : World → Prop} {F1 : Value → Value → World → Prop} {ty : TypeId} {left : List MapEntry} (H : Sep Γ w) (i j : Nat) (hi : Γ[i]? = some (Fct.mpx g es clock)) (hj : Γ[j]? = some (Fct.it r g es clock left)) (hn : (es.toList.map (·.born)).Nodup)
    (h0 : left = [] → F0 w) (h1 : ∀ e left' w', left.Perm (e :: left') → e ∈ es.toList → Sep (Γ.set j (Fct.it r g es clock left')) w' → (Instr.entry (.pointer (some ⟨r, 0, none⟩))).run P w' = .ok (.tuple #[e.key, e.val]) w' → F1 e.key e.val w') :
    NextVC P (.pointer (some ⟨r, 0, none⟩)) ty w F0 F1 := by
  have hb : w.heap[g]? = some (.map es clock) := H.yes i _ hi
  obtain ⟨since, seen, c0, hr, hold, hsc, hcl, hp⟩ := H.yes j _ hj
  have hne : r ≠ g := fun e => by rw [e, hb] at hr; cases hr
  rcases run_next_at (P := P) w ty r g since c0 seen es clock hr hb hold hsc with ⟨hz, hrun⟩ | ⟨c, hc, w1, hal, hrun⟩
  · refine .inl ⟨w, hrun, h0 ?_⟩
    have : (leftOf es seen).toList = [] := List.eq_nil_of_length_eq_zero (by simpa using hz)
    rw [this] at hp
    exact hp.eq_nil
  · obtain ⟨hem, hes⟩ := mem_left hc
    have hE1 : Ext w w1 := by rcases hal with rfl | rfl; exact Mod.refl _ _; exact Ext.drew w
    have hr1 : w1.heap[r]? = some (.mapIter (some g) since seen c0) := by rcases hal with rfl | rfl <;> exact hr
    have hb1 : w1.heap[g]? = some (.map es clock) := by rcases hal with rfl | rfl <;> exact hb
    have hset := MapKept.heap_set (o' := Obj.mapIter (some g) since (seen.push c.born) clock) hr1
    have hm : Mod (fun k => k = r) w (ChangeMaps.setBlock w1 r (.mapIter (some g) since (seen.push c.born) clock)) := by
      refine (hE1.to _).trans ⟨rfl, rfl, rfl, by simp [ChangeMaps.setBlock], fun k _ hk => hset.2 k hk⟩
    have hr2 : (ChangeMaps.setBlock w1 r (.mapIter (some g) since (seen.push c.born) clock)).heap[r]? = some (.mapIter (some g) since (seen.push c.born) clock) := hset.1
    have hb2 : (ChangeMaps.setBlock w1 r (.mapIter (some g) since (seen.push c.born) clock)).heap[g]? = some (.map es clock) := (hset.2 g fun e => hne e.symm).trans hb1
    refine .inr ⟨_, _, _, hrun, ?_⟩
    obtain ⟨left', hl'⟩ : ∃ left' : List MapEntry, left' = (leftOf es (seen.push c.born)).toList := ⟨_, rfl⟩
    have hperm : left.Perm (c :: left') := by
      refine hp.trans ?_
      rw [hl']
      have e1 : (leftOf es seen).toList = es.toList.filter fun x => !seen.contains x.born := by unfold leftOf; simp
      have e2 : (leftOf es (seen.push c.born)).toList = es.toList.filter fun x => !(seen.push c.born).contains x.born := by unfold leftOf; simp
      rw [e1, e2]
      have key : ∀ (l : List MapEntry), (l.map (·.born)).Nodup → c ∈ l → seen.contains c.born = false → (l.filter fun x => !seen.contains x.born).Perm (c :: l.filter fun x => !(seen.push c.born).contains x.born) := by
        intro l
        induction l with
        | nil => intro _ h; cases h
        | cons x l ih =>
          intro hn hx hs
          rw [List.map_cons, List.nodup_cons] at hn
          rcases List.mem_cons.1 hx with rfl | hx
          · have e3 : ∀ y ∈ l, (!(seen.push c.born).contains y.born) = !seen.contains y.born := fun y hy => by
              rw [contains_push]
              have : (y.born == c.born) = false := by
                rw [beq_eq_false_iff_ne]; intro e; exact hn.1 (List.mem_map.2 ⟨y, hy, e⟩)
              rw [this, Bool.or_false]
            rw [List.filter_cons, if_pos (by rw [hs]; rfl), List.filter_cons, if_neg (by rw [contains_push]; simp), List.filter_congr e3]
          · have hxc : (x.born == c.born) = false := by
              rw [beq_eq_false_iff_ne]; intro e; exact hn.1 (List.mem_map.2 ⟨c, hx, e.symm⟩)
            have e4 : (seen.push c.born).contains x.born = seen.contains x.born := by rw [contains_push, hxc, Bool.or_false]
            have := ih hn.2 hx hs
            rw [List.filter_cons, List.filter_cons, e4]
            cases hsx : seen.contains x.born with
            | true => simpa using this
            | false =>
              simp only [Bool.not_false, if_true]
              exact (this.cons x).trans (List.Perm.swap c x _)
      exact key es.toList hn hem hes
    refine h1 c left' _ hperm hem (H.mod j hj hm (fun k _ hk => hk) (Fct.it r g es clock left') ⟨since, seen.push c.born, clock, hr2, hold, hcl, hcl, by rw [hl']⟩ fun k hk => .inl hk) (run_entry_at _ r g since seen es clock c hr2 hb2 hem hn)
/-- How many rounds are to come. -/
def leftN (w : World) (g r : Nat) : Nat :=
  match w.heap[g]?, w.heap[r]? with
  | some (.map es _), some (.mapIter _ _ seen _) => (leftOf es seen).size
  | _, _ => 0
theorem Sep.leftN {left : List MapEntry} (H : Sep Γ w) (i j : Nat) (hi : Γ[i]? = some (Fct.mpx g es clock)) (hj : Γ[j]? = some (Fct.it r g es clock left)) : Eng.leftN w g r = left.length := by
  have hb : w.heap[g]? = some (.map es clock) := H.yes i _ hi
  obtain ⟨since, seen, c0, hr, _, _, _, hp⟩ := H.yes j _ hj
  unfold Eng.leftN
  rw [hb, hr, hp.length_eq]
  simp
/-- What is apart. -/
theorem Sep.far {F : List Fct} {f g : Fct} {i : Nat} (H : Sep (Γ ++ F) w) (hi : Γ[i]? = some f) (hg : g ∈ F) : ∀ k, f.R k → g.R k → False := by
  have h := (List.pairwise_append.1 (Sep.iff.1 H).2).2.2
  exact h f (List.mem_of_getElem? hi) g hg
/-- A range is over: the map as it was. -/
theorem Sep.mpOf {kv : List (Value × Value)} (H : Sep Γ w) (i : Nat) (hi : Γ[i]? = some (Fct.mpx g es clock)) (hm : MapIs es clock kv) : Sep (Γ.set i (Fct.mp g kv)) w :=
  H.weaken i hi ⟨es, clock, H.yes i _ hi, hm⟩ fun _k hk => hk
end
theorem perm_back {α β : Type} (f : α → β) {l : List α} {m : List β} (h : (l.map f).Perm m) : ∃ l' : List α, l'.Perm l ∧ l'.map f = m := by
  generalize hk : l.map f = k at h
  induction h generalizing l with
  | nil => exact ⟨[], by rw [List.map_eq_nil_iff.1 hk], rfl⟩
  | cons x _ ih =>
    cases l with
    | nil => cases hk
    | cons a l =>
      injection hk with h1 h2
      obtain ⟨l', h3, h4⟩ := ih h2
      exact ⟨a :: l', h3.cons a, by simp [h1, h4]⟩
  | swap x y m =>
    match l, hk with
    | a :: b :: l, hk =>
      injection hk with h1 h2
      injection h2 with h2 h3
      exact ⟨b :: a :: l, .swap a b l, by simp [h1, h2, h3]⟩
  | trans _ _ ih1 ih2 =>
    obtain ⟨l1, h1, h2⟩ := ih1 hk
    obtain ⟨l2, h3, h4⟩ := ih2 h2
    exact ⟨l2, h3.trans h1, h4⟩
/-! ### Keys that are structs -/
def ckV (P : Program) : Nat → TypeId → Value → Bool
  | 0, _, _ => false
  | d + 1, t, v => match P.underlying t, v with
    | some (.interface _), _ => false
    | some (.array n e), .agg cs => match P.info? e with
      | some _ => (List.range n).all fun i => match partOf P e cs (i * P.cellsOf e) with
        | some x => ckV P d e x
        | none => false
      | none => false
    | some (.array _ _), _ => false
    | some (.struct fs), .agg cs => fs.toList.all fun f => f.name != "_" && match partOf P f.type cs f.offset with
      | some x => ckV P d f.type x
      | none => false
    | some (.struct _), _ => false
    | some _, _ => true
    | none, _ => false
theorem ck_sound {P : Program} {em : Bool} : ∀ (d D : Nat) (t : TypeId) (v : Value), ckV P d t v = true → ∀ w : World, (Instr.checkKey em (D + d) t v).run P w = .ok () w
  | 0, _, _, _, h, _ => by simp [ckV] at h
  | d + 1, D, t, v, h, w => by
    have ih := fun t v h => ck_sound (P := P) (em := em) d D t v h w
    unfold ckV at h
    rw [show D + (d + 1) = (D + d) + 1 from rfl, Instr.checkKey]
    cases hu : P.underlying t with
    | none => simp [hu] at h
    | some td =>
      rw [hu] at h
      simp only [Sem.run_bind, run_underlying hu, Result.andThen_ok]
      cases td
      case interface ms => cases h
      case array n e =>
        cases v <;> simp only [Bool.false_eq_true] at h
        rename_i cs
        cases hi : P.info? e with
        | none => rw [hi] at h; cases h
        | some i =>
          rw [hi] at h
          simp only [Std.Legacy.Range.forIn_eq_forIn_range', Std.Legacy.Range.size, Nat.sub_zero, Nat.add_one_sub_one, Nat.div_one]
          rw [List.range_eq_range'] at h
          have each := List.all_eq_true.1 h
          clear h
          generalize List.range' 0 n = is at each
          induction is with
          | nil => simp
          | cons j is ihs =>
            have hj := each j (by simp)
            cases hp : partOf P e cs (j * P.cellsOf e) with
            | none => rw [hp] at hj; cases hj
            | some a =>
              rw [hp] at hj
              simp only [List.forIn_cons, Sem.run_bind, run_sizeOf w hi, Result.andThen_ok, run_part hp, ih e a hj, Sem.run_pure]
              have hr := ihs (fun y hy => each y (by simp [hy]))
              simp only [Sem.run_bind] at hr
              exact hr
      case struct fs =>
        cases v <;> simp only [Bool.false_eq_true] at h
        rename_i cs
        have each := List.all_eq_true.1 h
        clear h
        simp only
        rw [← Array.forIn_toList]
        generalize fs.toList = L at each
        induction L with
        | nil => simp
        | cons f L ihs =>
          have hf := each f (by simp)
          simp only [Bool.and_eq_true, bne_iff_ne, ne_eq] at hf
          cases hp : partOf P f.type cs f.offset with
          | none => rw [hp] at hf; cases hf.2
          | some a =>
            rw [hp] at hf
            simp only [List.forIn_cons, Sem.run_bind, hf.1, ne_eq, not_false_eq_true, if_true, Result.andThen_ok, run_part hp, ih f.type a hf.2, Sem.run_pure]
            have hr := ihs (fun y hy => each y (by simp [hy]))
            simp only [Sem.run_bind] at hr
            exact hr
      all_goals (cases v <;> rfl)
end Go.Eng
