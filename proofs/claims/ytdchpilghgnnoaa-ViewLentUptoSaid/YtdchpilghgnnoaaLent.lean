/- Answers that were handed out and kept: four lists of lists in one block, each memory with its owner's mark. -/
import Derived.Test.YtdchpilghgnnoaaL10
namespace Go.Proofs.Ytdchpilghgnnoaa
open Go.Eng Go.RowKit

theorem AppVC.both {P : Program} {ts : Array TypeId} {ty : TypeId} {v v' : Value} {w : World} {F G : Option Addr → Nat → Nat → World → Prop} (h : AppVC P ts ty v v' w F) (h' : AppVC P ts ty v v' w G) :
    AppVC P ts ty v v' w fun A n c w' => F A n c w' ∧ G A n c w' := by
  obtain ⟨A, n, c, w1, hr, hf⟩ := h
  obtain ⟨B, m, d, w2, hr', hg⟩ := h'
  rw [hr] at hr'
  injection hr' with e1 e2
  injection e1 with a b c
  subst a; subst b; subst c; subst e2
  exact ⟨_, _, _, _, hr, hf, hg⟩

/-- One list. -/
structure RowL where
  A : Option Addr
  n : Nat
  c : Nat
  Z : List Int
def RowL.val (r : RowL) : Value := .slice r.A r.n r.c
/-- The element's type, the list's, the list of lists'. -/
def te : Nat → TypeId | 0 => 5 | 1 => 5 | _ => 3
def tl : Nat → TypeId | 0 => 22 | 1 => 22 | _ => 55
def tll : Nat → TypeId | 0 => 50 | 1 => 50 | _ => 85
def kd : Nat → IntKind | 0 => .u8 | 1 => .u8 | _ => .i64
theorem tll_under (f : Nat) : Try.prog.underlying (tll f) = some (.slice (tl f)) := by
  match f with
  | 0 => exact Try.underlying50
  | 1 => exact Try.underlying50
  | _ + 2 => exact Try.underlying85
theorem tl_is (f : Nat) : TypeIs Try.prog (tl f) (.slice none 0 0) 1 24 := by
  match f with
  | 0 => exact .of (by kernel_rfl)
  | 1 => exact .of (by kernel_rfl)
  | _ + 2 => exact .of (by kernel_rfl)
abbrev Marks := Nat → Nat × Nat
def upd {α : Type} (T : Nat → α) (f : Nat) (a : α) (j : Nat) : α := if j = f then a else T j
theorem upd_same {α : Type} (T : Nat → α) (f : Nat) (a : α) : upd T f a f = a := if_pos rfl
theorem upd_other {α : Type} (T : Nat → α) {f j : Nat} (a : α) (h : j ≠ f) : upd T f a j = T j := if_neg h
/-- A list of lists; o says whose each block is. -/
structure LolAt (w : World) (base : Nat) (o : Marks) (f : Nat) (T : Option Addr × Nat × Nat) (rows : List RowL) : Prop where
  len : T.2.1 = rows.length
  own : w.ownsRow base (tl f) 1 (sv T) T.2.1 (rows.map RowL.val)
  oid : ∀ k, (sv T).ownBlock = some k → o k = (f, 0)
  each : ∀ i (h : i < rows.length), w.ownsRow base (te f) 1 rows[i].val rows[i].n (rows[i].Z.map (.int (kd f)))
  eid : ∀ i (h : i < rows.length) k, rows[i].val.ownBlock = some k → o k = (f, i + 1)
/-- What a call may write. -/
def CF (base : Nat) (o : Marks) (k : Nat) : Prop := base ≤ k ∧ (o k).2 = 0 ∧ (o k).1 ≤ 4
section
variable {w w' : World} {base g : Nat} {o o' : Marks} {f : Nat} {T : Option Addr × Nat × Nat} {rows : List RowL}
theorem LolAt.mod {M : Nat → Prop} (h : LolAt w base o f T rows) (hm : Mod M w w') (hn : ∀ k, (sv T).ownBlock = some k ∨ (∃ i, ∃ h : i < rows.length, rows[i].val.ownBlock = some k) → ¬ M k) : LolAt w' base o f T rows :=
  { h with own := own_mod h.own hm fun k hk => hn k (.inl hk), each := fun i hi => own_mod (h.each i hi) hm fun k hk => hn k (.inr ⟨i, hi, hk⟩) }
theorem LolAt.ext (h : LolAt w base o f T rows) (hE : Ext w w') : LolAt w' base o f T rows := h.mod hE fun _ _ => id
theorem LolAt.lt (h : LolAt w base o f T rows) {k : Nat} (hk : (sv T).ownBlock = some k ∨ (∃ i, ∃ h : i < rows.length, rows[i].val.ownBlock = some k)) : k < w.heap.size := by
  rcases hk with hk | ⟨i, hi, hk⟩
  · exact (h.own.lt k hk).2
  · exact ((h.each i hi).lt k hk).2
theorem LolAt.mark (h : LolAt w base o f T rows) {k : Nat} (hk : (sv T).ownBlock = some k ∨ (∃ i, ∃ h : i < rows.length, rows[i].val.ownBlock = some k)) : (o k).1 = f := by
  rcases hk with hk | ⟨i, hi, hk⟩
  · rw [h.oid k hk]
  · rw [h.eid i hi k hk]
theorem LolAt.re (h : LolAt w base o f T rows) (ho : ∀ k, k < w.heap.size → o' k = o k) : LolAt w base o' f T rows :=
  { h with oid := fun k hk => by rw [ho k (h.lt (.inl hk))]; exact h.oid k hk, eid := fun i hi k hk => by rw [ho k (h.lt (.inr ⟨i, hi, hk⟩))]; exact h.eid i hi k hk }
/-- One more list behind the others. -/
theorem LolAt.app (h : LolAt w base o f T rows) {r : RowL} {A : Option Addr} {c : Nat} (hr : w.ownsRow base (te f) 1 r.val r.n (r.Z.map (.int (kd f)))) (hid : ∀ k, r.val.ownBlock = some k → o k = (f, rows.length + 1))
    (hsrc : Cells w A [r.val]) (hlen : rows.length ≤ 1000) (hb : base ≤ w.heap.size) {K : Option Addr → Nat → Nat → World → Prop}
    (hK : ∀ A2 c2 w' o', Mod (fun k => base ≤ k ∧ o k = (f, 0)) w w' → (∀ k, k < w.heap.size → o' k = o k) → LolAt w' base o' f (A2, T.2.1 + 1, c2) (rows ++ [r]) → K A2 (T.2.1 + 1) c2 w') :
    AppVC Try.prog #[tll f, tll f] (tll f) (.slice T.1 T.2.1 T.2.2) (.slice A 1 c) w K := by
  have hl := h.len
  refine AppVC.at (tll_under f) (tl_is f) rfl h.own hsrc rfl (by intro u hu; simp at hu; subst hu; rfl) (by omega) (by decide) hb fun A2 c2 w' hown hm hc hat => ?_
  have hM : Mod (fun k => base ≤ k ∧ o k = (f, 0)) w w' := hm.mono fun k hk e => ⟨own_new h.own k e.symm, h.oid k e.symm⟩
  refine hK A2 c2 w' (fun k => if k < w.heap.size then o k else (f, 0)) hM (fun k hk => if_pos hk) ⟨by simp; omega, ?_, fun k hk => ?_, fun i hi => ?_, fun i hi k hk => ?_⟩
  · rw [List.map_append]; exact hown
  · rcases hat k hk.symm with e | e
    · show (if _ then _ else _) = _
      rw [if_pos (h.own.lt k e.symm).2]; exact h.oid k e.symm
    · show (if _ then _ else _) = _
      rw [if_neg (by omega)]
  · by_cases e : i < rows.length
    · simp only [List.getElem_append_left e]
      exact own_mod (h.each i e) hm fun k hk hk' => by
        have h1 := h.eid i e k hk
        rw [h.oid k hk'.symm] at h1
        simp at h1
    · have ei : i = rows.length := by simp at hi; omega
      subst ei
      simp only [List.getElem_concat_length]
      exact own_mod hr hm fun k hk hk' => by
        have h1 := hid k hk
        rw [h.oid k hk'.symm] at h1
        simp at h1
  · show (if _ then _ else _) = _
    by_cases e : i < rows.length
    · simp only [List.getElem_append_left e] at hk
      rw [if_pos ((h.each i e).lt k hk).2]; exact h.eid i e k hk
    · have ei : i = rows.length := by simp at hi; omega
      subst ei
      simp only [List.getElem_concat_length] at hk
      rw [if_pos (hr.lt k hk).2]; exact hid k hk
end

/-- The whole. -/
structure Core (w : World) (base : Nat) (o : Marks) (g : Nat) (T : Nat → Option Addr × Nat × Nat) (rows : Nat → List RowL) : Prop where
  blk : Blk w g 87 [sv (T 0), sv (T 1), sv (T 2), sv (T 3)]
  gid : o g = (4, 0)
  gb : base ≤ g
  lol : ∀ f, f < 4 → LolAt w base o f (T f) (rows f)
section
variable {w w' : World} {base g : Nat} {o o' : Marks} {T : Nat → Option Addr × Nat × Nat} {rows : Nat → List RowL}
theorem Core.bnd (h : Core w base o g T rows) : base ≤ w.heap.size := by have := h.gb; have := h.blk.lt; omega
theorem Core.ext (h : Core w base o g T rows) (hE : Ext w w') : Core w' base o g T rows := ⟨h.blk.ext hE, h.gid, h.gb, fun f hf => (h.lol f hf).ext hE⟩
theorem Core.re (h : Core w base o g T rows) (ho : ∀ k, k < w.heap.size → o' k = o k) : Core w base o' g T rows := ⟨h.blk, by rw [ho g h.blk.lt]; exact h.gid, h.gb, fun f hf => (h.lol f hf).re ho⟩
theorem Core.cell (h : Core w base o g T rows) {f : Nat} (hf : f < 4) : w.cell? ⟨g, f, none⟩ = some (sv (T f)) := by
  rw [h.blk.cell]
  match f, hf with
  | 0, _ => rfl
  | 1, _ => rfl
  | 2, _ => rfl
  | 3, _ => rfl
theorem Core.keep (_ : Core w base o g T rows) {e size n : Nat} {v : Value} {xs : List Value} {b : Nat} {f i : Nat} (hr : w.ownsRow b e size v n xs) (hid : ∀ k, v.ownBlock = some k → o k = (f, i + 1)) (hm : Mod (CF base o) w w') : w'.ownsRow b e size v n xs :=
  own_mod hr hm fun k hk e => by have := e.2.1; rw [hid k hk] at this; simp at this
/-- A list is put behind the others of field f, and the field itself is not written yet. -/
theorem Core.app {f : Nat} (hf : f < 4) (h : Core w base o g T rows) {r : RowL} {A : Option Addr} {c : Nat} (hr : w.ownsRow base (te f) 1 r.val r.n (r.Z.map (.int (kd f)))) (hid : ∀ k, r.val.ownBlock = some k → o k = (f, (rows f).length + 1))
    (hsrc : Cells w A [r.val]) (hlen : (rows f).length ≤ 1000) {K : Option Addr → Nat → Nat → World → Prop}
    (hK : ∀ A2 c2 w' o', Mod (CF base o) w w' → (∀ k, k < w.heap.size → o' k = o k) → w'.cell? ⟨g, f, none⟩ = some (sv (T f)) →
      (∀ K', (∀ w'', Mod (CF base o') w' w'' → Core w'' base o' g (upd T f (A2, (T f).2.1 + 1, c2)) (upd rows f (rows f ++ [r])) → K' w'') → SetVC w' ⟨g, f, none⟩ (.slice A2 ((T f).2.1 + 1) c2) K') → K A2 ((T f).2.1 + 1) c2 w') :
    AppVC Try.prog #[tll f, tll f] (tll f) (.slice (T f).1 (T f).2.1 (T f).2.2) (.slice A 1 c) w K := by
  refine (h.lol f hf).app hr hid hsrc hlen h.bnd fun A2 c2 w' o' hm ho hl => ?_
  have hng : ¬ (base ≤ g ∧ o g = (f, 0)) := fun e => by have := e.2; rw [h.gid] at this; simp at this; omega
  have hblk := h.blk.mod hm hng
  have hM : Mod (CF base o) w w' := hm.mono fun k hk e => ⟨e.1, by rw [e.2], by rw [e.2]; show f ≤ 4; omega⟩
  have hgo : o' g = (4, 0) := by rw [ho g h.blk.lt]; exact h.gid
  refine hK A2 c2 w' o' hM ho ?_ fun K' hK' => ?_
  · have := h.cell hf
    rw [h.blk.cell] at this
    rw [hblk.cell]; exact this
  refine SetVC.blk hblk (by simpa using hf) fun w'' hz hm'' hb'' => hK' w'' (hm''.mono fun k _ e => by subst e; exact ⟨h.gb, by rw [hgo], by rw [hgo]; exact Nat.le_refl _⟩) ?_
  refine ⟨?_, hgo, h.gb, fun j hj => ?_⟩
  · have e : ([sv (T 0), sv (T 1), sv (T 2), sv (T 3)] : List Value).set f (.slice A2 ((T f).2.1 + 1) c2) =
        [sv (upd T f (A2, (T f).2.1 + 1, c2) 0), sv (upd T f (A2, (T f).2.1 + 1, c2) 1), sv (upd T f (A2, (T f).2.1 + 1, c2) 2), sv (upd T f (A2, (T f).2.1 + 1, c2) 3)] := by
      match f, hf with
      | 0, _ => rfl
      | 1, _ => rfl
      | 2, _ => rfl
      | 3, _ => rfl
    rw [← e]; exact hb''
  · by_cases e : j = f
    · subst e
      rw [upd_same, upd_same]
      exact hl.mod hm'' fun k hk e => by subst e; have := hl.mark hk; rw [hgo] at this; simp at this; omega
    · rw [upd_other _ _ e, upd_other _ _ e]
      have hj' := ((h.lol j hj).mod hm fun k hk e' => by have := (h.lol j hj).mark hk; rw [e'.2] at this; exact e this.symm)
      have hj2 : LolAt w' base o' j (T j) (rows j) := { hj' with
        oid := fun k hk => by rw [ho k ((h.lol j hj).lt (.inl hk))]; exact (h.lol j hj).oid k hk
        eid := fun i hi k hk => by rw [ho k ((h.lol j hj).lt (.inr ⟨i, hi, hk⟩))]; exact (h.lol j hj).eid i hi k hk }
      exact hj2.mod hm'' fun k hk e => by subst e; have := hj2.mark hk; rw [hgo] at this; simp at this; omega
/-- The same, with the list's own new memory ahead and the field's writing behind. -/
theorem Core.push {f : Nat} (hf : f < 4) (h : Core w base o g T rows) {r : RowL} (hr : w.ownsRow base (te f) 1 r.val r.n (r.Z.map (.int (kd f)))) (hid : ∀ k, r.val.ownBlock = some k → o k = (f, (rows f).length + 1)) (hlen : (rows f).length ≤ 1000)
    {K : World → Prop} (hK : ∀ w' o' A2 c2, Core w' base o' g (upd T f (A2, (T f).2.1 + 1, c2)) (upd rows f (rows f ++ [r])) → (∀ k, k < w.heap.size → o' k = o k) → Mod (CF base o) w w' → K w') :
    NewVC w (.cells #[.slice r.A r.n r.c] (tl f)) fun g1 w1 => AppVC Try.prog #[tll f, tll f] (tll f) (.slice (T f).1 (T f).2.1 (T f).2.2) (.slice (some ⟨g1, 0, none⟩) 1 1) w1 fun lA ln lc w2 =>
      NilVC (some ⟨g, 0, none⟩) fun p => SetVC w2 (p.add f) (.slice lA ln lc) K := by
  refine NewVC.blk fun g1 w1 hg1 hz1 hE1 hb1 => ?_
  refine Core.app hf (h.ext hE1) (own_ext hr hE1) hid (by simpa [RowL.val] using Cells.of_blk hb1 0) hlen fun A2 c2 w2 o' hm ho _ hset => ⟨_, rfl, ?_⟩
  show SetVC w2 ((⟨g, 0, none⟩ : Addr).add f) _ _
  rw [addr_add, Nat.zero_add]
  refine hset _ fun w3 hm3 hc => hK w3 o' A2 c2 hc (fun k hk => ho k (by omega)) ?_
  have hM : Mod (CF base o) w w2 := (hE1.to _).trans hm
  refine hM.trans' hm3 fun k hk e => ?_
  have := ho k (by omega)
  exact ⟨e.1, by rw [← this]; exact e.2.1, by rw [← this]; exact e.2.2⟩
end
end Go.Proofs.Ytdchpilghgnnoaa
