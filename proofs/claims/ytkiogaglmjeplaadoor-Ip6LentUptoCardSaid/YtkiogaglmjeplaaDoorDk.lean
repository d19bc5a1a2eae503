/- Rows that are written full and lengthened: the memory of a list together with the room behind it. It speaks of any program. -/
import Derived.Test.YtkiogaglmjeplaaDoorBe
import Derived.Test.YtkiogaglmjeplaaDoorBd
import Derived.Test.YtkiogaglmjeplaaDoorBn
namespace Go.Eng
open Go Go.RowKit
/-- A row of memory of its own, of whose elements the first q are known; c is the capacity of the lists that stand on it. -/
def Row (w : World) (b e size : Nat) (A : Option Addr) (c q : Nat) (xs : List Value) : Prop :=
  xs.length = q * size ∧ ((A = none ∧ c = 0 ∧ q = 0) ∨ ∃ g cs, A = some ⟨g, 0, none⟩ ∧ b ≤ g ∧ q ≤ c ∧ c * size ≤ cs.length ∧ c ≤ maxLen ∧ Blk w g e cs ∧ cs.take (q * size) = xs)
def rowR (A : Option Addr) (k : Nat) : Prop := ∃ a, A = some a ∧ a.block = k
section
variable {P : Program} {w w' : World} {b e size c q n : Nat} {A : Option Addr} {xs : List Value} {M : Nat → Prop}
theorem Row.mod (h : Row w b e size A c q xs) (hm : Mod M w w') (hn : ∀ k, rowR A k → ¬ M k) : Row w' b e size A c q xs := by
  refine ⟨h.1, ?_⟩
  rcases h.2 with h2 | ⟨g, cs, rfl, h1, h2, h3, h4, h5, h6⟩
  · exact .inl h2
  · exact .inr ⟨g, cs, rfl, h1, h2, h3, h4, h5.mod hm (hn g ⟨_, rfl, rfl⟩), h6⟩
theorem Row.lt (h : Row w b e size A c q xs) {k : Nat} (hk : rowR A k) : b ≤ k ∧ k < w.heap.size := by
  obtain ⟨a, ha, rfl⟩ := hk
  rcases h.2 with ⟨h1, _⟩ | ⟨g, cs, h1, h2, _, _, _, h5, _⟩
  · rw [h1] at ha; cases ha
  · rw [h1] at ha; injection ha with ha; subst ha
    exact ⟨h2, h5.lt⟩
theorem Row.low {b' : Nat} (h : Row w b e size A c q xs) (hb : b' ≤ b) : Row w b' e size A c q xs := by
  refine ⟨h.1, ?_⟩
  rcases h.2 with h2 | ⟨g, cs, rfl, h1, r⟩
  · exact .inl h2
  · exact .inr ⟨g, cs, rfl, Nat.le_trans hb h1, r⟩
theorem Row.le (h : Row w b e size A c q xs) : q ≤ c := by
  rcases h.2 with ⟨_, h2, h3⟩ | ⟨g, cs, _, _, h2, _⟩
  · omega
  · exact h2
theorem Row.len (h : Row w b e size A c q xs) : xs.length = q * size := h.1
theorem Row.cells (h : Row w b e size A c q xs) : Cells w A xs := by
  rcases h.2 with ⟨_, _, h3⟩ | ⟨g, cs, rfl, _, _, _, _, h5, h6⟩
  · have := h.1
    rw [h3, Nat.zero_mul] at this
    have : xs = [] := List.eq_nil_of_length_eq_zero this
    subst this
    exact Cells.nil _ _
  · rw [← h6]
    exact (Cells.blk0 h5).take _
theorem Row.of_own (h : w.ownsRow b e size (.slice A n c) n xs) : Row w b e size A c n xs := by
  refine ⟨h.1, ?_⟩
  rcases h.2 with ⟨hv, h0⟩ | ⟨g, cap, cur, hv, hb, hg, hc, hm, hs, ht⟩
  · injection hv with h1 _ h3
    exact .inl ⟨h1, h3, h0⟩
  · injection hv with h1 _ h3
    subst h1; subst h3
    refine .inr ⟨g, cur.toList, rfl, hb, hc, by simp [hs], hm, by unfold Blk; simpa using hg, ?_⟩
    simpa using ht
theorem Row.of_win (h : Win w b e (.slice A n c) n xs) : Row w b e 1 A c n xs := by
  refine ⟨by have := h.1; omega, ?_⟩
  rcases h.2 with ⟨hv, h0⟩ | ⟨g, c', cs, hv, h1, h2, h3, h4, h5, h6⟩
  · injection hv with h1 _ h3
    exact .inl ⟨h1, h3, h0⟩
  · injection hv with h1' _ h3'
    subst h1'; subst h3'
    exact .inr ⟨g, cs, rfl, h1, h2, by omega, h4, h5, by rw [Nat.mul_one]; exact h6⟩
def Fct.row (b e size : Nat) (A : Option Addr) (c q : Nat) (xs : List Value) : Fct := ⟨rowR A, fun w => Row w b e size A c q xs, fun _ _ _ h _ hm hn => h.mod hm fun k hk => hn k hk⟩
theorem rowR_own {A : Option Addr} {n c k : Nat} (h : rowR A k) : (Value.slice A n c).ownBlock = some k := by
  obtain ⟨a, rfl, rfl⟩ := h
  simp [Value.ownBlock]
variable {Γ : List Fct}
theorem Sep.row (H : Sep Γ w) (i : Nat) (hi : Γ[i]? = some (Fct.row b e size A c q xs)) : Row w b e size A c q xs := H.yes i _ hi
theorem Sep.ownRow (H : Sep Γ w) (i : Nat) (hi : Γ[i]? = some (Fct.own b e size (.slice A n c) n xs)) : Sep (Γ.set i (Fct.row b e size A c n xs)) w :=
  H.weaken i hi (Row.of_own (H.own i hi)) fun _ h => rowR_own h
theorem Sep.winRow (H : Sep Γ w) (i : Nat) (hi : Γ[i]? = some (Fct.win b e (.slice A n c) n xs)) : Sep (Γ.set i (Fct.row b e 1 A c n xs)) w :=
  H.weaken i hi (Row.of_win (H.win i hi)) fun _ h => rowR_own h
theorem own_le_row {b' : Nat} (h : b' ≤ b) : (∀ w, (Fct.own b e size (.slice A n c) n xs).φ w → (Fct.row b' e size A c n xs).φ w) ∧ ∀ k, (Fct.row b' e size A c n xs).R k → (Fct.own b e size (.slice A n c) n xs).R k :=
  ⟨fun _ h1 => (Row.of_own h1).low h, fun _ h1 => rowR_own h1⟩
/-! ### Writing into a block -/
theorem splice_take_all {cs vs : List Value} {o Q : Nat} (ho : o + vs.length ≤ cs.length) : (splice cs o vs).take (max Q (o + vs.length)) = splice (cs.take (max Q o)) o vs := by
  unfold splice
  have h1 : (cs.take o).length = o := by rw [List.length_take]; omega
  have h2 : ((cs.take (max Q o)).take o) = cs.take o := by rw [List.take_take, Nat.min_eq_left (Nat.le_max_right _ _)]
  rw [h2, List.take_append, h1, List.take_append, List.take_of_length_le (l := cs.take o) (by rw [h1]; omega), List.take_of_length_le (l := vs) (by omega)]
  congr 2
  rw [List.drop_take]
  congr 1
  omega
theorem blk_setCells {g t : Nat} : ∀ (vs : List Value) (o : Nat) (cs : List Value) (w : World), Blk w g t cs → o + vs.length ≤ cs.length →
    Blk (w.setCells g o vs) g t (splice cs o vs) ∧ Mod (fun k => k = g) w (w.setCells g o vs) ∧ (w.setCells g o vs).heap.size = w.heap.size
  | [], o, cs, w, h, _ => ⟨by
      have e : splice cs o [] = cs := by unfold splice; simp
      rw [e]; exact h, Mod.refl _ _, rfl⟩
  | v :: r, o, cs, w, h, hc => by
    simp only [List.length_cons] at hc
    obtain ⟨h3, hm, hz⟩ := blk_setCells r (o + 1) (cs.set o v) (w.setCell ⟨g, o, none⟩ v) (h.set o v) (by rw [List.length_set]; omega)
    rw [splice_step cs o v r (by omega)] at h3
    refine ⟨h3, (Mod.setCell w ⟨g, o, none⟩ v).trans hm, ?_⟩
    show ((w.setCell ⟨g, o, none⟩ v).setCells g (o + 1) r).heap.size = _
    rw [hz]; simp
/-- One element is written. -/
theorem IdxVC.rowSep (H : Sep Γ w) (j : Nat) (hi : Γ[j]? = some (Fct.row b e size A c q xs)) {i m : Nat} {F : Addr → Prop} (h1 : i < q) (h2 : i < m) (hsz : 0 < size)
    (hF : ∀ a, (∀ vs K, vs.length = size → (∀ v ∈ vs, v.oneCell' = true) → (∀ w', Sep (Γ.set j (Fct.row b e size A c q (splice xs (i * size) vs))) w' → K w') → Stores a 0 vs w K) → F a) : IdxVC A m size (i : Int) F := by
  have hR := H.row j hi
  have hlen := hR.1
  have hq : (i + 1) * size ≤ q * size := Nat.mul_le_mul_right _ h1
  rw [Nat.add_mul, Nat.one_mul] at hq
  rcases hR.2 with ⟨_, _, h0⟩ | ⟨g, cs, rfl, hb, hqc, hcs, hm, hB, ht⟩
  · omega
  have hcq : q * size ≤ c * size := Nat.mul_le_mul_right _ hqc
  refine ⟨_, rfl, by omega, by omega, ?_⟩
  rw [Int.toNat_natCast, addr_add, Nat.zero_add]
  refine hF _ fun vs K hl hv hK => Stores.blk hB hv (by omega) fun w' hz hmod hB' => hK w' (H.mod j hi hmod (fun k _ e => ⟨_, rfl, e.symm⟩) _ ?_ fun k hk => .inl hk)
  rw [Nat.add_zero] at hB'
  have hsl : (splice xs (i * size) vs).length = q * size := by rw [splice_len (by omega), hlen]
  refine ⟨hsl, .inr ⟨g, _, rfl, hb, hqc, by rw [splice_len (by omega)]; omega, hm, hB', ?_⟩⟩
  have hmx : max (q * size) (i * size + vs.length) = q * size := by omega
  have := splice_take_all (cs := cs) (vs := vs) (o := i * size) (Q := q * size) (by omega)
  rw [hmx, show max (q * size) (i * size) = q * size by omega, ht] at this
  exact this
/-! ### append -/
/-- append onto a list that stands on a row: in its place, or in new memory. -/
theorem AppVC.row {t ty : TypeId} {z : Value} {bytes : Nat} (ht : P.underlying t = some (.slice e)) (hT : TypeIs P e z size bytes) (hzs : z.cells.size = size) (hsz : 0 < size)
    {A' : Option Addr} {m c' : Nat} {news : List Value} {F : Option Addr → Nat → Nat → World → Prop}
    (hR : Row w b e size A c q xs) (hnq : n ≤ q) (hsrc : Cells w A' news) (hl : news.length = m * size) (h0 : 0 < m) (h1 : ∀ u ∈ news, u.oneCell' = true)
    (hbytes : (n + m) * bytes ≤ 140737488355328) (hb0 : 0 < bytes)
    (hin : n + m ≤ c → ∀ w', Row w' b e size A c (max q (n + m)) (splice xs (n * size) news) → Mod (rowR A) w w' → F A (n + m) c w')
    (hout : ∀ A2 c2 w', w'.ownsRow w.heap.size e size (.slice A2 (n + m) c2) (n + m) (xs.take (n * size) ++ news) → Ext w w' → F A2 (n + m) c2 w') :
    AppVC P #[t, t] ty (.slice A n c) (.slice A' m c') w F := by
  obtain ⟨i, hi, hz, hs, hy⟩ := hT
  have h63 : n + m ≤ maxLen := by
    have : (n + m) * 1 ≤ (n + m) * bytes := Nat.mul_le_mul_left _ hb0
    simp only [maxLen]; omega
  have hlen := hR.1
  have hnq' : n * size ≤ q * size := Nat.mul_le_mul_right _ hnq
  have hpos : 0 < news.length := by rw [hl]; exact Nat.mul_pos h0 hsz
  obtain ⟨a', ha', _⟩ := hsrc.at (i := 0) hpos
  subst ha'
  have hsrc' : ∀ j u, news[j]? = some u → w.cell? (a'.add j) = some u := fun j u hu => by
    obtain ⟨b', ha, hc⟩ := hsrc j u hu; cases ha; exact hc
  rcases hR.2 with ⟨rfl, rfl, rfl⟩ | ⟨g, cs, rfl, hb, hqc, hcs, hm, hB, htk⟩
  · have hn0 : n = 0 := by omega
    subst hn0
    have hx : xs = [] := List.eq_nil_of_length_eq_zero (by omega)
    subst hx
    refine AppVC.own ht hi hz hs hy hzs hsz (base := w.heap.size) (World.ownsRow_nil _ _ _ _) hsrc hl h1 hbytes hb0 (Nat.le_refl _) fun A2 c2 w2 ho hm2 _ => ?_
    exact hout A2 c2 w2 (by simpa using ho) (hm2.mono fun k _ e => by simp [Value.ownBlock] at e)
  have hcq : q * size ≤ c * size := Nat.mul_le_mul_right _ hqc
  by_cases hroom : n + m ≤ c
  · have hnm : (n + m) * size ≤ c * size := Nat.mul_le_mul_right _ hroom
    rw [Nat.add_mul, ← hl] at hnm
    have hr := run_append_room_cells (P := P) w t ty e i ht hi g 0 n c a' m c' news (by rw [hs]; exact hl) hsrc' h1 hroom
      (fun j hj => by
        rw [hs, Nat.zero_add, hB.cell, List.getElem?_eq_getElem (by omega)]; rfl) (fun j hj => hB.frozen _)
    rw [hs, Nat.zero_add] at hr
    obtain ⟨h2, h3, h4⟩ := blk_setCells news (n * size) cs w hB (by omega)
    refine ⟨_, _, _, _, hr, hin hroom _ ?_ (h3.mono fun k _ hk => ⟨_, rfl, hk.symm⟩)⟩
    have hmx : max q (n + m) * size = max (q * size) (n * size + news.length) := by
      rw [hl, ← Nat.add_mul]
      rcases Nat.le_total q (n + m) with h | h
      · rw [Nat.max_eq_right h, Nat.max_eq_right (Nat.mul_le_mul_right _ h)]
      · rw [Nat.max_eq_left h, Nat.max_eq_left (Nat.mul_le_mul_right _ h)]
    have hT := splice_take_all (cs := cs) (vs := news) (o := n * size) (Q := q * size) (by omega)
    rw [show max (q * size) (n * size) = q * size by omega, htk, ← hmx] at hT
    refine ⟨?_, .inr ⟨g, _, rfl, hb, by omega, by rw [splice_len (by omega)]; omega, hm, h2, hT⟩⟩
    rw [← hT, List.length_take, splice_len (by omega)]
    have : max q (n + m) * size ≤ c * size := Nat.mul_le_mul_right _ (by omega)
    omega
  · have hold : Cells w (some ⟨g, 0, none⟩) (xs.take (n * size)) := hR.cells.take _
    obtain ⟨v', w', hr, ho, hgr⟩ := run_append_arg_grows (P := P) (w := w) t ty e i z size bytes ht hi hz hs hy hzs hsz ⟨g, 0, none⟩ n c (xs.take (n * size)) (by rw [List.length_take]; omega)
      (fun j u hu => by obtain ⟨a, ha, hc⟩ := hold j u hu; cases ha; exact hc) a' m c' news hl hsrc' (by omega) h63 hbytes
    obtain ⟨A2, c2, rfl, _, _⟩ := own_form ho
    exact ⟨A2, n + m, c2, w', hr, hout A2 c2 w' ho ((Mod.grown hgr).mono fun k hk e => by cases e)⟩
theorem AppVC.rowSep (H : Sep Γ w) (j : Nat) (hi : Γ[j]? = some (Fct.row b e size A c q xs)) {t ty : TypeId} {z : Value} {bytes : Nat} (ht : P.underlying t = some (.slice e)) (hT : TypeIs P e z size bytes) (hzs : z.cells.size = size) (hsz : 0 < size)
    {A' : Option Addr} {m c' : Nat} {news : List Value} {F : Option Addr → Nat → Nat → World → Prop}
    (hnq : n ≤ q) (hsrc : Cells w A' news) (hl : news.length = m * size) (h0 : 0 < m) (h1 : ∀ u ∈ news, u.oneCell' = true)
    (hbytes : (n + m) * bytes ≤ 140737488355328) (hb0 : 0 < bytes) (hbase : b ≤ w.heap.size)
    (hin : n + m ≤ c → ∀ w', Sep (Γ.set j (Fct.row b e size A c (max q (n + m)) (splice xs (n * size) news))) w' → F A (n + m) c w')
    (hout : ∀ A2 c2 w', Sep (Γ ++ [Fct.row b e size A2 c2 (n + m) (xs.take (n * size) ++ news)]) w' → F A2 (n + m) c2 w') :
    AppVC P #[t, t] ty (.slice A n c) (.slice A' m c') w F :=
  AppVC.row ht hT hzs hsz (H.row j hi) hnq hsrc hl h0 h1 hbytes hb0 (fun hr w' hR hm => hin hr w' (H.mod j hi hm (fun _k _ hk => hk) _ hR fun _k hk => .inl hk))
    fun A2 c2 w' ho hE => hout A2 c2 w' (H.push hE _ ((Row.of_own ho).low hbase) fun _k hk => (Row.of_own ho).lt hk)
/-! ### One value behind another: marks, then tails -/
def reps (k : Nat) (v : List Value) : List Value := (List.replicate k v).flatten
theorem reps_len (k : Nat) (v : List Value) : (reps k v).length = k * v.length := by
  unfold reps
  rw [List.length_flatten, List.map_replicate, List.sum_replicate_nat]
theorem reps_add (j k : Nat) (v : List Value) : reps (j + k) v = reps j v ++ reps k v := by
  unfold reps
  rw [← List.replicate_append_replicate, List.flatten_append]
theorem reps_one (v : List Value) : reps 1 v = v := by simp [reps]
theorem reps_zero (v : List Value) : reps 0 v = [] := rfl
theorem reps_take {j k : Nat} (v : List Value) (h : j ≤ k) : (reps k v).take (j * v.length) = reps j v := by
  obtain ⟨d, rfl⟩ := Nat.exists_eq_add_of_le h
  rw [reps_add, ← reps_len j v, List.take_left' rfl]
theorem reps_drop {j k : Nat} (v : List Value) (h : j ≤ k) : (reps k v).drop (j * v.length) = reps (k - j) v := by
  obtain ⟨d, rfl⟩ := Nat.exists_eq_add_of_le h
  rw [reps_add, ← reps_len j v, List.drop_left' rfl, Nat.add_sub_cancel_left]
theorem reps_bts {v : List Value} {k : Nat} (h : ∀ u ∈ v, u.oneCell' = true) : ∀ u ∈ reps k v, u.oneCell' = true := fun u hu => by
  unfold reps at hu
  obtain ⟨l, hl, hu⟩ := List.mem_flatten.1 hu
  rw [(List.mem_replicate.1 hl).2] at hu
  exact h u hu
/-- Marks, then tails: of a list that holds k tails, m more behind the first a. -/
theorem splice_tails {M u : List Value} {a k m o : Nat} (ha : a ≤ k) (ho : o = M.length + a * u.length) : splice (M ++ reps k u) o (reps m u) = M ++ reps (max k (a + m)) u := by
  subst ho
  unfold splice
  have h1 : (M ++ reps k u).take (M.length + a * u.length) = M ++ reps a u := by rw [List.take_append, List.take_of_length_le (by omega), Nat.add_sub_cancel_left, reps_take u ha]
  have h2 : (M ++ reps k u).drop (M.length + a * u.length + (reps m u).length) = reps (k - (a + m)) u := by
    rw [List.drop_append, List.drop_of_length_le (by omega), List.nil_append, Nat.add_assoc, Nat.add_sub_cancel_left, reps_len, ← Nat.add_mul]
    rcases Nat.le_total (a + m) k with h | h
    · exact reps_drop u h
    · rw [List.drop_of_length_le (by rw [reps_len]; exact Nat.mul_le_mul_right _ h), show k - (a + m) = 0 by omega]; rfl
  rw [h1, h2, List.append_assoc, ← reps_add, ← reps_add]
  congr 2
  omega
theorem take_tails {M u : List Value} {a k o : Nat} (ha : a ≤ k) (ho : o = M.length + a * u.length) : (M ++ reps k u).take o = M ++ reps a u := by
  subst ho
  rw [List.take_append, List.take_of_length_le (by omega), Nat.add_sub_cancel_left, reps_take u ha]
theorem splice_one {xs : List Value} {i : Nat} {v : Value} (h : i < xs.length) : splice xs i [v] = xs.set i v := by
  unfold splice
  rw [List.set_eq_take_append_cons_drop, if_pos h]
  rfl
/-- One cell is written. -/
theorem IdxVC.rowSet (H : Sep Γ w) (j : Nat) (hi : Γ[j]? = some (Fct.row b e 1 A c q xs)) {i m : Nat} {F : Addr → Prop} (h1 : i < q) (h2 : i < m)
    (hF : ∀ a, (∀ v K, v.oneCell' = true → (∀ w', Sep (Γ.set j (Fct.row b e 1 A c q (xs.set i v))) w' → K w') → SetVC w a v K) → F a) : IdxVC A m 1 (i : Int) F :=
  IdxVC.rowSep H j hi h1 h2 (by decide) fun a ha => hF a fun v K hv hK => by
    have hlen := (H.row j hi).1
    have h := ha [v] K rfl (fun u hu => by simp at hu; subst hu; exact hv) (fun w' H' => hK w' (by
      rw [Nat.mul_one, splice_one (by omega)] at H'; exact H'))
    simpa [Stores, hv, add_zero] using h
/-- Tails are laid behind the marks of a row and a of its tails. -/
theorem AppVC.tails (H : Sep Γ w) (j : Nat) {M u : List Value} {k a m : Nat} (hi : Γ[j]? = some (Fct.row b e size A c (n + k) (M ++ reps k u))) {t ty : TypeId} {z : Value} {bytes : Nat} (ht : P.underlying t = some (.slice e)) (hT : TypeIs P e z size bytes) (hzs : z.cells.size = size) (hsz : 0 < size)
    {A' : Option Addr} {c' : Nat} {F : Option Addr → Nat → Nat → World → Prop} (hM : M.length = n * size) (hu : u.length = size) (hu1 : ∀ v ∈ u, v.oneCell' = true) (hak : a ≤ k) (hsrc : Cells w A' (reps m u)) (h0 : 0 < m)
    (hbytes : (n + a + m) * bytes ≤ 140737488355328) (hb0 : 0 < bytes) (hbase : b ≤ w.heap.size)
    (hin : n + a + m ≤ c → ∀ w', Sep (Γ.set j (Fct.row b e size A c (n + max k (a + m)) (M ++ reps (max k (a + m)) u))) w' → F A (n + a + m) c w')
    (hout : ∀ A2 c2 w', Sep (Γ ++ [Fct.row b e size A2 c2 (n + a + m) (M ++ reps (a + m) u)]) w' → F A2 (n + a + m) c2 w') :
    AppVC P #[t, t] ty (.slice A (n + a) c) (.slice A' m c') w F := by
  have ho : (n + a) * size = M.length + a * u.length := by rw [hM, hu, Nat.add_mul]
  refine AppVC.rowSep H j hi ht hT hzs hsz (by omega) hsrc (by rw [reps_len, hu]) h0 (reps_bts hu1) hbytes hb0 hbase (fun hr w' H' => hin hr w' ?_) fun A2 c2 w' H' => hout A2 c2 w' ?_
  · rw [splice_tails hak ho, show max (n + k) (n + a + m) = n + max k (a + m) by omega] at H'
    exact H'
  · rw [take_tails hak ho, List.append_assoc, ← reps_add] at H'
    exact H'
theorem reps_map {k : IntKind} (n : Nat) (x : Int) : reps n [Value.int k x] = (List.replicate n x).map (.int k) := by
  unfold reps
  induction n with
  | zero => rfl
  | succ n ih => rw [List.replicate_succ, List.flatten_cons, ih, List.replicate_succ]; rfl
end
end Go.Eng
/- Lists that are lengthened one by one, in their place or in new memory: what they stand on at the end. It speaks of any program. -/
namespace Go.Eng
open Go Go.RowKit
section
variable {P : Program} {w w' : World} {b e size n c : Nat} {A : Option Addr} {M u : List Value} {Γ : List Fct}
/-- A base row of marks and tails. -/
abbrev baseR (b e size : Nat) (A : Option Addr) (c n : Nat) (M u : List Value) (k : Nat) : Fct := Fct.row b e size A c (n + k) (M ++ reps k u)
/-- What a list that was lengthened by m stands on: its base, or a row of its own. -/
inductive Grown (b e size : Nat) (A : Option Addr) (c n : Nat) (M u : List Value) (k m : Nat) : Option Addr → Nat → List Fct → Prop
  | base (h : m ≤ k) : Grown b e size A c n M u k m A c []
  | own (Ag : Option Addr) (cg : Nat) : Grown b e size A c n M u k m Ag cg [baseR b e size Ag cg n M u m]
theorem Grown.more {k k' m : Nat} {Ag : Option Addr} {cg : Nat} {X : List Fct} (h : Grown b e size A c n M u k m Ag cg X) (hk : k ≤ k') : Grown b e size A c n M u k' m Ag cg X := by
  cases h with
  | base h => exact .base (by omega)
  | own => exact .own _ _
theorem base_cells {k m : Nat} (h : Row w b e size A c (n + k) (M ++ reps k u)) (hm : m ≤ k) : Cells w A (M ++ reps m u) := by
  have := h.cells.take (M.length + m * u.length)
  rwa [take_tails hm rfl] at this
theorem Grown.cells {k m : Nat} {Ag : Option Addr} {cg : Nat} {X : List Fct} (h : Grown b e size A c n M u k m Ag cg X) (hb : (baseR b e size A c n M u k).φ w) (hX : ∀ f ∈ X, f.φ w) : Cells w Ag (M ++ reps m u) := by
  cases h with
  | base h => exact base_cells hb h
  | own => exact Row.cells (hX _ List.mem_cons_self)
theorem Grown.le {k m : Nat} {Ag : Option Addr} {cg : Nat} {X : List Fct} (h : Grown b e size A c n M u k m Ag cg X) (hb : (baseR b e size A c n M u k).φ w) (hX : ∀ f ∈ X, f.φ w) : n + m ≤ cg := by
  cases h with
  | base h => have := Row.le hb; omega
  | own => exact Row.le (hX _ List.mem_cons_self)
/-- m tails more, behind the a that a list has. -/
theorem AppVC.grown {k a m : Nat} {Ag : Option Addr} {cg : Nat} {X : List Fct} (hG : Grown b e size A c n M u k a Ag cg X) (H : Sep (baseR b e size A c n M u k :: (X ++ Γ)) w)
    {t ty : TypeId} {z : Value} {bytes : Nat} (ht : P.underlying t = some (.slice e)) (hT : TypeIs P e z size bytes) (hzs : z.cells.size = size) (hsz : 0 < size)
    {A' : Option Addr} {c' : Nat} {F : Option Addr → Nat → Nat → World → Prop} (hM : M.length = n * size) (hu : u.length = size) (hu1 : ∀ v ∈ u, v.oneCell' = true) (hsrc : Cells w A' (reps m u)) (h0 : 0 < m)
    (hbytes : (n + a + m) * bytes ≤ 140737488355328) (hb0 : 0 < bytes) (hbase : b ≤ w.heap.size)
    (h : ∀ (k' : Nat) (A2 : Option Addr) (c2 : Nat) (X' : List Fct) (w' : World), k ≤ k' → Grown b e size A c n M u k' (a + m) A2 c2 X' → Sep (baseR b e size A c n M u k' :: (X' ++ Γ)) w' → F A2 (n + (a + m)) c2 w') :
    AppVC P #[t, t] ty (.slice Ag (n + a) cg) (.slice A' m c') w F := by
  cases hG with
  | base hak =>
    refine AppVC.tails H 0 rfl ht hT hzs hsz hM hu hu1 hak hsrc h0 hbytes hb0 hbase (fun hr w' H' => ?_) fun A2 c2 w' H' => ?_
    · have := h (max k (a + m)) _ _ [] w' (by omega) (.base (by omega)) H'
      rw [← Nat.add_assoc] at this; exact this
    · have H' := H'.front.perm (.swap _ _ _)
      have e1 : n + a + m = n + (a + m) := Nat.add_assoc _ _ _
      rw [e1] at H' ⊢
      exact h k A2 c2 [baseR b e size A2 c2 n M u (a + m)] w' (Nat.le_refl _) (.own _ _) H'
  | own =>
    refine AppVC.tails (a := a) (k := a) H 1 rfl ht hT hzs hsz hM hu hu1 (Nat.le_refl _) hsrc h0 hbytes hb0 hbase (fun hr w' H' => ?_) fun A2 c2 w' H' => ?_
    · rw [show max a (a + m) = a + m by omega] at H'
      have := h k Ag cg [baseR b e size Ag cg n M u (a + m)] w' (Nat.le_refl _) (.own _ _) H'
      rw [← Nat.add_assoc] at this; exact this
    · have e1 : n + a + m = n + (a + m) := Nat.add_assoc _ _ _
      rw [e1] at H' ⊢
      have H' := H'.front.perm (.swap _ _ _)
      refine h k A2 c2 [baseR b e size A2 c2 n M u (a + m)] w' (Nat.le_refl _) (.own _ _) (H'.sub (.cons_cons _ (.cons_cons _ ?_)))
      exact .cons _ (List.Sublist.refl _)
/-- One part among many is looked at first. -/
theorem Sep.focus {X Y : List Fct} {f : Fct} (H : Sep (Γ ++ (X ++ f :: Y)) w) : Sep (f :: (Γ ++ (X ++ Y))) w := by
  refine H.perm ?_
  have h1 : (Γ ++ (X ++ f :: Y)).Perm (f :: (Γ ++ (X ++ Y))) := by
    rw [← List.append_assoc, ← List.append_assoc]
    exact List.perm_middle
  exact h1.symm
end
end Go.Eng
/- Lists of rows that are written full and lengthened. It speaks of any program. -/
namespace Go.Eng
open Go Go.RowKit
/-- A list of elements, as its row began. -/
structure GR where
  A : Option Addr
  n : Nat
  c : Nat
  xs : List Value
def GR.val (r : GR) : Value := .slice r.A r.n r.c
def rawR (b e s : Nat) (r : GR) : Fct := Fct.row b e s r.A r.c r.n r.xs
def fullR (b e s : Nat) (mk : Nat → List Value) (i : Nat) (r : GR) : Fct := Fct.row b e s r.A r.c r.n (reps r.n (mk i))
def mapI {α β : Type} (f : Nat → α → β) : Nat → List α → List β
  | _, [] => []
  | j, a :: l => f j a :: mapI f (j + 1) l
theorem mapI_snoc {α β : Type} (f : Nat → α → β) : ∀ (l : List α) (j : Nat) (a : α), mapI f j (l ++ [a]) = mapI f j l ++ [f (j + l.length) a]
  | [], j, a => rfl
  | x :: l, j, a => by
    show f j x :: mapI f (j + 1) (l ++ [a]) = _
    rw [mapI_snoc f l (j + 1) a]
    show _ = f j x :: mapI f (j + 1) l ++ [f (j + (l.length + 1)) a]
    rw [show j + 1 + l.length = j + (l.length + 1) by omega]; rfl
theorem drop_consA {α : Type} {l : List α} {i : Nat} {a : α} (h : l[i]? = some a) : l.drop i = a :: l.drop (i + 1) := by
  obtain ⟨hi, rfl⟩ := List.getElem?_eq_some_iff.1 h
  exact List.drop_eq_getElem_cons hi
theorem take_snocA {α : Type} {l : List α} {i : Nat} {a : α} (h : l[i]? = some a) : l.take (i + 1) = l.take i ++ [a] := by
  rw [List.take_add_one, h]; rfl
section
variable {w w' : World} {Γ : List Fct} {f : Fct} {lA : Option Addr} {ln : Nat} {rows : List GR}
theorem Sep.mid {Y Z : List Fct} (H : Sep (Y ++ f :: Z) w) : Sep (f :: (Y ++ Z)) w := H.perm List.perm_middle.symm
theorem Sep.dropEnd {Y : List Fct} (H : Sep (Y ++ [f]) w) : Sep Y w := H.sub (List.sublist_append_left _ _)
theorem perm_unfocus {X Y Z : List Fct} : (Γ ++ (X ++ (f :: Z) ++ Y)).Perm (f :: (Z ++ (Γ ++ (X ++ Y)))) := by
  have h1 : (Γ ++ (X ++ (f :: Z) ++ Y)).Perm ((f :: Z) ++ (Γ ++ (X ++ Y))) := by
    rw [List.append_assoc, ← List.append_assoc, ← List.append_assoc Γ X Y]
    exact List.perm_append_comm_assoc _ _ _
  exact h1
theorem idx_rowsD {S : World → Prop} {i : Nat} {r : GR} (hw : S w) (hS : ∀ w', S w' → Cells w' lA (rows.map GR.val)) (hr : rows[i]? = some r) (hl : rows.length = ln) {F : Addr → Prop} (hF : ∀ a, (∀ w', S w' → w'.cell? a = some (.slice r.A r.n r.c)) → F a) : IdxVC lA ln 1 (i : Int) F := by
  have hi := (List.getElem?_eq_some_iff.1 hr).1
  have hg : (rows.map GR.val)[i]? = some (.slice r.A r.n r.c) := by rw [List.getElem?_map, hr]; rfl
  obtain ⟨a, ha, _⟩ := hS w hw i _ hg
  refine ⟨a, ha, by omega, by omega, hF _ fun w' hw' => ?_⟩
  obtain ⟨a', ha', hc⟩ := hS w' hw' i _ hg
  rw [ha] at ha'; cases ha'
  rw [Int.toNat_natCast, Nat.mul_one]; exact hc
theorem idx_rows {i : Nat} {r : GR} (h : Cells w lA (rows.map GR.val)) (hr : rows[i]? = some r) (hl : rows.length = ln) {F : Addr → Prop} (hF : ∀ a, w.cell? a = some (.slice r.A r.n r.c) → F a) : IdxVC lA ln 1 (i : Int) F :=
  idx_rowsD (S := fun w' => w' = w) rfl (fun w' e => by rw [e]; exact h) hr hl fun a ha => hF a (ha w rfl)
theorem full_cells {xs : List Value} {v : Value} {n : Nat} (hl : xs.length = n) (h : ∀ j, j < n → xs[j]? = some v) : xs = reps n [v] := by
  have e : ∀ n, reps n [v] = List.replicate n v := fun n => by
    unfold reps
    induction n with
    | zero => rfl
    | succ n ih => rw [List.replicate_succ, List.flatten_cons, ih, List.replicate_succ]; rfl
  rw [e]
  refine List.ext_getElem (by simp [hl]) fun i h1 h2 => ?_
  have := h i (by omega)
  rw [List.getElem?_eq_getElem h1] at this
  injection this with this
  rw [this]; simp
end
end Go.Eng
namespace Go.Eng
open Go Go.RowKit
section
variable {w : World} {A : Option Addr}
/-- A row's front is written, element by element. -/
theorem splice_front {P zs v : List Value} : splice (P ++ zs) P.length v = P ++ v ++ zs.drop v.length := by
  unfold splice
  rw [List.take_left' rfl, List.drop_append, List.drop_of_length_le (by omega), List.nil_append, Nat.add_sub_cancel_left, List.append_assoc]
end
end Go.Eng
/- Permutations of lists of parts, by counting; elements of a list that holds one mark alone. -/
namespace Go.Eng
open Go Go.RowKit
theorem perm_cnt {α : Type} {l1 l2 : List α} (h : ∀ (c : List α → Nat) (o : α → Nat), (∀ l l', c (l ++ l') = c l + c l') → (∀ x l, c (x :: l) = o x + c l) → c [] = 0 → c l1 = c l2) : l1.Perm l2 := by
  classical
  refine List.perm_iff_count.2 fun a => h (List.count a) (fun x => if x == a then 1 else 0) (fun l l' => List.count_append) (fun x l => ?_) List.count_nil
  rw [List.count_cons]; omega
theorem idx_rep {w : World} {A : Option Addr} {u : List Value} {n size j m : Nat} (h : Cells w A (reps n u)) (hu : u.length = size) (h0 : 0 < size) (hj : j < n) (hm : n = m) {F : Addr → Prop} (hF : ∀ a, CellsAt w a 0 u → F a) : IdxVC A m size (j : Int) F :=
  IdxVC.recD (w := w) (fun w3 => w3 = w) rfl (fun w3 e => by rw [e]; exact Recs.of_cells h0 (fun r hr => by rw [List.eq_of_mem_replicate hr]; exact hu) h) (by rw [List.length_replicate]; exact hm) (cs := u) (by rw [List.getElem?_replicate, if_pos hj]) fun a ha => hF a (ha w rfl)
end Go.Eng
