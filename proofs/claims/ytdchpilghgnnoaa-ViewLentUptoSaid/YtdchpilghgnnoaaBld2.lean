/- Builders, call by call: Put and Bytes. -/
import Derived.Test.YtdchpilghgnnoaaBld
namespace Go.Proofs.Ytdchpilghgnnoaa
open Go.Eng Go.RowKit

/-- A builder of the program's. -/
structure Bd (w : World) (base gb : Nat) (A : Option Addr) (c n : Nat) (xs : List Int) (max : Int) : Prop where
  cur : Blk w gb 101 [.slice A n c, .int .i64 max]
  own : w.ownsRow base 5 1 (.slice A n c) n (xs.map (.int .u8))
  len : xs.length = n
  bts : Bts xs
  m0 : (n : Int) ≤ max
  m1 : max ≤ 65535
  base : base ≤ w.heap.size
  ne : ∀ k, some k = (Value.slice A n c).ownBlock → k ≠ gb
/-- The document's own builder. -/
structure RBd (w : World) (base gb : Nat) (A : Option Addr) (c n : Nat) (xs : List Int) (max : Int) : Prop where
  cur : Blk w gb 49 [.int .i64 max, .slice A n c]
  own : w.ownsRow base 5 1 (.slice A n c) n (xs.map (.int .u8))
  len : xs.length = n
  bts : Bts xs
  m0 : (n : Int) ≤ max
  m1 : max ≤ 65535
  base : base ≤ w.heap.size
  ne : ∀ k, some k = (Value.slice A n c).ownBlock → k ≠ gb
def BF (gb : Nat) (A : Option Addr) (c n : Nat) (k : Nat) : Prop := k = gb ∨ some k = (Value.slice A n c).ownBlock
/-- Where the row lies now: where it lay, or in a block that is new. -/
def Near (w : World) (A : Option Addr) (c n : Nat) (A' : Option Addr) (c' n' : Nat) : Prop := ∀ k, some k = (Value.slice A' n' c').ownBlock → some k = (Value.slice A n c).ownBlock ∨ w.heap.size ≤ k
theorem Near.refl (w : World) (A : Option Addr) (c n : Nat) : Near w A c n A c n := fun _ h => .inl h
theorem Near.trans {w w' : World} {A A' A'' : Option Addr} {c n c' n' c'' n'' : Nat} (h : Near w A c n A' c' n') (h' : Near w' A' c' n' A'' c'' n'') (hs : w.heap.size ≤ w'.heap.size) : Near w A c n A'' c'' n'' := fun k hk => by
  rcases h' k hk with e | e
  · exact h k e
  · exact .inr (by omega)
section
variable {w w' : World} {base gb c n : Nat} {A : Option Addr} {xs : List Int} {max : Int}
theorem Bd.mod {M : Nat → Prop} (h : Bd w base gb A c n xs max) (hm : Mod M w w') (hn : ∀ k, BF gb A c n k → ¬ M k) : Bd w' base gb A c n xs max :=
  { h with cur := h.cur.mod hm (hn _ (.inl rfl)), own := own_mod h.own hm (fun g hg => hn g (.inr hg.symm)), base := Nat.le_trans h.base hm.size }
theorem Bd.ext (h : Bd w base gb A c n xs max) (hE : Ext w w') : Bd w' base gb A c n xs max := h.mod hE fun _ _ => id
theorem RBd.mod {M : Nat → Prop} (h : RBd w base gb A c n xs max) (hm : Mod M w w') (hn : ∀ k, BF gb A c n k → ¬ M k) : RBd w' base gb A c n xs max :=
  { h with cur := h.cur.mod hm (hn _ (.inl rfl)), own := own_mod h.own hm (fun g hg => hn g (.inr hg.symm)), base := Nat.le_trans h.base hm.size }
theorem RBd.ext (h : RBd w base gb A c n xs max) (hE : Ext w w') : RBd w' base gb A c n xs max := h.mod hE fun _ _ => id
theorem Bd.lt (h : Bd w base gb A c n xs max) : ∀ k, BF gb A c n k → k < w.heap.size := by
  rintro k (rfl | hk)
  · exact h.cur.lt
  · exact (h.own.lt k hk.symm).2
theorem RBd.lt (h : RBd w base gb A c n xs max) : ∀ k, BF gb A c n k → k < w.heap.size := by
  rintro k (rfl | hk)
  · exact h.cur.lt
  · exact (h.own.lt k hk.symm).2
end

/-- One part that is to be laid in. -/
structure PartV where
  A : Option Addr
  n : Nat
  c : Nat
  bs : List Int
structure PartsIs (w : World) (PA : Option Addr) (ps : List PartV) : Prop where
  recs : Recs w PA 1 (ps.map fun p => [.slice p.A p.n p.c])
  each : ∀ p ∈ ps, Cells w p.A (p.bs.map (.int .u8)) ∧ p.bs.length = p.n ∧ Bts p.bs ∧ p.n ≤ 1048700
def flat (ps : List PartV) : List Int := ps.flatMap (·.bs)
def total : List PartV → Nat
  | [] => 0
  | p :: r => p.n + total r
theorem total_append (a b : List PartV) : total (a ++ b) = total a + total b := by
  induction a with
  | nil => simp [total]
  | cons p r ih => simp only [List.cons_append, total, ih]; omega
theorem total_take_succ {ps : List PartV} {i : Nat} (h : i < ps.length) : total (ps.take (i + 1)) = total (ps.take i) + ps[i].n := by
  rw [List.take_succ_eq_append_getElem h, total_append]; simp [total]
theorem total_take_le (ps : List PartV) (i : Nat) : total (ps.take i) ≤ total ps := by
  have h := total_append (ps.take i) (ps.drop i)
  rw [List.take_append_drop] at h
  omega
theorem flat_take_succ {ps : List PartV} {i : Nat} (h : i < ps.length) : flat (ps.take (i + 1)) = flat (ps.take i) ++ ps[i].bs := by
  unfold flat
  rw [List.take_succ_eq_append_getElem h, List.flatMap_append]; simp
theorem flat_length {w : World} {PA : Option Addr} : ∀ {ps : List PartV}, (∀ p ∈ ps, Cells w p.A (p.bs.map (.int .u8)) ∧ p.bs.length = p.n ∧ Bts p.bs ∧ p.n ≤ 1048700) → (flat ps).length = total ps
  | [], _ => rfl
  | p :: r, h => by
    have h1 := (h p (by simp)).2.1
    have h2 := flat_length (w := w) (PA := PA) (ps := r) fun q hq => h q (List.mem_cons_of_mem _ hq)
    simp only [flat, List.flatMap_cons, List.length_append, total] at h2 ⊢
    omega
theorem flat_bts {w : World} {ps : List PartV} (h : ∀ p ∈ ps, Cells w p.A (p.bs.map (.int .u8)) ∧ p.bs.length = p.n ∧ Bts p.bs ∧ p.n ≤ 1048700) : Bts (flat ps) := by
  intro x hx
  obtain ⟨p, hp, hx⟩ := List.mem_flatMap.1 hx
  exact (h p hp).2.2.1 x hx

/-- Bytes of the program's builder. -/
theorem bdBytes_spec {w : World} {base gb c n m mc : Nat} {A PA : Option Addr} {xs : List Int} {max : Int} {ps : List PartV} (h : Bd w base gb A c n xs max) (hP : ∀ w', Mod (BF gb A c n) w w' → PartsIs w' PA ps) (hm : ps.length = m) (hm2 : m ≤ 1048700) :
    Calls Try.prog 40 #[.pointer (some ⟨gb, 0, none⟩), .slice PA m mc] w fun e w' => e = .returned (.int .i64 (if (n : Int) + total ps ≤ max then 0 else 13)) ∧ Mod (BF gb A c n) w w' ∧
      ∃ A' c', Near w A c n A' c' (if (n : Int) + total ps ≤ max then n + total ps else n) ∧ Bd w' base gb A' c' (if (n : Int) + total ps ≤ max then n + total ps else n) (if (n : Int) + total ps ≤ max then xs ++ flat ps else xs) max := by
  refine view_Builder_Bytes_of _ PA m mc w _ ?_
  unfold view_Builder_Bytes_VC
  intro w1 hw1
  have hE : Ext w w1 := by subst hw1; exact Ext.drew w
  have h0 := h.m0
  have h1 := h.m1
  refine ⟨fun w' => Ext w w', hE, _, rfl, _, fun w' hw => (h.cur.ext hw).cell 1, _, rfl, _, _, _, fun w' hw => (h.cur.ext hw).cell 0, ?_⟩
  rw [w64 (n := max - (n : Int)) (by omega) (by omega)]
  have hP1 := hP w1 (hE.to _)
  refine LoopVC.of (fun s w' => w1 = w' ∧ ∃ i : Nat, i ≤ m ∧ s = (max - n - total (ps.take i), (i : Int)) ∧ (n : Int) + total (ps.take i) ≤ max) (fun s _ => ((m : Int) - s.2).toNat) ⟨rfl, 0, by omega, by simp [total], by simpa [total] using h0⟩ ?_
  rintro _ w2 ⟨rfl, i, hi, rfl, hfit⟩
  show view_Builder_Bytes_L58 _ (some ⟨gb, 0, none⟩) PA m (max - n - total (ps.take i)) (i : Int) w1 _
  unfold view_Builder_Bytes_L58
  refine Br.dec (fun hlt => ?_) (fun hge => ?_)
  · have hil : i < ps.length := by omega
    have hp := hP1.each _ (List.getElem_mem hil)
    have hts := total_take_succ hil
    have htl := total_take_le ps (i + 1)
    refine IdxVC.rec hP1.recs (by omega) hlt (by simpa using hm) fun a hc => ?_
    have hrec : (ps.map fun p => ([.slice p.A p.n p.c] : List Value)).getD (i : Int).toNat [] = [.slice ps[i].A ps[i].n ps[i].c] := by rw [Int.toNat_natCast]; simp [hil]
    rw [hrec] at hc
    have hc0 := hc.1
    rw [add_zero] at hc0
    refine ⟨_, _, _, hc0, Br.dec (fun hbig => ?_) (fun hsm => ?_)⟩
    · have hno : ¬ ((n : Int) + total ps ≤ max) := by omega
      rw [if_neg hno, if_neg hno, if_neg hno]
      exact ⟨rfl, hE.to _, A, c, Near.refl _ _ _ _, h.ext hE⟩
    · rw [w64 (by omega) (by omega), w64 (by omega) (by omega)]
      refine ⟨⟨rfl, i + 1, by omega, ?_, by omega⟩, by simp only; omega⟩
      rw [hts, Prod.mk.injEq]; constructor <;> omega
  · have him : i = ps.length := by omega
    subst him
    rw [List.take_length] at hfit
    rw [if_pos hfit, if_pos hfit, if_pos hfit]
    refine LoopVC.of (fun s w' => ∃ (i : Nat) (A' : Option Addr) (c' : Nat), i ≤ m ∧ s = (i : Int) ∧ Mod (BF gb A c n) w w' ∧ Near w A c n A' c' (n + total (ps.take i)) ∧ Bd w' base gb A' c' (n + total (ps.take i)) (xs ++ flat (ps.take i)) max) (fun s _ => ((m : Int) - s).toNat)
      ⟨0, A, c, by omega, rfl, hE.to _, by simpa [total] using Near.refl w A c n, by simpa [total, flat] using h.ext hE⟩ ?_
    rintro _ w3 ⟨i, A', c', hi, rfl, hM, hnear, hb⟩
    show view_Builder_Bytes_L122 _ (some ⟨gb, 0, none⟩) PA m (i : Int) w3 _
    unfold view_Builder_Bytes_L122
    refine Br.dec (fun hlt => ?_) (fun hge => ?_)
    · have hil : i < ps.length := by omega
      have hP3 := hP w3 hM
      have hp := hP3.each _ (List.getElem_mem hil)
      have hts := total_take_succ hil
      have htl := total_take_le ps (i + 1)
      refine IdxVC.rec hP3.recs (by omega) hlt (by simpa using hm) fun a hc => ?_
      have hrec : (ps.map fun p => ([.slice p.A p.n p.c] : List Value)).getD (i : Int).toNat [] = [.slice ps[i].A ps[i].n ps[i].c] := by rw [Int.toNat_natCast]; simp [hil]
      rw [hrec] at hc
      have hc0 := hc.1
      rw [add_zero] at hc0
      refine ⟨_, _, _, hc0, _, rfl, _, _, _, hb.cur.cell 0, ?_⟩
      refine AppVC.at Try.underlying22 tyByte rfl hb.own hp.1 (by simpa using hp.2.1) (ints_one _ _) (by omega) (by decide) hb.base fun A2 c2 w4 hown4 hm4 hc4 hn4 => ?_
      have hb4 := hb.cur.mod hm4 fun e => hb.ne _ e rfl
      refine ⟨_, rfl, SetVC.blk hb4 (by simp) fun w5 hz5 hm5 hb5 => ?_⟩
      rw [w64 (by omega) (by omega)]
      have hM5 : Mod (BF gb A c n) w w5 := (hM.trans' hm4 fun k hk e => by
        rcases hnear k e with e | e
        · exact .inr e
        · omega).trans' hm5 fun k hk e => .inl e
      have hs4 := hm4.size
      have hw3 := hM.size
      have hne2 : ∀ k, some k = (Value.slice A2 (n + total (ps.take i) + ps[i].n) c2).ownBlock → k ≠ gb := fun k hk => by
        rcases hn4 k hk with e | e
        · exact hb.ne k e
        · have := hb.cur.lt; omega
      refine ⟨⟨i + 1, A2, c2, by omega, by omega, hM5, ?_, ?_⟩, by omega⟩
      · rw [hts, ← Nat.add_assoc]
        exact hnear.trans (w' := w3) hn4 hw3
      · rw [hts, flat_take_succ hil, ← List.append_assoc, ← Nat.add_assoc]
        refine ⟨hb5, ?_, ?_, bts_append hb.bts hp.2.2.1, by omega, h1, by have := hb.base; omega, hne2⟩
        · rw [List.map_append]
          exact own_mod hown4 hm5 fun k hk e => hne2 k hk.symm e
        · rw [List.length_append, hb.len, hp.2.1]
    · have him : i = ps.length := by omega
      subst him
      rw [List.take_length] at hnear hb
      exact ⟨rfl, hM, A', c', hnear, hb⟩
/-- Join of the document's own builder. -/
theorem rbJoin_spec {w : World} {base gb c n m mc : Nat} {A PA : Option Addr} {xs : List Int} {max : Int} {ps : List PartV} (h : RBd w base gb A c n xs max) (hP : ∀ w', Mod (BF gb A c n) w w' → PartsIs w' PA ps) (hm : ps.length = m) (hm2 : m ≤ 1048700) :
    Calls Try.prog 56 #[.pointer (some ⟨gb, 0, none⟩), .slice PA m mc] w fun e w' => e = .returned (.int .i64 (if (n : Int) + total ps ≤ max then 0 else 13)) ∧ Mod (BF gb A c n) w w' ∧
      ∃ A' c', Near w A c n A' c' (if (n : Int) + total ps ≤ max then n + total ps else n) ∧ RBd w' base gb A' c' (if (n : Int) + total ps ≤ max then n + total ps else n) (if (n : Int) + total ps ≤ max then xs ++ flat ps else xs) max := by
  refine weirref1_Builder_Join_of _ PA m mc w _ ?_
  unfold weirref1_Builder_Join_VC
  have h0 := h.m0
  have h1 := h.m1
  refine ⟨_, rfl, _, _, _, h.cur.cell 1, ?_⟩
  have hP1 := hP w (Mod.refl _ _)
  refine LoopVC.of (fun s w' => w = w' ∧ ∃ i : Nat, i ≤ m ∧ s = ((n : Int) + total (ps.take i), (i : Int)) ∧ (n : Int) + total (ps.take i) ≤ max) (fun s _ => ((m : Int) - s.2).toNat) ⟨rfl, 0, by omega, by simp [total], by simpa [total] using h0⟩ ?_
  rintro _ w2 ⟨rfl, i, hi, rfl, hfit⟩
  show weirref1_Builder_Join_L58 _ (some ⟨gb, 0, none⟩) PA m ((n : Int) + total (ps.take i)) (i : Int) w _
  unfold weirref1_Builder_Join_L58
  refine Br.dec (fun hlt => ?_) (fun hge => ?_)
  · have hil : i < ps.length := by omega
    have hp := hP1.each _ (List.getElem_mem hil)
    have hts := total_take_succ hil
    have htl := total_take_le ps (i + 1)
    refine IdxVC.rec hP1.recs (by omega) hlt (by simpa using hm) fun a hc => ?_
    have hrec : (ps.map fun p => ([.slice p.A p.n p.c] : List Value)).getD (i : Int).toNat [] = [.slice ps[i].A ps[i].n ps[i].c] := by rw [Int.toNat_natCast]; simp [hil]
    rw [hrec] at hc
    have hc0 := hc.1
    rw [add_zero] at hc0
    refine ⟨_, _, _, hc0, _, rfl, _, h.cur.cell 0, ?_⟩
    rw [w64 (n := (n : Int) + total (ps.take i) + ps[i].n) (by omega) (by omega)]
    refine Br.dec (fun hbig => ?_) (fun hsm => ?_)
    · have hno : ¬ ((n : Int) + total ps ≤ max) := by omega
      rw [if_neg hno, if_neg hno, if_neg hno]
      exact ⟨rfl, Mod.refl _ _, A, c, Near.refl _ _ _ _, h⟩
    · rw [w64 (by omega) (by omega)]
      refine ⟨⟨rfl, i + 1, by omega, ?_, by omega⟩, by simp only; omega⟩
      rw [hts, Prod.mk.injEq]; constructor <;> omega
  · have him : i = ps.length := by omega
    subst him
    rw [List.take_length] at hfit ⊢
    rw [if_pos hfit, if_pos hfit, if_pos hfit]
    refine ⟨_, rfl, _, h.cur.cell 0, Br.no (by omega) ?_⟩
    refine LoopVC.of (fun s w' => ∃ (i : Nat) (A' : Option Addr) (c' : Nat), i ≤ m ∧ s = (i : Int) ∧ Mod (BF gb A c n) w w' ∧ Near w A c n A' c' (n + total (ps.take i)) ∧ RBd w' base gb A' c' (n + total (ps.take i)) (xs ++ flat (ps.take i)) max) (fun s _ => ((m : Int) - s).toNat)
      ⟨0, A, c, by omega, rfl, Mod.refl _ _, by simpa [total] using Near.refl w A c n, by simpa [total, flat] using h⟩ ?_
    rintro _ w3' ⟨i, A', c', hi, rfl, hM, hnear, hb⟩
    show weirref1_Builder_Join_L250 _ (some ⟨gb, 0, none⟩) PA m (i : Int) w3' _
    unfold weirref1_Builder_Join_L250
    refine Br.dec (fun hlt => ?_) (fun hge => ?_)
    · intro w3 hw3
      have hE3 : Ext w3' w3 := by subst hw3; exact Ext.drew w3'
      have hs3 : w3.heap.size = w3'.heap.size := by subst hw3; rfl
      have hM3 := hM.ext hE3
      have hb := hb.ext hE3
      have hil : i < ps.length := by omega
      have hP3 := hP w3 hM3
      have hp := hP3.each _ (List.getElem_mem hil)
      have hts := total_take_succ hil
      have htl := total_take_le ps (i + 1)
      have hrec : (ps.map fun p => ([.slice p.A p.n p.c] : List Value)).getD (i : Int).toNat [] = [.slice ps[i].A ps[i].n ps[i].c] := by rw [Int.toNat_natCast]; simp [hil]
      refine ⟨fun w' => Blk w' gb 49 [.int .i64 max, .slice A' (n + total (ps.take i)) c'] ∧ Mod (BF gb A c n) w w', ⟨hb.cur, hM3⟩, _, rfl, _, _, _, fun w' hw => hw.1.cell 1, ?_⟩
      obtain ⟨a0, ha0, hca⟩ := hP3.recs i _ (by rw [List.getElem?_map, List.getElem?_eq_getElem hil]; rfl)
      subst ha0
      refine ⟨a0, rfl, by omega, hlt, ps[i].A, ps[i].n, ps[i].c, fun w' hw => ?_, ?_⟩
      · obtain ⟨a', ha', hca'⟩ := (hP w' hw.2).recs i _ (by rw [List.getElem?_map, List.getElem?_eq_getElem hil]; rfl)
        cases ha'
        have := hca'.1
        rw [add_zero] at this
        rw [Int.toNat_natCast]
        exact this
      refine AppVC.at Try.underlying22 tyByte rfl hb.own hp.1 (by simpa using hp.2.1) (ints_one _ _) (by omega) (by decide) hb.base fun A2 c2 w4 hown4 hm4 hc4 hn4 => ?_
      have hb4 := hb.cur.mod hm4 fun e => hb.ne _ e rfl
      have hM4 : Mod (BF gb A c n) w w4 := hM3.trans' hm4 fun k hk e => by
        rcases hnear k e with e | e
        · exact .inr e
        · omega
      refine ⟨⟨hb4, hM4⟩, _, rfl, SetVC.blk (g := gb) (i := 1) hb4 (by simp) fun w5 hz5 hm5 hb5 => ?_⟩
      rw [w64 (by omega) (by omega)]
      have hM5 : Mod (BF gb A c n) w w5 := hM4.trans' hm5 fun k hk e => .inl e
      have hs4 := hm4.size
      have hw3' := hM3.size
      have hne2 : ∀ k, some k = (Value.slice A2 (n + total (ps.take i) + ps[i].n) c2).ownBlock → k ≠ gb := fun k hk => by
        rcases hn4 k hk with e | e
        · exact hb.ne k e
        · have := hb.cur.lt; omega
      refine ⟨⟨i + 1, A2, c2, by omega, by omega, hM5, ?_, ?_⟩, by omega⟩
      · rw [hts, ← Nat.add_assoc]
        exact hnear.trans (w' := w3) hn4 hw3'
      · rw [hts, flat_take_succ hil, ← List.append_assoc, ← Nat.add_assoc]
        refine ⟨hb5, ?_, ?_, bts_append hb.bts hp.2.2.1, by omega, h1, by have := hb.base; omega, hne2⟩
        · rw [List.map_append]
          exact own_mod hown4 hm5 fun k hk e => hne2 k hk.symm e
        · rw [List.length_append, hb.len, hp.2.1]
    · have him : i = ps.length := by omega
      subst him
      rw [List.take_length] at hnear hb
      exact ⟨rfl, hM, A', c', hnear, hb⟩
end Go.Proofs.Ytdchpilghgnnoaa
