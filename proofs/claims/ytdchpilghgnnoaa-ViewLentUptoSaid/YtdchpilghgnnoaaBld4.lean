/- Builders, call by call: Put, Patch, Done, Len, a new one. -/
import Derived.Test.YtdchpilghgnnoaaBld3
import Derived.Laws.CopyRow
import Derived.Laws.IdiomCopy
namespace Go.Eng
open Go Go.RowKit
/-- A whole row is copied over a row that is known whole. -/
theorem CopyVC.full {P : Program} {w : World} {dT sT ty e : TypeId} {g n c c' : Nat} {A : Option Addr} {olds cs : List Value} {F : Int → World → Prop} (hu : P.underlying dT = some (.slice e)) (hs : (P.info? e).map (·.size) = some 1)
    (hb : Blk w g e olds) (hl : olds.length = n) (hc : Cells w A cs) (hn : cs.length = n) (h1 : ∀ v ∈ cs, v.oneCell' = true)
    (h : ∀ m w', w'.heap.size = w.heap.size → Mod (fun k => k = g) w w' → Blk w' g e cs → F m w') : CopyVC P #[dT, sT] ty (.slice (some ⟨g, 0, none⟩) n c) (.slice A n c') w F := by
  by_cases h0 : n = 0
  · refine ⟨0, w, run_copy_none w dT sT ty e _ _ _ _ _ _ hu hs (by subst h0; rfl), h 0 w rfl (Mod.refl _ _) ?_⟩
    have e1 : olds = [] := List.eq_nil_of_length_eq_zero (by omega)
    have e2 : cs = [] := List.eq_nil_of_length_eq_zero (by omega)
    rw [e2, ← e1]; exact hb
  · obtain ⟨a, ha, _⟩ := hc.at (i := 0) (by omega)
    subst ha
    have hr := run_copy_row (P := P) w dT sT ty e g 0 n c a n c' olds.toArray e cs hu hs hb (by simp [hn]) (fun j v hv => by obtain ⟨a', ha', hcv⟩ := hc j v hv; cases ha'; exact hcv) (by simp; omega) h1
    refine ⟨_, _, hr, h _ _ ?_ ?_ ?_⟩
    · simp [World.setRow]
    · refine ⟨rfl, rfl, rfl, by simp [World.setRow], fun k hk hn => ?_⟩
      simp only [World.setRow, Array.getElem?_modify]
      rw [if_neg (fun e => hn e.symm)]
    · unfold Blk
      have := setRow_heap w g olds.toArray ((olds.take 0 ++ cs ++ olds.drop (0 + cs.length)).toArray) e (0, 0) hb
      rw [this]
      simp [show olds.length ≤ cs.length by omega]
end Go.Eng
namespace Go.Proofs.Ytdchpilghgnnoaa
open Go.Eng Go.RowKit

theorem size_byte : (Try.prog.info? 5).map (·.size) = some 1 := by kernel_rfl
section
variable {w : World} {base gb c n : Nat} {A : Option Addr} {xs : List Int} {max : Int}
theorem bdLen_spec (h : Bd w base gb A c n xs max) : Calls Try.prog 45 #[.pointer (some ⟨gb, 0, none⟩)] w fun e w' => w = w' ∧ e = .returned (.int .i64 (n : Int)) := by
  refine view_Builder_Len_of _ w _ ?_
  unfold view_Builder_Len_VC
  exact ⟨_, rfl, _, _, _, h.cur.cell 0, rfl, rfl⟩
theorem bdDone_spec (h : Bd w base gb A c n xs max) : Calls Try.prog 25 #[.pointer (some ⟨gb, 0, none⟩)] w fun e w' => Ext w w' ∧ ∃ g, w.heap.size ≤ g ∧ e = .returned (.slice (some ⟨g, 0, none⟩) n n) ∧ Blk w' g 5 (xs.map (.int .u8)) := by
  refine view_Builder_Done_of _ w _ ?_
  unfold view_Builder_Done_VC
  have h0 := h.m0
  have h1 := h.m1
  refine ⟨_, rfl, _, _, _, h.cur.cell 0, ?_⟩
  refine MakeVC.blk (by omega) (by omega) (by omega) fun g1 w1 hg1 hz1 hE1 hb1 => ?_
  have hb := h.ext hE1
  refine ⟨_, rfl, _, _, _, hb.cur.cell 0, ?_⟩
  rw [Int.toNat_natCast] at hb1
  refine CopyVC.full Try.underlying22 size_byte hb1 (by simp) (own_cells hb.own) (by simpa using h.len) (ints_one _ _) fun m w2 hz2 hm2 hb2 => ?_
  exact ⟨hE1.trans' hm2 fun k hk e => by omega, g1, by omega, rfl, hb2⟩
theorem newBuilder_spec {max : Int} : Calls Try.prog 23 #[.int .i64 max] w fun e w' => Ext w w' ∧
    ((max < 0 ∨ 65535 < max) ∧ e = .returned (.tuple #[.pointer none, .int .i64 1]) ∨
     (0 ≤ max ∧ max ≤ 65535) ∧ e = .returned (.tuple #[.pointer (some ⟨w.heap.size, 0, none⟩), .int .i64 0]) ∧ Bd w' w.heap.size w.heap.size none 0 0 [] max) := by
  refine view_NewBuilder_of max w _ ?_
  unfold view_NewBuilder_VC
  refine Br.dec (fun h => ⟨Mod.refl _ _, .inl ⟨.inl h, rfl⟩⟩) (fun h => Br.dec (fun h' => ⟨Mod.refl _ _, .inl ⟨.inr h', rfl⟩⟩) (fun h' => ?_))
  refine NewVC.blk fun g1 w1 hg1 hz1 hE1 hb1 => ?_
  subst hg1
  exact ⟨hE1, .inr ⟨⟨by omega, by omega⟩, rfl, hb1, World.ownsRow_nil _ _ _ _, rfl, fun x hx => by simp at hx, by simp; omega, by omega, by omega, fun k hk => by simp [Value.ownBlock] at hk⟩⟩

/-- Put's answer. -/
def putErr (k v : Int) (n : Nat) (max : Int) : Int := if numErr k v ≠ 0 then numErr k v else if (n : Int) + k ≤ max then 0 else 13
def putN (k v : Int) (n : Nat) (max : Int) : Nat := if putErr k v n max = 0 then n + k.toNat else n
def putL (k v : Int) (xs : List Int) (n : Nat) (max : Int) : List Int := if putErr k v n max = 0 then xs ++ beBytes v k.toNat else xs
theorem numErr_zero {k v : Int} (h : numErr k v = 0) : (1 ≤ k ∧ k ≤ 8) ∧ v < 256 ^ k.toNat := by
  unfold numErr at h
  split at h
  · omega
  · split at h
    · omega
    · rename_i h1 h2; exact ⟨by omega, by omega⟩
theorem bdPut_spec {k v : Int} (h : Bd w base gb A c n xs max) (hv : 0 ≤ v ∧ v < 18446744073709551616) :
    Calls Try.prog 24 #[.pointer (some ⟨gb, 0, none⟩), .int .i64 k, .int .u64 v] w fun e w' => e = .returned (.int .i64 (putErr k v n max)) ∧ Mod (BF gb A c n) w w' ∧
      ∃ A' c', Near w A c n A' c' (putN k v n max) ∧ Bd w' base gb A' c' (putN k v n max) (putL k v xs n max) max := by
  refine view_Builder_Put_of _ k v w _ ?_
  unfold view_Builder_Put_VC
  have h0 := h.m0
  have h1 := h.m1
  have hsame : ∀ w', Ext w w' → putErr k v n max ≠ 0 → Mod (BF gb A c n) w w' ∧ ∃ A' c', Near w A c n A' c' (putN k v n max) ∧ Bd w' base gb A' c' (putN k v n max) (putL k v xs n max) max := fun w' hE hne => by
    unfold putN putL
    rw [if_neg hne, if_neg hne]
    exact ⟨hE.to _, A, c, Near.refl _ _ _ _, h.ext hE⟩
  refine (sized_spec k w).mono ?_
  rintro _ w1 ⟨rfl, rfl⟩
  refine ⟨_, rfl, ?_⟩
  by_cases hk : 1 ≤ k ∧ k ≤ 8
  · rw [decide_eq_true hk]
    refine Br.f rfl ?_
    refine (holds_spec hk hv).mono ?_
    rintro _ w2 ⟨rfl, rfl⟩
    refine ⟨_, rfl, ?_⟩
    by_cases hvk : v < 256 ^ k.toNat
    · rw [decide_eq_true hvk]
      refine Br.f rfl ?_
      have hne : numErr k v = 0 := by unfold numErr; rw [if_neg (by omega), if_neg (by omega)]
      intro w3 hw3
      have hE3 : Ext w w3 := by subst hw3; exact Ext.drew w
      refine ⟨fun w' => Ext w w', hE3, _, rfl, _, fun w' hw => (h.cur.ext hw).cell 1, _, rfl, _, _, _, fun w' hw => (h.cur.ext hw).cell 0, ?_⟩
      rw [w64 (n := max - (n : Int)) (by omega) (by omega)]
      refine Br.dec (fun hbig => ?_) (fun hfit => ?_)
      · have he : putErr k v n max = 13 := by unfold putErr; rw [if_neg (by omega), if_neg (by omega)]
        exact ⟨by rw [he], hsame w3 hE3 (by omega)⟩
      · have he : putErr k v n max = 0 := by unfold putErr; rw [if_neg (by omega), if_pos (by omega)]
        obtain ⟨m, rfl⟩ := Int.eq_ofNat_of_zero_le (show 0 ≤ k by omega)
        refine MakeVC.blk (by omega) (by omega) (by omega) fun g1 w4 hg1 hz4 hE4 hb1 => ?_
        rw [Int.toNat_natCast] at hb1 ⊢
        have hb4 := (h.ext hE3).ext hE4
        have hw1 : w4.ownsRow g1 5 1 (.slice (some ⟨g1, 0, none⟩) m m) m ((List.replicate m 0).map (.int .u8)) := by
          have := own_of_blk (n := m) (c := m) hb1 (Nat.le_refl _) (by simp) (Nat.le_refl _) (by simp only [maxLen]; omega)
          simpa using this
        have hwr := write_spec (off := 0) (k := m) (cc := m) hw1 (by simp) (by omega) (by omega) hv.1
        rw [map_add_zero] at hwr
        refine hwr.mono ?_
        rintro _ w5 ⟨rfl, hz5, hm5, hown5⟩
        have hs3 := hE3.size
        have hgb := h.cur.lt
        have hg1' : ∀ j, some j = (Value.slice (some ⟨g1, 0, none⟩) m m).ownBlock → j = g1 := fun j hj => by simp [Value.ownBlock] at hj; exact hj
        have hb5 := hb4.mod hm5 fun j hj e => by
          have := hg1' j e
          have := h.lt j hj
          omega
        refine ⟨rfl, _, rfl, _, _, _, hb5.cur.cell 0, ?_⟩
        refine AppVC.at Try.underlying22 tyByte rfl hb5.own (own_cells hown5) (by simp [patched_length]) (ints_one _ _) (by omega) (by decide) hb5.base fun A2 c2 w6 hown6 hm6 hc6 hn6 => ?_
        have hbk := hb5.cur.mod hm6 fun e => hb5.ne _ e rfl
        refine ⟨_, rfl, SetVC.blk hbk (by simp) fun w7 hz7 hm7 hb7 => ?_⟩
        have hE4' : Ext w w4 := hE3.ext hE4
        have hM5 : Mod (BF gb A c n) w w5 := (hE4'.to _).trans' hm5 fun j hj e => by have := hg1' j e; omega
        have hM7 : Mod (BF gb A c n) w w7 := (hM5.trans' hm6 fun j hj e => .inr e).trans' hm7 fun j hj e => .inl e
        have hne2 : ∀ j, some j = (Value.slice A2 (n + m) c2).ownBlock → j ≠ gb := fun j hj => by
          rcases hn6 j hj with e | e
          · exact h.ne j e
          · have := hE4'.size; omega
        have eN : putN (m : Int) v n max = n + m := by unfold putN; rw [if_pos he, Int.toNat_natCast]
        have eL : putL (m : Int) v xs n max = xs ++ beBytes v m := by unfold putL; rw [if_pos he, Int.toNat_natCast]
        rw [he, eN, eL]
        refine ⟨rfl, hM7, A2, c2, fun j hj => ?_, hb7, ?_, ?_, bts_append h.bts (beBytes_bts v m), by omega, h1, ?_, hne2⟩
        · rcases hn6 j hj with e | e
          · exact .inl e
          · have := hE4'.size; exact .inr (by omega)
        · rw [List.map_append]
          exact own_mod hown6 hm7 fun j hj e => hne2 j hj.symm e
        · rw [List.length_append, h.len, beBytes_length]
        · have := h.base; have := hM7.size; omega
    · rw [decide_eq_false hvk]
      have hn12 : numErr k v = 12 := by unfold numErr; rw [if_neg (by omega), if_pos hvk]
      have he : putErr k v n max = 12 := by unfold putErr; rw [hn12, if_pos (by decide)]
      exact Br.t rfl ⟨by rw [he], hsame w (Mod.refl _ _) (by omega)⟩
  · rw [decide_eq_false hk]
    have he : putErr k v n max = 1 := by unfold putErr numErr; rw [if_pos hk, if_pos (by omega)]
    exact Br.t rfl ⟨by rw [he], hsame w (Mod.refl _ _) (by omega)⟩
theorem rbPut_spec {k v : Int} (h : RBd w base gb A c n xs max) (hv : 0 ≤ v ∧ v < 18446744073709551616) :
    Calls Try.prog 53 #[.pointer (some ⟨gb, 0, none⟩), .int .i64 k, .int .u64 v] w fun e w' => e = .returned (.int .i64 (putErr k v n max)) ∧ Mod (BF gb A c n) w w' ∧
      ∃ A' c', Near w A c n A' c' (putN k v n max) ∧ RBd w' base gb A' c' (putN k v n max) (putL k v xs n max) max := by
  refine weirref1_Builder_Put_of _ k v w _ ?_
  unfold weirref1_Builder_Put_VC
  refine (refBytes_spec hv).mono ?_
  rintro _ w1 ⟨hE1, sA, sn, sc, rfl, hcell⟩
  refine ⟨_, _, _, _, rfl, Br.dec (fun hne => ?_) (fun heq => ?_)⟩
  · have he : putErr k v n max = numErr k v := by unfold putErr; rw [if_pos hne]
    rw [he]
    refine ⟨rfl, hE1.to _, ?_⟩
    unfold putN putL
    rw [if_neg (by rw [he]; exact hne), if_neg (by rw [he]; exact hne)]
    exact ⟨A, c, Near.refl _ _ _ _, h.ext hE1⟩
  · have hz : numErr k v = 0 := by simpa using heq
    obtain ⟨hsn, hcell2⟩ := hcell hz
    obtain ⟨hk, hvk⟩ := numErr_zero hz
    subst hsn
    refine NewVC.blk fun g1 w2 hg1 hz2 hE2 hb1 => ?_
    have hb := (h.ext hE1).ext hE2
    have hlt := h.lt
    have hs1 := hE1.size
    let p : PartV := ⟨sA, k.toNat, sc, beBytes v k.toNat⟩
    have hP : ∀ w', Mod (BF gb A c n) w2 w' → PartsIs w' (some ⟨g1, 0, none⟩) [p] := fun w' hM => by
      have hbg : Blk w' g1 22 [.slice sA k.toNat sc] := hb1.mod hM fun e => by have := hlt _ e; omega
      refine ⟨fun i cs hi => ?_, fun q hq => ?_⟩
      · match i, hi with
        | 0, hi =>
          simp at hi
          subst hi
          refine ⟨_, rfl, CellsAt.of _ 0 fun j u hu => ?_⟩
          match j, hu with
          | 0, hu => simp at hu; subst hu; rw [Nat.zero_mul, add_zero]; exact hbg.cell 0
        | i + 1, hi => simp at hi
      · rcases List.mem_cons.1 hq with e | e
        · subst e
          refine ⟨hcell2 (BF gb A c n) w' ((hE2.to _).trans hM) fun j hj e => by have := hlt _ e; omega, beBytes_length _ _, beBytes_bts _ _, by show k.toNat ≤ 1048700; omega⟩
        · cases e
    refine (rbJoin_spec (m := 1) hb hP rfl (by omega)).mono ?_
    rintro _ w3 ⟨rfl, hM3, A', c', hnear, hb3⟩
    have ht : total [p] = k.toNat := by simp [total, p]
    have hf : flat [p] = beBytes v k.toNat := by simp [flat, p]
    rw [ht] at hnear hb3 ⊢
    rw [hf] at hb3
    have hMw : Mod (BF gb A c n) w w3 := ((hE1.ext hE2).to _).trans hM3
    have hn' : ∀ {nn : Nat}, Near w2 A c n A' c' nn → Near w A c n A' c' nn := fun {nn} hh j hj => by
      rcases hh j hj with e | e
      · exact .inl e
      · exact .inr (by omega)
    refine ⟨_, rfl, ?_⟩
    by_cases hfit : (n : Int) + k ≤ max
    · have he : putErr k v n max = 0 := by unfold putErr; rw [if_neg (by omega), if_pos hfit]
      have hfit' : (n : Int) + (k.toNat : Nat) ≤ max := by omega
      rw [if_pos hfit'] at hnear hb3 ⊢
      rw [if_pos hfit'] at hb3
      unfold putN putL
      rw [he, if_pos rfl, if_pos rfl]
      exact ⟨rfl, hMw, A', c', hn' hnear, hb3⟩
    · have he : putErr k v n max = 13 := by unfold putErr; rw [if_neg (by omega), if_neg hfit]
      have hfit' : ¬ ((n : Int) + (k.toNat : Nat) ≤ max) := by omega
      rw [if_neg hfit'] at hnear hb3 ⊢
      rw [if_neg hfit'] at hb3
      unfold putN putL
      rw [he, if_neg (by decide), if_neg (by decide)]
      exact ⟨rfl, hMw, A', c', hn' hnear, hb3⟩
end
end Go.Proofs.Ytdchpilghgnnoaa
