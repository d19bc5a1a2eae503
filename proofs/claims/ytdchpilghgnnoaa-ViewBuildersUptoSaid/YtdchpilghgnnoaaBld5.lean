/- Builders: Patch, the program's and the document's own. -/
import Derived.Test.YtdchpilghgnnoaaBld4
namespace Go.Proofs.Ytdchpilghgnnoaa
open Go.Eng Go.RowKit

def patchErr (k v p : Int) (n : Nat) : Int := if numErr k v ≠ 0 then numErr k v else if 0 ≤ p ∧ p + k ≤ n then 0 else 10
def patchL (k v p : Int) (xs : List Int) (n : Nat) : List Int := if patchErr k v p n = 0 then patched xs p.toNat k.toNat v else xs
section
variable {w : World} {base gb c n : Nat} {A : Option Addr} {xs : List Int} {max : Int} {k v p : Int}
theorem Bd.patch {w' : World} {off m : Nat} (h : Bd w base gb A c n xs max) (hz : w'.heap.size = w.heap.size) (hm : Mod (fun k => some k = (Value.slice A n c).ownBlock) w w') (ho : w'.ownsRow base 5 1 (.slice A n c) n ((patched xs off m v).map (.int .u8))) :
    Bd w' base gb A c n (patched xs off m v) max :=
  { h with cur := h.cur.mod hm (fun e => h.ne _ e rfl), own := ho, len := by rw [patched_length]; exact h.len, bts := patched_bts h.bts _ _ _, base := by have := h.base; omega }
theorem bdPatch_spec (h : Bd w base gb A c n xs max) (hv : 0 ≤ v ∧ v < 18446744073709551616) :
    Calls Try.prog 57 #[.pointer (some ⟨gb, 0, none⟩), .int .i64 p, .int .i64 k, .int .u64 v] w fun e w' => e = .returned (.int .i64 (patchErr k v p n)) ∧ Mod (BF gb A c n) w w' ∧ Bd w' base gb A c n (patchL k v p xs n) max := by
  refine view_Builder_Patch_of _ p k v w _ ?_
  unfold view_Builder_Patch_VC
  have h0 := h.m0
  have h1 := h.m1
  refine NewVC.blk fun g1 w1 hg1 hz1 hE1 hb1 => ?_
  have hb := h.ext hE1
  have hlt := h.lt
  have hsame : ∀ w', Ext w w' → patchErr k v p n ≠ 0 → Mod (BF gb A c n) w w' ∧ Bd w' base gb A c n (patchL k v p xs n) max := fun w' hE hne => by
    unfold patchL
    rw [if_neg hne]
    exact ⟨hE.to _, h.ext hE⟩
  refine (sized_spec k w1).mono ?_
  rintro _ w2 ⟨rfl, rfl⟩
  refine ⟨_, rfl, ?_⟩
  by_cases hk : 1 ≤ k ∧ k ≤ 8
  · rw [decide_eq_true hk]
    refine Br.f rfl ?_
    refine (holds_spec hk hv).mono ?_
    rintro _ w4 ⟨rfl, rfl⟩
    refine ⟨_, rfl, ?_⟩
    by_cases hvk : v < 256 ^ k.toNat
    · rw [decide_eq_true hvk]
      refine Br.f rfl ?_
      have hne : numErr k v = 0 := by unfold numErr; rw [if_neg (by omega), if_neg (by omega)]
      refine ⟨_, rfl, _, _, _, hb.cur.cell 0, ?_⟩
      have hnc : n ≤ c := by
        obtain ⟨A', c', hv', hc', _⟩ := own_form h.own
        injection hv' with _ _ h3
        omega
      by_cases hr : 0 ≤ p ∧ p + k ≤ n
      · have he : patchErr k v p n = 0 := by unfold patchErr; rw [if_neg (by omega), if_pos hr]
        refine (part_yes (own_cells hb.own) (by simpa using h.len) hnc (by omega) hr.1 (by omega) hr.2).mono ?_
        rintro _ w6 ⟨rfl, A1, rfl, -, hA1⟩
        rw [if_neg (by omega)] at hA1
        subst hA1
        refine ⟨_, _, _, rfl, ?_⟩
        refine (write_spec (off := p.toNat) (k := k.toNat) (cc := k.toNat) hb.own h.len (by omega) (by omega) hv.1).mono ?_
        rintro _ w7 ⟨rfl, hz7, hm7, hown7⟩
        have hb7 := hb.patch hz7 hm7 hown7
        have hg7 := hb1.mod hm7 fun e => by have := hlt g1 (.inr e); omega
        refine ⟨rfl, SetVC.blk hg7 (by simp) fun w8 hz8 hm8 hg8 => ?_⟩
        refine leave_ret rfl nofun patch_idle rfl ?_
        refine ⟨_, hg8.cell 0, ?_⟩
        have hb8 := hb7.mod hm8 fun j hj e => by have := hlt j hj; omega
        rw [he]
        unfold patchL
        rw [if_pos he]
        exact ⟨rfl, ((hE1.to _).trans' hm7 fun j _ e => .inr e).trans' hm8 fun j hj e => by omega, hb8⟩
      · have he : patchErr k v p n = 10 := by unfold patchErr; rw [if_neg (by omega), if_neg hr]
        refine (part_no (by omega) (by omega)).mono ?_
        rintro _ w6 ⟨rfl, rfl⟩
        refine leave_ret (u := .panicking gapc) rfl (fun h => by cases h) (patch_catch (hb1.cell 0) (hb1.frozen 0)) rfl ?_
        have hm8 := Mod.setCell w1 ⟨g1, 0, none⟩ (.int .i64 10)
        have hg8 := hb1.set 0 (.int .i64 10)
        refine ⟨_, hg8.cell 0, by rw [he], hsame _ (hE1.trans' hm8 fun j hj e => by simp at e; omega) (by omega)⟩
    · rw [decide_eq_false hvk]
      have hn12 : numErr k v = 12 := by unfold numErr; rw [if_neg (by omega), if_pos hvk]
      have he : patchErr k v p n = 12 := by unfold patchErr; rw [hn12, if_pos (by decide)]
      refine Br.t rfl (SetVC.blk hb1 (by simp) fun w3 hz3 hm3 hg3 => ⟨_, hg3.cell 0, by rw [he], hsame _ (hE1.trans' hm3 fun j hj e => by omega) (by omega)⟩)
  · rw [decide_eq_false hk]
    have hn1 : numErr k v = 1 := by unfold numErr; rw [if_pos hk]
    have he : patchErr k v p n = 1 := by unfold patchErr; rw [hn1, if_pos (by decide)]
    refine Br.t rfl (SetVC.blk hb1 (by simp) fun w3 hz3 hm3 hg3 => ⟨_, hg3.cell 0, by rw [he], hsame _ (hE1.trans' hm3 fun j hj e => by omega) (by omega)⟩)
theorem rbPatch_spec (h : RBd w base gb A c n xs max) (hv : 0 ≤ v ∧ v < 18446744073709551616) :
    Calls Try.prog 58 #[.pointer (some ⟨gb, 0, none⟩), .int .i64 p, .int .i64 k, .int .u64 v] w fun e w' => e = .returned (.int .i64 (patchErr k v p n)) ∧ Mod (BF gb A c n) w w' ∧ RBd w' base gb A c n (patchL k v p xs n) max := by
  refine weirref1_Builder_Patch_of _ p k v w _ ?_
  unfold weirref1_Builder_Patch_VC
  have h0 := h.m0
  have h1 := h.m1
  have hlt := h.lt
  have hsame : ∀ w', Ext w w' → patchErr k v p n ≠ 0 → Mod (BF gb A c n) w w' ∧ RBd w' base gb A c n (patchL k v p xs n) max := fun w' hE hne => by
    unfold patchL
    rw [if_neg hne]
    exact ⟨hE.to _, h.ext hE⟩
  refine (refBytes_spec hv).mono ?_
  rintro _ w1 ⟨hE1, sA, sn, sc, rfl, hcell⟩
  refine ⟨_, _, _, _, rfl, Br.dec (fun hne => ?_) (fun heq => ?_)⟩
  · have he : patchErr k v p n = numErr k v := by unfold patchErr; rw [if_pos hne]
    exact ⟨by rw [he], hsame w1 hE1 (by rw [he]; exact hne)⟩
  · have hz : numErr k v = 0 := by simpa using heq
    obtain ⟨hsn, hcell2⟩ := hcell hz
    obtain ⟨hk, hvk⟩ := numErr_zero hz
    subst hsn
    have hb := h.ext hE1
    refine ⟨_, rfl, _, _, _, hb.cur.cell 1, ?_⟩
    refine (there_spec (by omega)).mono ?_
    rintro _ w2 ⟨rfl, rfl⟩
    refine ⟨_, rfl, ?_⟩
    by_cases hr : 0 ≤ p ∧ p ≤ n ∧ k ≤ n - p
    · rw [decide_eq_true hr]
      refine Br.f rfl ?_
      have he : patchErr k v p n = 0 := by unfold patchErr; rw [if_neg (by omega), if_pos (by omega)]
      obtain ⟨q, rfl⟩ := Int.eq_ofNat_of_zero_le hr.1
      obtain ⟨m, rfl⟩ := Int.eq_ofNat_of_zero_le (show 0 ≤ k by omega)
      rw [Int.toNat_natCast] at hcell2 ⊢
      have hlx := h.len
      refine LoopVC.of (fun s w' => ∃ (i : Nat) (L : List Int), i ≤ m ∧ s = (i : Int) ∧ Mod (BF gb A c n) w1 w' ∧ RBd w' base gb A c n L max ∧ ∀ r, r < n → L.getD r 0 = if q ≤ r ∧ r < q + i then v / 256 ^ (q + m - 1 - r) % 256 else xs.getD r 0) (fun s _ => ((m : Int) - s).toNat)
        ⟨0, xs, by omega, rfl, Mod.refl _ _, hb, fun r hr => by rw [if_neg (by omega)]⟩ ?_
      rintro _ w3 ⟨i, L, hi, rfl, hM, hbL, hL⟩
      show weirref1_Builder_Patch_L506 _ (some ⟨gb, 0, none⟩) (q : Int) (m : Int) sA m (i : Int) w3 _
      unfold weirref1_Builder_Patch_L506
      have hlL := hbL.len
      refine Br.dec (fun hlt' => ?_) (fun hge => ?_)
      · intro w4 hw4
        have hE4 : Ext w3 w4 := by subst hw4; exact Ext.drew w3
        have hM4 := hM.ext hE4
        have hb4 := hbL.ext hE4
        refine ⟨fun w' => Mod (BF gb A c n) w1 w' ∧ Blk w' gb 49 [.int .i64 max, .slice A n c], ⟨hM4, hb4.cur⟩, _, rfl, _, _, _, fun w' hw => hw.2.cell 1, ?_⟩
        refine IdxVC.draw (S := fun w' => Mod (BF gb A c n) w1 w' ∧ Blk w' gb 49 [.int .i64 max, .slice A n c]) ⟨hM4, hb4.cur⟩ (fun w' hw => hcell2 _ w' hw.1 fun j hj e => by have := hlt j e; omega) (by omega) hlt' (beBytes_length _ _) fun a hc => ⟨_, hc, ?_⟩
        rw [Int.toNat_natCast, beBytes_getD v m (by omega), w64 (n := (q : Int) + i) (by omega) (by omega)]
        have eq : (q : Int) + i = ((q + i : Nat) : Int) := by omega
        rw [eq]
        refine IdxVC.own hb4.own (by omega) (by omega) (by omega) fun a1 _ hset => ?_
        refine hset _ _ rfl fun w5 hz5 hm5 hown5 => ?_
        rw [Int.toNat_natCast, map_set] at hown5
        rw [w64 (n := (i : Int) + 1) (by omega) (by omega)]
        refine ⟨⟨i + 1, _, by omega, by omega, hM4.trans' hm5 fun j _ e => .inr e, { hb4 with cur := hb4.cur.mod hm5 (fun e => h.ne _ e rfl), own := hown5, len := by simpa using hlL, bts := hbL.bts.set _ (by omega) (by omega), base := by have := hb4.base; omega }, fun r hr => ?_⟩, by omega⟩
        by_cases e : r = q + i
        · subst e
          rw [getD_set_eq _ _ (by omega), if_pos (by omega)]
          rw [show q + m - 1 - (q + i) = m - 1 - i by omega]
        · rw [getD_set_ne _ _ (Ne.symm e), hL r hr]
          by_cases h1 : q ≤ r ∧ r < q + i
          · rw [if_pos h1, if_pos (by omega)]
          · rw [if_neg h1, if_neg (by omega)]
      · have him : i = m := by omega
        subst him
        have hLp : L = patched xs q i v := patched_of (by omega) fun r hr => hL r (by omega)
        rw [he]
        unfold patchL
        rw [if_pos he, Int.toNat_natCast, Int.toNat_natCast, ← hLp]
        exact ⟨rfl, (hE1.to _).trans hM, hbL⟩
    · rw [decide_eq_false hr]
      have he : patchErr k v p n = 10 := by unfold patchErr; rw [if_neg (by omega), if_neg (by omega)]
      exact Br.t rfl ⟨by rw [he], hsame w1 hE1 (by omega)⟩
end
end Go.Proofs.Ytdchpilghgnnoaa
