/- Builders: the program's, and the document's own. -/
import Derived.Test.YtdchpilghgnnoaaL7
import Derived.Maps.AppendAt
namespace Go.Eng
open Go Go.RowKit
section
variable {P : Program} {w : World} {base e n : Nat} {xs : List Value}
/-- append onto a row of the call's own, and where the new row lies: in the old block, or in a new one. -/
theorem AppVC.at {t ty : TypeId} {z : Value} {bytes : Nat} (ht : P.underlying t = some (.slice e)) (hi : TypeIs P e z 1 bytes) (hzs : z.cells.size = 1)
    {A A' : Option Addr} {c m c' : Nat} {news : List Value} {F : Option Addr → Nat → Nat → World → Prop}
    (hown : w.ownsRow base e 1 (.slice A n c) n xs) (hsrc : Cells w A' news) (hl : news.length = m) (h1 : ∀ u ∈ news, u.oneCell' = true)
    (hbytes : (n + m) * bytes ≤ 140737488355328) (hb0 : 0 < bytes) (hbase : base ≤ w.heap.size)
    (h : ∀ A2 c2 w', w'.ownsRow base e 1 (.slice A2 (n + m) c2) (n + m) (xs ++ news) → Mod (fun k => some k = (Value.slice A n c).ownBlock) w w' → n + m ≤ c2 →
      (∀ k, some k = (Value.slice A2 (n + m) c2).ownBlock → some k = (Value.slice A n c).ownBlock ∨ w.heap.size ≤ k) → F A2 (n + m) c2 w') :
    AppVC P #[t, t] ty (.slice A n c) (.slice A' m c') w F := by
  obtain ⟨i, hi, hz, hs, hy⟩ := hi
  have h63 : n + m ≤ maxLen := by
    have : (n + m) * 1 ≤ (n + m) * bytes := Nat.mul_le_mul_left _ hb0
    simp only [maxLen]; omega
  rcases A' with _ | ad
  · have hm : news = [] := by
      rcases news with _ | ⟨u, r⟩
      · rfl
      · obtain ⟨a, ha, _⟩ := hsrc 0 u rfl
        cases ha
    subst hm
    have hm0 : m = 0 := by simpa using hl.symm
    subst hm0
    have hrun : (Builtin.append_ #[t, t] ty #[.slice A n c, .slice none 0 c']).run P w = .ok (.slice A n c) w := by
      rcases hown.2 with ⟨hv, rfl⟩ | ⟨g, cap, cur, hv, _, _, hnc, _⟩
      · injection hv with hA _ hc; subst hA; subst hc
        simp [Builtin.append_, run_underlying ht, sizeOf, typeInfo, hi, Builtin.lenOf, Builtin.firstCells]
      · injection hv with hA _ hc; subst hA; subst hc
        simp [Builtin.append_, run_underlying ht, sizeOf, typeInfo, hi, Builtin.lenOf, Builtin.firstCells, hnc, storeCells]
    obtain ⟨_, _, hv, hnc, _⟩ := own_form hown
    injection hv with _ _ hc
    subst hc
    exact ⟨A, n, c, w, hrun, h A c w (by simpa using hown) (Mod.refl _ w) (by omega) fun k hk => .inl hk⟩
  · obtain ⟨v', w', hr, h2, h3, _, hat⟩ := run_append_own_at (P := P) w base t ty e i z 1 bytes ht hi hz hs hy hzs (by decide) (.slice A n c) n xs hown ad m c' news (by omega)
      (fun j u hu => by obtain ⟨a, ha, hc⟩ := hsrc j u hu; cases ha; exact hc) h1 h63 hbytes hbase
    obtain ⟨A2, c2, rfl, hc2, _⟩ := own_form h2
    refine ⟨A2, n + m, c2, w', hr, h A2 c2 w' h2 (Mod.grown h3) hc2 fun k hk => ?_⟩
    rcases hat with e | e
    · exact .inl (hk.trans e)
    · rw [e] at hk; injection hk with hk; exact .inr (by omega)
end
/-- Numbers laid over a list of bytes, the highest first. -/
def patched (xs : List Int) (off k : Nat) (v : Int) : List Int := (List.range xs.length).map fun q => if off ≤ q ∧ q < off + k then v / 256 ^ (off + k - 1 - q) % 256 else xs.getD q 0
def beBytes (v : Int) (k : Nat) : List Int := patched (List.replicate k 0) 0 k v
theorem patched_length (xs : List Int) (off k : Nat) (v : Int) : (patched xs off k v).length = xs.length := by simp [patched]
theorem beBytes_length (v : Int) (k : Nat) : (beBytes v k).length = k := by simp [beBytes, patched_length]
theorem patched_bts {xs : List Int} (h : Bts xs) (off k : Nat) (v : Int) : Bts (patched xs off k v) := by
  intro x hx
  obtain ⟨q, hq, rfl⟩ := List.mem_map.1 hx
  have hq' : q < xs.length := by simpa using hq
  split
  · omega
  · have e : xs.getD q 0 = xs[q] := by simp [hq']
    rw [e]; exact h.at hq'
theorem replicate_bts (k : Nat) : Bts (List.replicate k 0) := by
  intro x hx
  have := List.eq_of_mem_replicate hx
  omega
theorem beBytes_bts (v : Int) (k : Nat) : Bts (beBytes v k) := patched_bts (replicate_bts k) 0 k v
theorem patched_of {xs L : List Int} {off k : Nat} {v : Int} (hl : L.length = xs.length) (h : ∀ q, q < xs.length → L.getD q 0 = if off ≤ q ∧ q < off + k then v / 256 ^ (off + k - 1 - q) % 256 else xs.getD q 0) : L = patched xs off k v := by
  apply List.ext_getElem (by rw [hl, patched_length])
  intro q h1 h2
  have := h q (by omega)
  have e : L.getD q 0 = L[q] := by simp [h1]
  rw [← e, this]
  simp [patched]
end Go.Eng
namespace Go.Proofs.Ytdchpilghgnnoaa
open Go.Eng Go.RowKit

theorem holds_spec {k v : Int} {w : World} (hk : 1 ≤ k ∧ k ≤ 8) (hv : 0 ≤ v ∧ v < 18446744073709551616) :
    Calls Try.prog 51 #[.int .i64 k, .int .u64 v] w fun e w' => w = w' ∧ e = .returned (.bool (decide (v < 256 ^ k.toNat))) := by
  refine view_holds_of k v w _ ?_
  unfold view_holds_VC
  obtain ⟨m, rfl⟩ := Int.eq_ofNat_of_zero_le (show 0 ≤ k by omega)
  refine Br.dec (fun h => ⟨rfl, ?_⟩) (fun h => ⟨by rw [u64_eq]; omega, rfl, ?_⟩)
  · have : m = 8 := by omega
    subst this
    rw [decide_eq_true (by rw [Int.toNat_natCast, show (256 : Int) ^ 8 = 18446744073709551616 by decide]; exact hv.2)]
  · rw [wu64 (n := (m : Int)) (by omega) (by omega), wu64 (n := 8 * (m : Int)) (by omega) (by omega)]
    have e : min (8 * (m : Int)).toNat 64 = 8 * m := by omega
    rw [e, Int.toNat_natCast, Int.fdiv_eq_ediv_of_nonneg _ (Int.pow_nonneg (by decide))]
    have e2 : (2 : Int) ^ (8 * m) = 256 ^ m := by rw [Int.pow_mul]; rfl
    rw [e2]
    congr 2
    refine decide_eq_decide.2 ⟨fun h => ?_, fun h => Int.ediv_eq_zero_of_lt hv.1 h⟩
    have h1 := Int.mul_ediv_add_emod v (256 ^ m)
    have h2 := Int.emod_lt_of_pos v (show (0 : Int) < 256 ^ m from Int.pow_pos (by decide))
    rw [h, Int.mul_zero, Int.zero_add] at h1
    omega

theorem write_spec {w : World} {base n c k cc off : Nat} {A : Option Addr} {xs : List Int} {v : Int} (hown : w.ownsRow base 5 1 (.slice A n c) n (xs.map (.int .u8))) (hl : xs.length = n) (hk : off + k ≤ n) (hk8 : k ≤ 8) (hv : 0 ≤ v) :
    Calls Try.prog 52 #[.slice (A.map (·.add off)) k cc, .int .u64 v] w fun e w' => e = .returned (.tuple #[]) ∧ w'.heap.size = w.heap.size ∧ Mod (fun k => some k = (Value.slice A n c).ownBlock) w w' ∧
      w'.ownsRow base 5 1 (.slice A n c) n ((patched xs off k v).map (.int .u8)) := by
  refine view_write_of _ k cc v w _ ?_
  unfold view_write_VC
  rw [w64 (n := (k : Int) - 1) (by omega) (by omega)]
  refine LoopVC.of (fun s w' => ∃ (j : Nat) (L : List Int), j ≤ k ∧ s = (v / 256 ^ j, (k : Int) - 1 - j) ∧ w'.heap.size = w.heap.size ∧ Mod (fun k => some k = (Value.slice A n c).ownBlock) w w' ∧ w'.ownsRow base 5 1 (.slice A n c) n (L.map (.int .u8)) ∧
    L.length = n ∧ ∀ q, q < n → L.getD q 0 = if off + k - j ≤ q ∧ q < off + k then v / 256 ^ (off + k - 1 - q) % 256 else xs.getD q 0) (fun s _ => (s.2 + 1).toNat)
    ⟨0, xs, by omega, by simp, rfl, Mod.refl _ _, hown, hl, fun q hq => by rw [if_neg (by omega)]⟩ ?_
  rintro _ w1 ⟨j, L, hj, rfl, hs1, hM, hown1, hlL, hL⟩
  show view_write_L6 _ (A.map (·.add off)) k (v / 256 ^ j) ((k : Int) - 1 - j) w1 _
  unfold view_write_L6
  refine Br.dec (fun h0 => ?_) (fun h0 => ?_)
  · have hi : ((k : Int) - 1 - j).toNat = k - 1 - j := by omega
    refine IdxVC.ownAt hown1 h0 (by omega) (by omega) fun a _ hset => ?_
    refine hset _ _ rfl fun w2 hz2 hm2 hown2 => ?_
    rw [hi, map_set] at hown2
    have hvd : 0 ≤ v / 256 ^ j := Int.ediv_nonneg hv (Int.pow_nonneg (by decide))
    refine ⟨⟨j + 1, _, by omega, ?_, by omega, hM.trans hm2, hown2, by simpa using hlL, fun q hq => ?_⟩, ?_⟩
    · rw [w64 (by omega) (by omega), Int.fdiv_eq_ediv_of_nonneg _ (by decide), Int.pow_succ, Int.ediv_ediv_of_nonneg (Int.pow_nonneg (by decide))]
      rw [Prod.mk.injEq]; constructor
      · rfl
      · omega
    · by_cases e : q = off + (k - 1 - j)
      · subst e
        rw [getD_set_eq _ _ (by omega), if_pos (by omega), u8_eq]
        rw [show off + k - 1 - (off + (k - 1 - j)) = j by omega]
      · rw [getD_set_ne _ _ (Ne.symm e), hL q hq]
        by_cases h1 : off + k - j ≤ q ∧ q < off + k
        · rw [if_pos h1, if_pos (by omega)]
        · rw [if_neg h1, if_neg (by omega)]
    · simp only
      rw [w64 (by omega) (by omega)]; omega
  · have hjk : j = k := by omega
    subst hjk
    refine ⟨rfl, hs1, hM, ?_⟩
    have : L = patched xs off j v := patched_of (by omega) fun q hq => by
      rw [hL q (by omega), show off + j - j = off by omega]
    rw [← this]; exact hown1
end Go.Proofs.Ytdchpilghgnnoaa
