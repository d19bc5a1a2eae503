/- Chapter 13 by value: what each piece of version 4 is worth. -/
import Derived.Test.YteppichfkeknbaaDoorBh
namespace Go.Eng
open Go Go.RowKit
/-- Parts behind heads of a bytes (the first) and b bytes (the others), as long as can be. -/
def Fit (a b mtu n : Nat) : Nat → List (Nat × Nat) → Prop
  | p, [] => p = n
  | p, x :: l => x.1 = p ∧ p % 8 = 0 ∧ (0 < p → p < n) ∧ p + x.2 ≤ n ∧ x.2 ≤ room a b mtu p ∧ (l = [] → p + x.2 = n) ∧ (l ≠ [] → 0 < x.2 ∧ x.2 % 8 = 0 ∧ p + x.2 < n ∧ room a b mtu p < x.2 + 8) ∧ Fit a b mtu n (p + x.2) l
section
variable {a b mtu n : Nat}
theorem pieces_ne (_ha : a + 8 ≤ mtu) (_hb : b + 8 ≤ mtu) (f p : Nat) (h : n - p < f) : pieces a b mtu n f p ≠ [] := by
  cases f with
  | zero => omega
  | succ f => unfold pieces; split <;> simp
theorem parts_fit (ha : a + 8 ≤ mtu) (hb : b + 8 ≤ mtu) : ∀ f p, n - p < f → p ≤ n → p % 8 = 0 → (0 < p → p < n) → Fit a b mtu n p (pieces a b mtu n f p)
  | 0, _, h, _, _, _ => by omega
  | f + 1, p, h, hp, h8, h0 => by
    have := room_ge ha hb p
    unfold pieces
    split
    · exact ⟨rfl, h8, h0, by show p + (n - p) ≤ n; omega, by assumption, fun _ => by show p + (n - p) = n; omega, fun h => absurd rfl h, by show p + (n - p) = n; omega⟩
    · refine ⟨rfl, h8, h0, by show p + _ ≤ n; omega, by show room a b mtu p / 8 * 8 ≤ _; omega, fun h => ?_, fun _ => ⟨by show 0 < room a b mtu p / 8 * 8; omega, by show room a b mtu p / 8 * 8 % 8 = 0; omega, by show p + _ < n; omega, by show room a b mtu p < room a b mtu p / 8 * 8 + 8; omega⟩, parts_fit ha hb f _ (by omega) (by omega) (by omega) (by omega)⟩
      exact absurd h (pieces_ne ha hb f _ (by omega))
theorem Fit.mem : ∀ {l : List (Nat × Nat)} {p i : Nat} {x : Nat × Nat}, Fit a b mtu n p l → l[i]? = some x →
    x.1 % 8 = 0 ∧ (0 < x.1 → x.1 < n) ∧ x.1 + x.2 ≤ n ∧ x.2 ≤ room a b mtu x.1 ∧ (i + 1 = l.length → x.1 + x.2 = n) ∧ (i + 1 < l.length → 0 < x.2 ∧ x.2 % 8 = 0 ∧ x.1 + x.2 < n ∧ room a b mtu x.1 < x.2 + 8) ∧ p ≤ x.1 ∧ (0 < i → p < x.1)
  | [], _, _, _, _, h => by simp at h
  | y :: l, p, 0, x, hf, h => by
    simp at h; subst h
    obtain ⟨h1, h2, h3, h4, h5, h6, h7, _⟩ := hf
    subst h1
    exact ⟨h2, h3, h4, h5, fun hl => h6 (List.eq_nil_of_length_eq_zero (by rw [List.length_cons] at hl; omega)), fun hl => h7 (fun e => by subst e; simp at hl), Nat.le_refl _, fun h => by omega⟩
  | y :: l, p, i + 1, x, hf, h => by
    obtain ⟨h1, h2, h3, h4, h5, h6, h7, h8⟩ := hf
    have h : l[i]? = some x := by simpa using h
    obtain ⟨k1, k2, k3, k4, k5, k6, k7, k8⟩ := Fit.mem h8 h
    have hne : l ≠ [] := fun e => by subst e; simp at h
    have := h7 hne
    exact ⟨k1, k2, k3, k4, fun hl => k5 (by simpa using hl), fun hl => k6 (by simpa using hl), by omega, fun _ => by omega⟩
end
theorem hd4_two (d : Ip4D) : hd4 d ≤ 60 ∧ hd4k d ≤ 60 ∧ 20 ≤ hd4 d ∧ 20 ≤ hd4k d := by
  have := putOpts4_len d.opts
  have := putOpts4_len (d.opts.filter hi)
  unfold hd4 hd4k; omega
/-- The pieces, as parts that fit. -/
theorem split4_fit {d : Ip4D} {mtu : Int} (h : (split4S d mtu).2 = 0) : check4S d = 0 ∧ 68 ≤ mtu ∧ mtu ≤ 65535 ∧ ∃ xs, (split4S d mtu).1 = xs.map (piece4 d) ∧ xs ≠ [] ∧ Fit (hd4 d) (hd4k d) mtu.toNat d.data.length 0 xs ∧ (xs = [(0, d.data.length)] ∨ d.df = false) := by
  have h4 := hd4_two d
  obtain ⟨h1, h2, h3, xs, h5, h6, h7, h8⟩ := split4_parts h
  refine ⟨h1, h2, h3, xs, h5, h6, ?_, h8.imp (fun h => h.1) fun h => h.2.1⟩
  rcases h8 with ⟨rfl, hf⟩ | ⟨_, _, rfl⟩
  · exact ⟨rfl, rfl, fun h => by omega, by show 0 + d.data.length ≤ _; omega, by show d.data.length ≤ room _ _ _ 0; unfold room; rw [if_pos rfl]; omega, fun _ => by show 0 + d.data.length = _; omega, fun h => absurd rfl h, by show 0 + d.data.length = _; omega⟩
  · exact parts_fit (by omega) (by omega) _ _ (by omega) (Nat.zero_le _) rfl (fun h => by omega)
theorem filter_hi (l : List OptD) : (l.filter hi).filter hi = l.filter hi := by rw [List.filter_filter]; simp
/-- Each piece may be. -/
theorem piece4_ok {d : Ip4D} {mtu : Nat} (hc : check4S d = 0) (hm : 68 ≤ mtu ∧ mtu ≤ 65535) {xs : List (Nat × Nat)} (hf : Fit (hd4 d) (hd4k d) mtu d.data.length 0 xs) {i : Nat} {x : Nat × Nat} (hx : xs[i]? = some x) :
    check4S (piece4 d x) = 0 ∧ (piece4 d x).data.length = x.2 ∧ hd4 (piece4 d x) = (if x.1 = 0 then hd4 d else hd4k d) ∧ hd4 (piece4 d x) + x.2 ≤ mtu := by
  have h4 := hd4_two d
  obtain ⟨k1, k2, k3, k4, k5, k6, _, _⟩ := hf.mem hx
  obtain ⟨c1, c2, c3, c4⟩ := check4S_ok hc
  have hlen : (piece4 d x).data.length = x.2 := by unfold piece4; simp only [List.length_take, List.length_drop]; omega
  have ho : (putOpts4 (piece4 d x).opts).2 = 0 := by
    unfold piece4; simp only
    split
    · exact c2
    · exact putOpts4_filter hi c2
  have hh : hd4 (piece4 d x) = (if x.1 = 0 then hd4 d else hd4k d) := by
    unfold hd4 hd4k piece4; simp only
    split <;> rfl
  have hle : hd4 (piece4 d x) + x.2 ≤ mtu := by
    rw [hh]
    unfold room at k4
    split at k4 <;> split <;> omega
  refine ⟨?_, hlen, hh, hle⟩
  unfold check4S
  unfold bad4 at c1
  unfold frag4 at c4
  have hoff : (piece4 d x).off = d.off + x.1 := rfl
  have hmf : (piece4 d x).mf = (decide (x.1 + x.2 < d.data.length) || d.mf) := rfl
  have hbad : ¬ bad4 (piece4 d x) := by
    unfold bad4
    rw [hoff]
    intro h
    apply c1
    rcases h with h | h | h | h | h | h | h | h | h | h | h | h | h
    · exact .inl h
    · exact .inr (.inl h)
    · exact .inr (.inr (.inl h))
    · exact .inr (.inr (.inr (.inl h)))
    · omega
    · omega
    · omega
    · exact .inr (.inr (.inr (.inr (.inr (.inr (.inr (.inl h)))))))
    · exact .inr (.inr (.inr (.inr (.inr (.inr (.inr (.inr (.inl h))))))))
    · exact .inr (.inr (.inr (.inr (.inr (.inr (.inr (.inr (.inr (.inl h)))))))))
    · exact .inr (.inr (.inr (.inr (.inr (.inr (.inr (.inr (.inr (.inr (.inl h))))))))))
    · exact .inr (.inr (.inr (.inr (.inr (.inr (.inr (.inr (.inr (.inr (.inr (.inl h)))))))))))
    · exact .inr (.inr (.inr (.inr (.inr (.inr (.inr (.inr (.inr (.inr (.inr (.inr h)))))))))))
  have htot : ¬ 65535 < 20 + (putOpts4 (piece4 d x).opts).1.length + (piece4 d x).data.length := by
    have e : hd4 (piece4 d x) = 20 + (putOpts4 (piece4 d x).opts).1.length := rfl
    rw [← e, hlen]; omega
  have hfrag : ¬ frag4 (piece4 d x).mf (piece4 d x).off (piece4 d x).data.length := by
    rw [hmf, hoff, hlen]
    unfold frag4
    rintro (⟨h1, h2⟩ | h)
    · have hi := (List.getElem?_eq_some_iff.1 hx).1
      rcases Nat.lt_or_ge (i + 1) xs.length with hl | hl
      · have := k6 hl; omega
      · have hend := k5 (by omega)
        rw [decide_eq_false (by omega), Bool.false_or] at h1
        have c5 : ¬ (d.data.length = 0 ∨ d.data.length % 8 ≠ 0) := fun h => c4 (.inl ⟨h1, h⟩)
        by_cases h0 : 0 < x.1
        · have := k2 h0; omega
        · omega
    · have c5 : ¬ 65515 < d.off + d.data.length := fun h => c4 (.inr h)
      omega
  rw [if_neg hbad, if_neg (by omega), if_neg htot, if_neg hfrag]
/-- A piece that fits, cut again. -/
theorem split4_again {d : Ip4D} {mtu : Int} (hc : check4S d = 0) (hm : 68 ≤ mtu ∧ mtu ≤ 65535) (hf : ((hd4 d + d.data.length : Nat) : Int) ≤ mtu) : split4S d mtu = ([d], 0) := by
  unfold split4S
  rw [if_neg (by omega), if_neg (by omega), if_pos hf]
theorem ser4S_len {d : Ip4D} (hc : check4S d = 0) : (ser4S d).2 = 0 ∧ (ser4S d).1.length = hd4 d + d.data.length := by
  unfold ser4S
  rw [if_neg (by omega)]
  refine ⟨rfl, ?_⟩
  have : (front4 d).length = 10 := rfl
  unfold back4 hd4
  simp only [List.length_append, this, List.length_cons, List.length_nil]
  have : (ip4B d.src).length = 4 := rfl
  have : (ip4B d.dst).length = 4 := rfl
  omega
end Go.Eng
