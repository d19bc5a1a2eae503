/- Chapter 13 by value: what each piece of version 6 is worth. -/
import Derived.Test.YteppichfkeknbaaDoorBs
namespace Go.Eng
open Go Go.RowKit
theorem bodyS_kind {x : ExtD} (h : (bodyS x).2 = 0) : x.kind = 43 ∨ x.kind = 0 ∨ x.kind = 60 := by
  unfold bodyS at h
  split at h
  · exact .inl (by assumption)
  · split at h
    · rename_i h1; exact .inr h1
    · cases h
theorem firstR_range {d : Ip6D} (h : (ser6S d).2 = 0) : 0 ≤ firstR d ∧ firstR d ≤ 255 := by
  rcases ser6S_cases d with ⟨h0, _⟩ | ⟨_, h1, h2, _, _, _⟩
  · exact absurd h h0
  · unfold firstR
    split
    · rename_i x l hx
      obtain ⟨_, ho, _⟩ := headersS_ok h2
      have hmem : x ∈ d.exts := List.mem_of_mem_drop (by rw [hx]; simp)
      obtain ⟨j, hj⟩ := List.mem_iff_getElem?.1 hmem
      have := (ho j x (List.getElem?_eq_some_iff.1 hj).1 hj).2
      have := bodyS_kind this
      omega
    · unfold fieldBad at h1; omega
theorem piece6_ok {d : Ip6D} {mtu : Nat} {id : Int} (h : (ser6S d).2 = 0) (hf : d.frag.has = false) (hid : 0 ≤ id ∧ id ≤ 4294967295) (hm : mtu ≤ 65535) (hh : hd6 d + 8 ≤ mtu) {xs : List (Nat × Nat)} (hfit : Fit (hd6 d) (hd6 d) mtu (rest6 d).length 0 xs) {i : Nat} {x : Nat × Nat} (hx : xs[i]? = some x) :
    (ser6S (piece6 d id x)).2 = 0 ∧ (piece6 d id x).data.length = x.2 ∧ (ser6S (piece6 d id x)).1.length = hd6 d + x.2 ∧ hd6 d + x.2 ≤ mtu := by
  obtain ⟨k1, k2, k3, k4, k5, k6, _, _⟩ := hfit.mem hx
  obtain ⟨e1, e2, e3, e4, e5⟩ := split6_len h hf 44
  have hsl := ser6S_len d
  have hfr := firstR_range h
  have hd : hd6 d = 48 + (headersS (d.exts.take (keptS d.exts)) 44 true).1.length := by unfold hd6; omega
  have hlen : (piece6 d id x).data.length = x.2 := by unfold piece6; simp only [List.length_take, List.length_drop]; omega
  have hle : hd6 d + x.2 ≤ mtu := by
    unfold room at k4
    split at k4 <;> omega
  have hb : behindK (piece6 d id x) = 44 := rfl
  have hex : (piece6 d id x).exts = d.exts.take (keptS d.exts) := rfl
  have hfb : (fragB (piece6 d id x)).length = 8 := rfl
  have hbl : (bodyB (piece6 d id x)).length = (headersS (d.exts.take (keptS d.exts)) 44 true).1.length + 8 + x.2 := by
    unfold bodyB
    rw [List.length_append, List.length_append, hb, hex, hfb, hlen]; omega
  have hbad : ¬ fieldBad (piece6 d id x) := by
    unfold fieldBad at e4 ⊢
    have : (piece6 d id x).next = firstR d := rfl
    rw [this]
    intro hq
    apply e4
    rcases hq with hq | hq | hq | hq | hq | hq | hq | hq | hq | hq
    · exact .inl hq
    · exact .inr (.inl hq)
    · exact .inr (.inr (.inl hq))
    · exact .inr (.inr (.inr (.inl hq)))
    · exact .inr (.inr (.inr (.inr (.inl hq))))
    · exact .inr (.inr (.inr (.inr (.inr (.inl hq)))))
    · exact .inr (.inr (.inr (.inr (.inr (.inr (.inl hq))))))
    · exact .inr (.inr (.inr (.inr (.inr (.inr (.inr (.inl hq)))))))
    · omega
    · omega
  have hfe : fragE (piece6 d id x) = 0 := by
    unfold fragE
    have hfg : (piece6 d id x).frag = ⟨true, decide (x.1 + x.2 < (rest6 d).length), id, x.1⟩ := rfl
    rw [hfg, hlen]
    simp only
    rw [if_pos True.intro, if_neg]
    have hft : fitsS ⟨true, decide (x.1 + x.2 < (rest6 d).length), id, x.1⟩ x.2 = true := by
      unfold fitsS
      simp only
      refine decide_eq_true ⟨?_, by omega⟩
      have hi := (List.getElem?_eq_some_iff.1 hx).1
      rintro (⟨h1, h2⟩ | ⟨h1, h2⟩)
      · have h1 := of_decide_eq_true h1
        have := k6 (by
          rcases Nat.lt_or_ge (i + 1) xs.length with hl | hl
          · exact hl
          · have := k5 (by omega); omega)
        omega
      · have := k2 (by omega)
        rcases Nat.lt_or_ge (i + 1) xs.length with hl | hl
        · have := k6 hl; omega
        · have := k5 (by omega); omega
    rw [hft]
    intro hq
    rcases hq with hq | hq | hq | hq | hq | hq
    · omega
    · omega
    · omega
    · omega
    · omega
    · cases hq
  have key : ser6S (piece6 d id x) = (head6 (piece6 d id x) (bodyB (piece6 d id x)).length ++ ((piece6 d id x).src.bytes ++ ((piece6 d id x).dst.bytes ++ bodyB (piece6 d id x))), 0) := by
    unfold ser6S
    rw [if_neg hbad, hb, hex, if_neg (by omega), if_neg (by omega), if_neg (by omega)]
  refine ⟨by rw [key], hlen, ?_, hle⟩
  rw [key]
  have h8 : ∀ n, (head6 (piece6 d id x) n).length = 8 := fun _ => rfl
  have hs : (piece6 d id x).src.bytes.length = 16 := rfl
  have ht : (piece6 d id x).dst.bytes.length = 16 := rfl
  simp only [List.length_append, h8, hs, ht, hbl]
  omega
theorem split6_again {d : Ip6D} {mtu id : Int} (h : (ser6S d).2 = 0) (hm : 1280 ≤ mtu ∧ mtu ≤ 65535) (hid : 0 ≤ id ∧ id ≤ 4294967295) (hl : ((ser6S d).1.length : Int) ≤ mtu) : split6S d mtu id = ([d], 0) := by
  unfold split6S
  rw [if_neg (by omega), if_neg (by omega), if_neg (by omega), if_pos hl]
/-- The pieces: one, the whole, or parts that fit. -/
theorem split6_fit {d : Ip6D} {mtu id : Int} (h : (split6S d mtu id).2 = 0) : (ser6S d).2 = 0 ∧ 1280 ≤ mtu ∧ mtu ≤ 65535 ∧ 0 ≤ id ∧ id ≤ 4294967295 ∧
    ((((ser6S d).1.length : Int) ≤ mtu ∧ split6S d mtu id = ([d], 0)) ∨
     (d.frag.has = false ∧ ¬ ((ser6S d).1.length : Int) ≤ mtu ∧ hd6 d + 8 ≤ mtu.toNat ∧ split6S d mtu id = ((parts (hd6 d) (hd6 d) mtu.toNat (rest6 d).length 0).map (piece6 d id), 0) ∧
      Fit (hd6 d) (hd6 d) mtu.toNat (rest6 d).length 0 (parts (hd6 d) (hd6 d) mtu.toNat (rest6 d).length 0) ∧ parts (hd6 d) (hd6 d) mtu.toNat (rest6 d).length 0 ≠ [])) := by
  unfold split6S at h ⊢
  split at h
  · rename_i h1; exact absurd h h1
  · rename_i h1
    rw [if_neg h1]
    split at h
    · cases h
    · rename_i h2
      rw [if_neg h2]
      split at h
      · cases h
      · rename_i h3
        rw [if_neg h3]
        refine ⟨by omega, by omega, by omega, by omega, by omega, ?_⟩
        split at h
        · rename_i h4
          rw [if_pos h4]
          exact .inl ⟨h4, rfl⟩
        · rename_i h4
          rw [if_neg h4]
          split at h
          · cases h
          · rename_i h5
            rw [if_neg h5]
            split at h
            · cases h
            · rename_i h6
              rw [if_neg h6]
              exact .inr ⟨by simpa using h5, h4, by omega, rfl, parts_fit (by omega) (by omega) _ _ (by omega) (Nat.zero_le _) rfl (fun h => by omega), pieces_ne (by omega) (by omega) _ _ (by omega)⟩
/-- What each piece is worth. -/
theorem may6 {d : Ip6D} {mtu id : Int} (h : (split6S d mtu id).2 = 0) : (split6S d mtu id).1 ≠ [] ∧ ∀ i q, (split6S d mtu id).1[i]? = some q →
    (ser6S q).2 = 0 ∧ ((ser6S q).1.length : Int) ≤ mtu ∧ split6S q mtu id = ([q], 0) ∧ (i + 1 < (split6S d mtu id).1.length → mtu < ((ser6S q).1.length : Int) + 8 ∧ q.data.length % 8 = 0 ∧ q.data.length ≠ 0) := by
  obtain ⟨h1, m1, m2, i1, i2, hcase⟩ := split6_fit h
  rcases hcase with ⟨hl, he⟩ | ⟨hf, hl, hh, he, hfit, hne⟩
  · rw [he]
    refine ⟨by simp, fun i q hq => ?_⟩
    match i, hq with
    | 0, hq =>
      simp at hq; subst hq
      exact ⟨h1, hl, he, fun hlt => by simp at hlt⟩
    | i + 1, hq => simp at hq
  · rw [he]
    refine ⟨by simpa using hne, fun i q hq => ?_⟩
    simp only [List.getElem?_map] at hq
    cases hx : (parts (hd6 d) (hd6 d) mtu.toNat (rest6 d).length 0)[i]? with
    | none => rw [hx] at hq; cases hq
    | some x =>
      rw [hx] at hq
      simp at hq; subst hq
      obtain ⟨p1, p2, p3, p4⟩ := piece6_ok (mtu := mtu.toNat) h1 hf ⟨i1, i2⟩ (by omega) hh hfit hx
      obtain ⟨_, _, _, _, _, k6, _, _⟩ := hfit.mem hx
      refine ⟨p1, by omega, split6_again p1 ⟨m1, m2⟩ ⟨i1, i2⟩ (by omega), fun hlt => ?_⟩
      have := k6 (by simpa using hlt)
      rw [p2, p3]
      unfold room at this
      split at this <;> omega
end Go.Eng
