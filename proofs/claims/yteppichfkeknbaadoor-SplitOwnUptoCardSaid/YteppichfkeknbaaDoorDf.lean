/- SplitMay4: each piece may be, is as long as can be, and stays when it is cut again. -/
import Derived.Test.YteppichfkeknbaaDoorBn
import Derived.Test.YteppichfkeknbaaDoorBh
import Derived.Test.YteppichfkeknbaaDoorBk
namespace Go.Proofs.YteppichfkeknbaaDoor
namespace N6
open Go.Eng Go.RowKit
section
variable {w : World}
end
end N6
end Go.Proofs.YteppichfkeknbaaDoor
/- SplitMay6: each piece may be, is as long as can be, and stays when it is cut again. -/
namespace Go.Proofs.YteppichfkeknbaaDoor
namespace N6
open Go.Eng Go.RowKit
section
variable {w : World}
theorem split6_nil {d : Ip6D} {mtu id : Int} (h : (split6S d mtu id).2 ≠ 0) : (split6S d mtu id).1 = [] := by
  unfold split6S at h ⊢
  split
  · rfl
  · rename_i h1
    rw [if_neg h1] at h
    split
    · rfl
    · rename_i h2
      rw [if_neg h2] at h
      split
      · rfl
      · rename_i h3
        rw [if_neg h3] at h
        split
        · rename_i h4; rw [if_pos h4] at h; exact absurd rfl h
        · rename_i h4
          rw [if_neg h4] at h
          split
          · rfl
          · rename_i h5
            rw [if_neg h5] at h
            split
            · rfl
            · rename_i h6; rw [if_neg h6] at h; exact absurd rfl h
end
end N6
end Go.Proofs.YteppichfkeknbaaDoor
/- SplitTwice: cut at one MTU, and the pieces at another: the parts are the whole again. -/
namespace Go.Eng
open Go Go.RowKit
theorem Chained.at : ∀ {l : List (Nat × Nat)} {n p i : Nat} {x : Nat × Nat}, Chained n p l → l[i]? = some x → x.1 + x.2 ≤ n ∧ (i + 1 < l.length → x.1 + x.2 < n) ∧ (i + 1 = l.length → x.1 + x.2 = n)
  | [], _, _, _, _, _, h => by simp at h
  | y :: l, n, p, 0, x, hc, h => by
    simp at h; subst h
    obtain ⟨h1, h2, h3, h4⟩ := hc
    refine ⟨by omega, fun hl => ?_, fun hl => ?_⟩
    · have := (h3 (fun e => by subst e; simp at hl)).2; omega
    · have : l = [] := List.eq_nil_of_length_eq_zero (by rw [List.length_cons] at hl; omega)
      subst this
      have h4 : p + y.2 = n := h4
      omega
  | y :: l, n, p, i + 1, x, hc, h => by
    obtain ⟨k1, k2, k3⟩ := Chained.at hc.2.2.2 (by simpa using h : l[i]? = some x)
    exact ⟨k1, fun hl => k2 (by simpa using hl), fun hl => k3 (by simpa using hl)⟩
end Go.Eng
namespace Go.Proofs.YteppichfkeknbaaDoor
namespace N6
open Go.Eng Go.RowKit
section
variable {w : World}
end
end N6
end Go.Proofs.YteppichfkeknbaaDoor
