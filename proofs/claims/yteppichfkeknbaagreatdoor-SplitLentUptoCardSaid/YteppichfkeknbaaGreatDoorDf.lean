/- SplitMay4: each piece may be, is as long as can be, and stays when it is cut again. -/
import Derived.Test.YteppichfkeknbaaGreatDoorBn
import Derived.Test.YteppichfkeknbaaGreatDoorBh
import Derived.Test.YteppichfkeknbaaGreatDoorBk
namespace Go.Proofs.YteppichfkeknbaaGreatDoor
namespace N6
open Go.Eng Go.RowKit
section
variable {w : World}
end
end N6
end Go.Proofs.YteppichfkeknbaaGreatDoor
/- SplitMay6: each piece may be, is as long as can be, and stays when it is cut again. -/
namespace Go.Proofs.YteppichfkeknbaaGreatDoor
namespace N6
open Go.Eng Go.RowKit
section
variable {w : World}
theorem split6_nil {d : Ip6D} {mtu id : Int} (h : (split6S d mtu id).2 ≠ 0) : (split6S d mtu id).1 = [] := by
  unfold split6S at h ⊢
  split
  · rfl
  · rename_i h1
    rw [if_neg h1] at h
    split
    · rfl
    · rename_i h2
      rw [if_neg h2] at h
      split
      · rfl
      · rename_i h3
        rw [if_neg h3] at h
        split
        · rename_i h4; rw [if_pos h4] at h; exact absurd rfl h
        · rename_i h4
          rw [if_neg h4] at h
          split
          · rfl
          · rename_i h5
            rw [if_neg h5] at h
            split
            · rfl
            · rename_i h6; rw [if_neg h6] at h; exact absurd rfl h
end
end N6
end Go.Proofs.YteppichfkeknbaaGreatDoor
