/- WRITTEN BY a program of this session (vc.py): for each Go function the condition that is enough for its contract, and the theorem that it is. -/
import Derived.Test.YtkiogaglmjeplaaDoorProg
import Derived.Test.YtkiogaglmjeplaaDoorBq
import Derived.Test.YtkiogaglmjeplaaDoorBg
import Derived.Test.YtkiogaglmjeplaaDoorBe
import Derived.Test.YtkiogaglmjeplaaDoorBh
import Derived.Test.YtkiogaglmjeplaaDoorBj
namespace Go.Proofs.YtkiogaglmjeplaaDoor
open Go.Eng
namespace N6
end N6
end Go.Proofs.YtkiogaglmjeplaaDoor
/- Chapter 6, writing: options and small functions, both programs. -/
namespace Go.Proofs.YtkiogaglmjeplaaDoor
namespace N6
open Go.Eng Go.RowKit
section
variable {w : World} {Γ : List Fct}
end
end N6
end Go.Proofs.YtkiogaglmjeplaaDoor
/- Chapter 6, writing: Check and Serialise, both programs. -/
namespace Go.Eng
open Go Go.RowKit
section
variable {w0 w : World} {Γ : List Fct}
theorem Sep.fresh {g t : Nat} {cs : List Value} (H : Sep Γ w) (j i : Nat) (hne : j ≠ i) (hj : Γ[j]? = some (Fct.rest w0 None)) (hi : Γ[i]? = some (Fct.blk g t cs)) : w0.heap.size ≤ g :=
  Nat.le_of_not_lt fun hlt => H.apart j i _ _ hne hj hi g ⟨hlt, id⟩ rfl
/-- A block of the call's own as a row. -/
theorem Sep.blkOwn {g e b n c : Nat} {cs : List Value} (H : Sep Γ w) (i : Nat) (hi : Γ[i]? = some (Fct.blk g e cs)) (hb : b ≤ g) (hc : cs.length = c) (hn : n ≤ c) (hm : c ≤ maxLen) : Sep (Γ.set i (Fct.own b e 1 (.slice (some ⟨g, 0, none⟩) n c) n (cs.take n))) w :=
  H.weaken i hi (own_of_blk (H.blk i hi) hb hc hn hm) fun k hk => by
    have hk : (Value.slice (some ⟨g, 0, none⟩) n c).ownBlock = some k := hk
    simp [Value.ownBlock] at hk
    exact hk.symm
end
end Go.Eng
namespace Go.Proofs.YtkiogaglmjeplaaDoor
namespace N6
open Go.Eng Go.RowKit
section
variable {w : World} {Γ : List Fct} {b n c m : Nat} {A : Option Addr} {xs : List Int}
section
variable {h : Ip4V} {os : List OptR} {data : List Int}
end
end
end N6
end Go.Proofs.YtkiogaglmjeplaaDoor
