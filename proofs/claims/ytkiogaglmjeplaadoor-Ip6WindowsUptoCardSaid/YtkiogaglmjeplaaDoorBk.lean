/- WRITTEN BY a program of this session (vc.py): for each Go function the condition that is enough for its contract, and the theorem that it is. -/
import Derived.Test.YtkiogaglmjeplaaDoorProg
import Derived.Test.YtkiogaglmjeplaaDoorBq
import Derived.Test.YtkiogaglmjeplaaDoorBg
import Derived.Test.YtkiogaglmjeplaaDoorBe
import Derived.Test.YtkiogaglmjeplaaDoorBh
import Derived.Test.YtkiogaglmjeplaaDoorBj
namespace Go.Proofs.YtkiogaglmjeplaaDoor
open Go.Eng
namespace N6
end N6
end Go.Proofs.YtkiogaglmjeplaaDoor
/- Chapter 6, writing: options and small functions, both programs. -/
namespace Go.Proofs.YtkiogaglmjeplaaDoor
namespace N6
open Go.Eng Go.RowKit
section
variable {w : World} {Γ : List Fct}
/-- The zeros behind the options, one by one. -/
theorem pad_step {n k : Nat} (hk : k ≤ pad4 n) : (n + k) % 4 = 0 ↔ k = pad4 n := by unfold pad4 at *; omega
end
end N6
end Go.Proofs.YtkiogaglmjeplaaDoor
/- Chapter 6, writing: Check and Serialise, both programs. -/
namespace Go.Eng
open Go Go.RowKit
section
variable {w0 w : World} {Γ : List Fct}
theorem Sep.fresh {g t : Nat} {cs : List Value} (H : Sep Γ w) (j i : Nat) (hne : j ≠ i) (hj : Γ[j]? = some (Fct.rest w0 None)) (hi : Γ[i]? = some (Fct.blk g t cs)) : w0.heap.size ≤ g :=
  Nat.le_of_not_lt fun hlt => H.apart j i _ _ hne hj hi g ⟨hlt, id⟩ rfl
/-- A block of the call's own as a row. -/
theorem Sep.blkOwn {g e b n c : Nat} {cs : List Value} (H : Sep Γ w) (i : Nat) (hi : Γ[i]? = some (Fct.blk g e cs)) (hb : b ≤ g) (hc : cs.length = c) (hn : n ≤ c) (hm : c ≤ maxLen) : Sep (Γ.set i (Fct.own b e 1 (.slice (some ⟨g, 0, none⟩) n c) n (cs.take n))) w :=
  H.weaken i hi (own_of_blk (H.blk i hi) hb hc hn hm) fun k hk => by
    have hk : (Value.slice (some ⟨g, 0, none⟩) n c).ownBlock = some k := hk
    simp [Value.ownBlock] at hk
    exact hk.symm
end
end Go.Eng
namespace Go.Proofs.YtkiogaglmjeplaaDoor
namespace N6
open Go.Eng Go.RowKit
section
variable {w : World} {Γ : List Fct} {b n c m : Nat} {A : Option Addr} {xs : List Int}
/-- A byte of a row of the call's own is written. -/
theorem setB (H : Sep Γ w) (j : Nat) {i : Nat} {y : Int} {K : World → Prop} (hi : Γ[j]? = some (ownB b (.slice A n c) n xs)) (h1 : i < n) (h2 : i < m) (hK : ∀ w', Sep (Γ.set j (ownB b (.slice A n c) n (xs.set i y))) w' → K w') :
    IdxVC A m 1 (i : Int) fun a => SetVC w a (.int .u8 y) K :=
  IdxVC.sep H j hi (by omega) (by omega) (by omega) fun a _ hset => hset _ _ rfl fun w' H' => hK w' (by rw [Int.toNat_natCast, map_set] at H'; exact H')
section
variable {h : Ip4V} {os : List OptR} {data : List Int}
theorem bad4_iff : bad4 (h.d os data) ↔ (h.tos < 0 ∨ 255 < h.tos ∨ h.id < 0 ∨ 65535 < h.id ∨ h.off < 0 ∨ 65528 < h.off ∨ h.off % 8 ≠ 0 ∨ h.ttl < 0 ∨ 255 < h.ttl ∨ h.proto < 0 ∨ 255 < h.proto ∨ ¬ four4 h.src ∨ ¬ four4 h.dst) := Iff.rfl
end
end
end N6
end Go.Proofs.YtkiogaglmjeplaaDoor
