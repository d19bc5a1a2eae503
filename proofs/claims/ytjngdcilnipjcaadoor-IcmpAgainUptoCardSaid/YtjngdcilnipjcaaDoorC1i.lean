/- Contracts of package view's inner looks. -/
import Derived.Test.YtjngdcilnipjcaaDoorV
import Derived.Test.YtjngdcilnipjcaaDoorMem
import Derived.Test.YtjngdcilnipjcaaDoorPlain
namespace Go.Proofs.YtjngdcilnipjcaaDoor
open Go.Eng
/-- What a look panics with. -/
def gapc : List PanicEntry := [{ v := .iface 166 (.agg #[]), recovered := false }]

theorem look_yes {A : Option Addr} {n c : Nat} {i : Int} {bs : List Int} {w : World} (hb : Cells w A (bs.map (.int .u8))) (hl : bs.length = n) (h0 : 0 ≤ i) (h1 : i < n) :
    Calls Tryd.prog 94 #[.slice A n c, .int .i64 i] w fun e w' => w = w' ∧ e = .returned (.int .u8 (bs.getD i.toNat 0)) := by
  refine view_look_of A n c i w _ ?_
  unfold view_look_VC
  refine Br.no (by omega) (Br.no (by omega) ?_)
  exact IdxVC.int hb (by omega) (by omega) hl fun a hc => ⟨_, hc, rfl, rfl⟩
theorem look_no {A : Option Addr} {n c : Nat} {i : Int} {w : World} (h : ¬ (0 ≤ i ∧ i < n)) :
    Calls Tryd.prog 94 #[.slice A n c, .int .i64 i] w fun e w' => w = w' ∧ e = .panicked gapc := by
  refine view_look_of A n c i w _ ?_
  unfold view_look_VC
  refine Br.dec (fun h1 => ⟨rfl, rfl⟩) (fun h1 => Br.dec (fun h2 => ⟨rfl, rfl⟩) (fun h2 => ?_))
  omega

theorem getD_drop (bs : List Int) (p k : Nat) : (bs.drop p).getD k 0 = bs.getD (p + k) 0 := by
  simp [List.getD_eq_getElem?_getD, List.getElem?_drop]
theorem take_succ_getD (l : List Int) (k : Nat) (h : k < l.length) : l.take (k + 1) = l.take k ++ [l.getD k 0] := by
  rw [List.take_succ_eq_append_getElem h]; simp [h]

theorem part_yes {A : Option Addr} {n c : Nat} {p k : Int} {bs : List Value} {w : World} (hb : Cells w A bs) (_ : bs.length = n) (hc : n ≤ c) (hn : n ≤ 4611686018427387904) (h0 : 0 ≤ p) (hk : 0 ≤ k) (h1 : p + k ≤ n) :
    Calls Tryd.prog 93 #[.slice A n c, .int .i64 p, .int .i64 k] w fun e w' => w = w' ∧ ∃ A', e = .returned (.slice A' k.toNat k.toNat) ∧ Cells w A' ((bs.drop p.toNat).take k.toNat) ∧
      A' = if k = 0 then A else A.map (·.add p.toNat) := by
  refine view_part_of A n c p k w _ ?_
  unfold view_part_VC
  rw [w64 (n := (n : Int) - p) (by omega) (by omega), w64 (n := p + k) (by omega) (by omega)]
  refine Br.no (by omega) (Br.no (by omega) (Br.no (by omega) ?_))
  refine ⟨h0, by omega, by omega, by omega, rfl, _, ?_, ?_, rfl⟩
  · have e1 : (p + k).toNat - p.toNat = k.toNat := by omega
    rw [e1]
    congr 2
    by_cases hk0 : k = 0
    · rw [if_pos hk0, if_pos (by omega)]
    · rw [if_neg hk0, if_neg (by omega), Nat.mul_one]
  · exact hb.win
theorem part_no {A : Option Addr} {n c : Nat} {p k : Int} {w : World} (hn : n ≤ 140737488355328) (h : ¬ (0 ≤ p ∧ p ≤ n ∧ k ≤ n - p)) :
    Calls Tryd.prog 93 #[.slice A n c, .int .i64 p, .int .i64 k] w fun e w' => w = w' ∧ e = .panicked gapc := by
  refine view_part_of A n c p k w _ ?_
  unfold view_part_VC
  refine Br.dec (fun h1 => ⟨rfl, rfl⟩) (fun h1 => Br.dec (fun h2 => ⟨rfl, rfl⟩) (fun h2 => ?_))
  rw [w64 (n := (n : Int) - p) (by omega) (by omega)]
  refine Br.yes (by omega) ⟨rfl, rfl⟩
end Go.Proofs.YtjngdcilnipjcaaDoor
