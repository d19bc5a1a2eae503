/- Plain laws of bytes, numbers and bits: no program in sight. -/
import Derived.WalkKit
namespace Go.Eng
open Go
def Bts (bs : List Int) : Prop := ∀ x ∈ bs, 0 ≤ x ∧ x < 256
theorem Bts.at {bs : List Int} (h : Bts bs) {i : Nat} (hi : i < bs.length) : 0 ≤ bs[i] ∧ bs[i] < 256 := h _ (List.getElem_mem hi)
theorem Bts.take {bs : List Int} (h : Bts bs) (n : Nat) : Bts (bs.take n) := fun x hx => h x (List.mem_of_mem_take hx)
theorem Bts.drop {bs : List Int} (h : Bts bs) (n : Nat) : Bts (bs.drop n) := fun x hx => h x (List.mem_of_mem_drop hx)
theorem Bts.append {a b : List Int} (h : Bts a) (k : Bts b) : Bts (a ++ b) := fun x hx => (List.mem_append.1 hx).elim (h x) (k x)
theorem snoc_ind {α : Type} {P : List α → Prop} (h0 : P []) (h1 : ∀ l a, P l → P (l ++ [a])) (l : List α) : P l := by
  have : ∀ l : List α, P l.reverse := by
    intro l
    induction l with
    | nil => exact h0
    | cons a l ih => rw [List.reverse_cons]; exact h1 _ _ ih
  have h := this l.reverse
  rwa [List.reverse_reverse] at h
/-- The number of bytes, the first the highest. -/
def beNum (bs : List Int) : Int := bs.foldl (fun v b => v * 256 + b) 0
theorem beNum_snoc (bs : List Int) (b : Int) : beNum (bs ++ [b]) = beNum bs * 256 + b := by simp [beNum]
theorem beNum_bound {bs : List Int} (h : Bts bs) : 0 ≤ beNum bs ∧ beNum bs < 256 ^ bs.length := by
  revert h
  refine snoc_ind (P := fun bs => Bts bs → 0 ≤ beNum bs ∧ beNum bs < 256 ^ bs.length) ?_ ?_ bs
  · intro _; simp [beNum]
  · intro l b ih h
    have h1 := ih fun x hx => h x (by simp [hx])
    have h2 := h b (by simp)
    rw [beNum_snoc, List.length_append, List.length_singleton, Int.pow_succ]
    omega
theorem pow256_le {n : Nat} (h : n ≤ 8) : (256 : Int) ^ n ≤ 18446744073709551616 := by
  have : n = 0 ∨ n = 1 ∨ n = 2 ∨ n = 3 ∨ n = 4 ∨ n = 5 ∨ n = 6 ∨ n = 7 ∨ n = 8 := by omega
  rcases this with rfl | rfl | rfl | rfl | rfl | rfl | rfl | rfl | rfl <;> decide
theorem pow256_lt {n : Nat} (h : n < 8) : (256 : Int) ^ n ≤ 72057594037927936 := by
  have : n = 0 ∨ n = 1 ∨ n = 2 ∨ n = 3 ∨ n = 4 ∨ n = 5 ∨ n = 6 ∨ n = 7 := by omega
  rcases this with rfl | rfl | rfl | rfl | rfl | rfl | rfl | rfl <;> decide

/-- What Uint answers. -/
def uintS (bs : List Int) (p k : Int) : Int × Int := if k < 1 ∨ 8 < k then (0, 1) else if 0 ≤ p ∧ p + k ≤ bs.length then (beNum ((bs.drop p.toNat).take k.toNat), 0) else (0, 10)

/-! ### 'v | x' where the low bits of v are free -/
theorem or_low (v x : Int) (n : Nat) (hv : 0 ≤ v) (hx : 0 ≤ x) (hd : v % 2 ^ n = 0) (hlt : x < 2 ^ n) (k : Nat) (hk : v + x < 2 ^ k) :
    (((BitVec.ofInt k v) ||| (BitVec.ofInt k x)).toNat : Int) = v + x := by
  obtain ⟨a, rfl⟩ := Int.eq_ofNat_of_zero_le hv
  obtain ⟨b, rfl⟩ := Int.eq_ofNat_of_zero_le hx
  have hd' : a % 2 ^ n = 0 := by exact_mod_cast hd
  have hlt' : b < 2 ^ n := by exact_mod_cast hlt
  have hk' : a + b < 2 ^ k := by exact_mod_cast hk
  rw [BitVec.toNat_or]
  simp only [BitVec.toNat_ofInt]
  have e1 : ((a : Int) % ((2 ^ k : Nat) : Int)).toNat = a := by
    rw [Int.emod_eq_of_lt (by omega) (by exact_mod_cast (by omega : a < 2 ^ k))]; simp
  have e2 : ((b : Int) % ((2 ^ k : Nat) : Int)).toNat = b := by
    rw [Int.emod_eq_of_lt (by omega) (by exact_mod_cast (by omega : b < 2 ^ k))]; simp
  rw [e1, e2]
  obtain ⟨q, rfl⟩ := Nat.dvd_of_mod_eq_zero hd'
  have : 2 ^ n * q ||| b = 2 ^ n * q + b := by
    rw [Nat.mul_comm, ← Nat.shiftLeft_eq, Nat.shiftLeft_add_eq_or_of_lt hlt']
  rw [this]
  push_cast
  rfl
end Go.Eng
