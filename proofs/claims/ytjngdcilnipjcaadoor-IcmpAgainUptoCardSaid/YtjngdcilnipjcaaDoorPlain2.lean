/- Plain laws of bit fields: no program in sight. -/
import Derived.Test.YtjngdcilnipjcaaDoorPlain
import Derived.Test.YtjngdcilnipjcaaDoorMem
namespace Go.Eng
open Go
def psum (ws : List Int) : Int := ws.foldl (· + ·) 0
theorem psum_nil : psum [] = 0 := rfl
theorem psum_snoc (l : List Int) (a : Int) : psum (l ++ [a]) = psum l + a := by simp [psum]
theorem foldl_add (l : List Int) : ∀ a : Int, l.foldl (· + ·) a = a + l.foldl (· + ·) 0 := by
  induction l with
  | nil => intro a; simp
  | cons b l ih => intro a; simp only [List.foldl_cons]; rw [ih (a + b), ih (0 + b)]; omega
theorem psum_cons (a : Int) (l : List Int) : psum (a :: l) = a + psum l := by
  simp only [psum, List.foldl_cons]; rw [foldl_add]; omega
theorem psum_append (a b : List Int) : psum (a ++ b) = psum a + psum b := by
  induction a with
  | nil => simp [psum]
  | cons x a ih => rw [List.cons_append, psum_cons, psum_cons, ih]; omega
/-- Each width may be. -/
def W32 (ws : List Int) : Prop := ∀ x ∈ ws, 1 ≤ x ∧ x ≤ 32
def widthsOk (ws : List Int) : Prop := ws.length ≤ 64 ∧ W32 ws ∧ psum ws % 8 = 0
theorem W32.take {ws : List Int} (h : W32 ws) (n : Nat) : W32 (ws.take n) := fun x hx => h x (List.mem_of_mem_take hx)
theorem psum_bound {ws : List Int} (h : W32 ws) : 0 ≤ psum ws ∧ psum ws ≤ 32 * ws.length := by
  induction ws with
  | nil => simp [psum]
  | cons a l ih =>
    have h1 := ih fun x hx => h x (by simp [hx])
    have h2 := h a (by simp)
    rw [psum_cons]
    simp only [List.length_cons]
    omega
theorem psum_take_le {ws : List Int} (h : W32 ws) (i : Nat) : psum (ws.take i) ≤ psum ws := by
  have e : psum (ws.take i ++ ws.drop i) = psum (ws.take i) + psum (ws.drop i) := psum_append _ _
  rw [List.take_append_drop] at e
  have := (psum_bound (ws := ws.drop i) fun x hx => h x (List.mem_of_mem_drop hx)).1
  omega
theorem take_snoc (l : List Int) (k : Nat) (h : k < l.length) : l.take (k + 1) = l.take k ++ [l.getD k 0] := by
  rw [List.take_succ_eq_append_getElem h]; simp [h]

/-- The i-th bit, the highest of the first byte being number 0. -/
def bitAt (bs : List Int) (i : Nat) : Int := (bs.getD (i / 8) 0 / 2 ^ (7 - i % 8)) % 2
theorem bitAt_01 (bs : List Int) (i : Nat) : 0 ≤ bitAt bs i ∧ bitAt bs i < 2 := by unfold bitAt; omega
/-- The number of n bits from p on. -/
def fieldV (f : Nat → Int) (p : Nat) : Nat → Int
  | 0 => 0
  | n + 1 => 2 * fieldV f p n + f (p + n)
def fieldsV (f : Nat → Int) : Nat → List Int → List Int
  | _, [] => []
  | p, w :: r => fieldV f p w.toNat :: fieldsV f (p + w.toNat) r
theorem fieldV_bound {f : Nat → Int} (hf : ∀ i, 0 ≤ f i ∧ f i < 2) (p n : Nat) : 0 ≤ fieldV f p n ∧ fieldV f p n < 2 ^ n := by
  induction n with
  | zero => simp [fieldV]
  | succ n ih =>
    have := hf (p + n)
    rw [Int.pow_succ]
    simp only [fieldV]
    omega
theorem pow2_32 {n : Nat} (h : n ≤ 32) : (2 : Int) ^ n ≤ 4294967296 := by
  have : (2 : Int) ^ n ≤ 2 ^ 32 := by exact_mod_cast Nat.pow_le_pow_right (by decide) h
  have e : (2 : Int) ^ 32 = 4294967296 := by decide
  omega
theorem fieldsV_length (f : Nat → Int) (ws : List Int) : ∀ p, (fieldsV f p ws).length = ws.length := by
  induction ws with
  | nil => intro p; rfl
  | cons w r ih => intro p; simp [fieldsV, ih]
theorem fieldsV_snoc (f : Nat → Int) (a : Int) : ∀ (l : List Int) (p : Nat), W32 l → fieldsV f p (l ++ [a]) = fieldsV f p l ++ [fieldV f (p + (psum l).toNat) a.toNat]
  | [], p, _ => by simp [fieldsV, psum]
  | w :: r, p, h => by
    have hw := h w (by simp)
    have hr : W32 r := fun x hx => h x (by simp [hx])
    have hb := psum_bound hr
    simp only [List.cons_append, fieldsV]
    rw [fieldsV_snoc f a r _ hr, psum_cons]
    congr 3
    rw [show (w + psum r).toNat = w.toNat + (psum r).toNat by omega, Nat.add_assoc]
theorem fieldV_congr {f g : Nat → Int} (p q : Nat) : ∀ n, (∀ i, i < n → f (p + i) = g (q + i)) → fieldV f p n = fieldV g q n
  | 0, _ => rfl
  | n + 1, h => by simp only [fieldV]; rw [fieldV_congr p q n (fun i hi => h i (by omega)), h n (by omega)]

/-! ### The program's own writing of a bit -/
theorem and1_u8 {y : Int} (h0 : 0 ≤ y) (h1 : y < 256) : bitv .and .u8 y 1 = y % 2 := by
  obtain ⟨a, rfl⟩ := Int.eq_ofNat_of_zero_le h0
  unfold bitv
  simp only
  have e : ((BitVec.ofInt IntKind.u8.bits (a : Int) &&& BitVec.ofInt IntKind.u8.bits 1).toNat : Int) = ((a % 2 : Nat) : Int) := by
    rw [BitVec.toNat_and]
    have : (BitVec.ofInt IntKind.u8.bits 1).toNat = 1 := by decide
    rw [this, Nat.and_one_is_mod]
    simp [IntKind.bits]
  rw [e]
  rw [show ((a % 2 : Nat) : Int) = (a : Int) % 2 by omega]
  exact wu8 (by omega) (by omega)
/-- One bit, as the program reads it. -/
theorem bit_read {x : Int} (h0 : 0 ≤ x) (h1 : x < 256) (m : Nat) :
    bitv .and .u8 (Int.fdiv x (2 ^ (min (IntKind.u64.wrap (7 - IntKind.u64.wrap (Int.tmod (m : Int) 8))).toNat 8))) 1 = (x / 2 ^ (7 - m % 8)) % 2 := by
  have e1 : Int.tmod (m : Int) 8 = ((m % 8 : Nat) : Int) := by rw [Int.tmod_eq_emod_of_nonneg (by omega)]; omega
  rw [e1, wu64 (n := ((m % 8 : Nat) : Int)) (by omega) (by omega), wu64 (n := 7 - ((m % 8 : Nat) : Int)) (by omega) (by omega)]
  have e2 : min (7 - ((m % 8 : Nat) : Int)).toNat 8 = 7 - m % 8 := by omega
  rw [e2, Int.fdiv_eq_ediv_of_nonneg _ (by exact Int.pow_nonneg (by decide))]
  have hp : (1 : Int) ≤ 2 ^ (7 - m % 8) := by
    have : (1 : Nat) ≤ 2 ^ (7 - m % 8) := Nat.one_le_two_pow
    exact_mod_cast this
  have hd0 : 0 ≤ x / 2 ^ (7 - m % 8) := Int.ediv_nonneg h0 (by omega)
  have hd1 : x / 2 ^ (7 - m % 8) ≤ x := Int.ediv_le_self _ h0
  exact and1_u8 hd0 (by omega)
/-- One bit joins, as the program does it. -/
theorem bit_join {v b : Int} (h0 : 0 ≤ v) (h1 : v < 4294967296) (hb0 : 0 ≤ b) (hb1 : b < 2) : bitv .or .i64 (IntKind.i64.wrap (v * 2)) (IntKind.i64.wrap b) = 2 * v + b := by
  rw [w64 (n := v * 2) (by omega) (by omega), w64 (n := b) (by omega) (by omega)]
  unfold bitv
  simp only
  rw [or_low (v * 2) b 1 (by omega) hb0 (by omega) (by omega) IntKind.i64.bits (by show _ < (2 : Int) ^ 64; omega)]
  rw [w64 (by omega) (by omega)]; omega
end Go.Eng
