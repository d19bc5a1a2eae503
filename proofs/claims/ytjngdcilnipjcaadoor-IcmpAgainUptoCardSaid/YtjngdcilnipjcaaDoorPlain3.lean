/- Plain laws of packing: no program in sight. -/
import Derived.Test.YtjngdcilnipjcaaDoorPlain2
namespace Go.Eng
open Go
theorem set_bit_nat : ∀ x, x < 256 → ∀ m, m < 8 → ∀ b, b < 2 → (x / 2 ^ m) % 2 = 0 →
    (x ||| (b * 2 ^ m)) < 256 ∧ ∀ j, j < 8 → ((x ||| (b * 2 ^ m)) / 2 ^ j) % 2 = if j = m then b else (x / 2 ^ j) % 2 := by decide +kernel
/-- The byte in which one free bit is laid, as the program does it. -/
theorem or_bit {x b : Int} {m : Nat} (h0 : 0 ≤ x) (h1 : x < 256) (hm : m < 8) (hb0 : 0 ≤ b) (hb1 : b < 2) (hz : (x / 2 ^ m) % 2 = 0) :
    0 ≤ bitv .or .u8 x (IntKind.u8.wrap (b * 2 ^ m)) ∧ bitv .or .u8 x (IntKind.u8.wrap (b * 2 ^ m)) < 256 ∧
      ∀ j, j < 8 → (bitv .or .u8 x (IntKind.u8.wrap (b * 2 ^ m)) / 2 ^ j) % 2 = if j = m then b else (x / 2 ^ j) % 2 := by
  obtain ⟨a, rfl⟩ := Int.eq_ofNat_of_zero_le h0
  obtain ⟨c, rfl⟩ := Int.eq_ofNat_of_zero_le hb0
  have hz' : (a / 2 ^ m) % 2 = 0 := by exact_mod_cast hz
  have ha : a < 256 := by omega
  have hc : c < 2 := by omega
  have key := set_bit_nat a ha m hm c hc hz'
  have hp : c * 2 ^ m < 256 := by
    have : 2 ^ m ≤ 2 ^ 7 := Nat.pow_le_pow_right (by decide) (by omega)
    have h2 : c * 2 ^ m ≤ 1 * 2 ^ m := Nat.mul_le_mul_right _ (by omega)
    omega
  have e0 : ((c : Int) * 2 ^ m) = ((c * 2 ^ m : Nat) : Int) := by push_cast; rfl
  have e1 : IntKind.u8.wrap ((c : Int) * 2 ^ m) = ((c * 2 ^ m : Nat) : Int) := by rw [e0]; exact wu8 (by omega) (by omega)
  have e2 : bitv .or .u8 (a : Int) ((c * 2 ^ m : Nat) : Int) = ((a ||| c * 2 ^ m : Nat) : Int) := by
    unfold bitv
    simp only
    rw [BitVec.toNat_or]
    have t1 : (BitVec.ofInt IntKind.u8.bits (a : Int)).toNat = a := by simp [IntKind.bits]; omega
    have t2 : (BitVec.ofInt IntKind.u8.bits ((c * 2 ^ m : Nat) : Int)).toNat = c * 2 ^ m := by
      rw [BitVec.toNat_ofInt]
      have : (((c * 2 ^ m : Nat) : Int) % ((2 ^ IntKind.u8.bits : Nat) : Int)) = ((c * 2 ^ m : Nat) : Int) := Int.emod_eq_of_lt (by omega) (by simp [IntKind.bits]; omega)
      rw [this]; exact Int.toNat_natCast _
    rw [t1, t2]
    exact wu8 (by omega) (by omega)
  rw [e1, e2]
  refine ⟨by omega, by omega, fun j hj => ?_⟩
  have := key.2 j hj
  by_cases e : j = m
  · rw [if_pos e] at this ⊢; exact_mod_cast this
  · rw [if_neg e] at this ⊢; exact_mod_cast this

theorem bitAt_set {ds : List Int} {p : Nat} {y b : Int} (hp : p / 8 < ds.length) (h : ∀ j, j < 8 → (y / 2 ^ j) % 2 = if j = 7 - p % 8 then b else (ds[p / 8] / 2 ^ j) % 2) (q : Nat) :
    bitAt (ds.set (p / 8) y) q = if q = p then b else bitAt ds q := by
  unfold bitAt
  by_cases hq : q / 8 = p / 8
  · rw [hq]
    have e : (ds.set (p / 8) y).getD (p / 8) 0 = y := by simp [hp]
    have e2 : ds.getD (p / 8) 0 = ds[p / 8] := by simp [hp]
    rw [e, e2, h (7 - q % 8) (by omega)]
    by_cases hqp : q = p
    · subst hqp; simp
    · rw [if_neg (by omega), if_neg hqp]
  · have hqp : q ≠ p := by rintro rfl; exact hq rfl
    rw [if_neg hqp]
    have : (ds.set (p / 8) y).getD (q / 8) 0 = ds.getD (q / 8) 0 := by
      simp [Ne.symm hq]
    rw [this]

theorem half_join (v : Int) (q : Nat) (_ : 0 ≤ v) : 2 * (v / 2 ^ (q + 1)) + (v / 2 ^ q) % 2 = v / 2 ^ q := by
  have : v / 2 ^ (q + 1) = (v / 2 ^ q) / 2 := by
    rw [Int.pow_succ, Int.ediv_ediv_of_nonneg (Int.pow_nonneg (by decide))]
  rw [this]; omega
theorem fieldsV_congr {f g : Nat → Int} : ∀ (ws : List Int) (p : Nat), W32 ws → (∀ i, i < (psum ws).toNat → f (p + i) = g (p + i)) → fieldsV f p ws = fieldsV g p ws
  | [], _, _, _ => rfl
  | w :: r, p, hW, h => by
    have hw := hW w (by simp)
    have hr : W32 r := fun x hx => hW x (by simp [hx])
    have hb := psum_bound hr
    simp only [fieldsV]
    rw [psum_cons] at h
    have e1 := fieldV_congr p p w.toNat (f := f) (g := g) (fun i hi => h i (by omega))
    have e2 := fieldsV_congr r (p + w.toNat) hr (f := f) (g := g) (fun i hi => by
      have := h (w.toNat + i) (by omega)
      rwa [← Nat.add_assoc] at this)
    rw [e1, e2]

/-- What may be packed. -/
def valuesOk (ws vs : List Int) : Prop := vs.length = ws.length ∧ ∀ i, i < ws.length → 0 ≤ vs.getD i 0 ∧ vs.getD i 0 < 2 ^ (ws.getD i 0).toNat
/-- ds is these values, packed. -/
structure Packed (ws vs ds : List Int) : Prop where
  len : (ds.length : Int) = psum ws / 8
  bts : Bts ds
  vals : fieldsV (bitAt ds) 0 ws = vs

/-- The bits tell the byte. -/
theorem byte_of_bits : ∀ x, x < 256 → ∀ y, y < 256 → (∀ j, j < 8 → (x / 2 ^ j) % 2 = (y / 2 ^ j) % 2) → x = y := by
  intro x hx y hy h
  have h0 := h 0 (by omega); have h1 := h 1 (by omega); have h2 := h 2 (by omega); have h3 := h 3 (by omega)
  have h4 := h 4 (by omega); have h5 := h 5 (by omega); have h6 := h 6 (by omega); have h7 := h 7 (by omega)
  simp only [Nat.reducePow] at h0 h1 h2 h3 h4 h5 h6 h7
  omega
theorem bytes_of_bits {a b : List Int} (ha : Bts a) (hb : Bts b) (hl : a.length = b.length) (h : ∀ i, i < 8 * a.length → bitAt a i = bitAt b i) : a = b := by
  apply List.ext_getElem hl
  intro k hk hk'
  have h1 := ha.at hk
  have h2 := hb.at hk'
  obtain ⟨x, hx⟩ := Int.eq_ofNat_of_zero_le h1.1
  obtain ⟨y, hy⟩ := Int.eq_ofNat_of_zero_le h2.1
  rw [hx, hy]
  congr 1
  refine byte_of_bits x (by omega) y (by omega) fun j hj => ?_
  have := h (8 * k + (7 - j)) (by omega)
  unfold bitAt at this
  have e1 : (8 * k + (7 - j)) / 8 = k := by omega
  have e2 : 7 - (8 * k + (7 - j)) % 8 = j := by omega
  rw [e1, e2] at this
  have ga : a.getD k 0 = a[k] := by simp [hk]
  have gb : b.getD k 0 = b[k] := by simp [hk']
  rw [ga, gb, hx, hy] at this
  exact_mod_cast this
theorem fieldV_inj {f g : Nat → Int} (hf : ∀ i, 0 ≤ f i ∧ f i < 2) (hg : ∀ i, 0 ≤ g i ∧ g i < 2) (p : Nat) : ∀ n, fieldV f p n = fieldV g p n → ∀ i, i < n → f (p + i) = g (p + i)
  | 0, _, i, hi => by omega
  | n + 1, h, i, hi => by
    simp only [fieldV] at h
    have h1 := hf (p + n)
    have h2 := hg (p + n)
    have e : fieldV f p n = fieldV g p n := by omega
    rcases Nat.lt_succ_iff_lt_or_eq.1 hi with hi | rfl
    · exact fieldV_inj hf hg p n e i hi
    · omega
theorem fieldsV_inj {f g : Nat → Int} (hf : ∀ i, 0 ≤ f i ∧ f i < 2) (hg : ∀ i, 0 ≤ g i ∧ g i < 2) : ∀ (ws : List Int) (p : Nat), W32 ws → fieldsV f p ws = fieldsV g p ws → ∀ i, i < (psum ws).toNat → f (p + i) = g (p + i)
  | [], _, _, _, i, hi => by simp [psum] at hi
  | w :: r, p, hW, h, i, hi => by
    have hw := hW w (by simp)
    have hr : W32 r := fun x hx => hW x (by simp [hx])
    have hb := psum_bound hr
    simp only [fieldsV, List.cons.injEq] at h
    rw [psum_cons] at hi
    by_cases hlt : i < w.toNat
    · exact fieldV_inj hf hg p _ h.1 i hlt
    · have := fieldsV_inj hf hg r (p + w.toNat) hr h.2 (i - w.toNat) (by omega)
      rwa [show p + w.toNat + (i - w.toNat) = p + i by omega] at this
/-- There is but one packing. -/
theorem Packed.unique {ws vs a b : List Int} (hW : W32 ws) (h8 : psum ws % 8 = 0) (ha : Packed ws vs a) (hb : Packed ws vs b) : a = b := by
  have hl : a.length = b.length := by have := ha.len; have := hb.len; omega
  have hp := (psum_bound hW).1
  refine bytes_of_bits ha.bts hb.bts hl fun i hi => ?_
  have := fieldsV_inj (bitAt_01 a) (bitAt_01 b) ws 0 hW (ha.vals.trans hb.vals.symm) i (by have := ha.len; omega)
  simpa using this
/-- What is read may be packed, and packing it gives the bytes. -/
theorem fieldsV_ok {f : Nat → Int} (hf : ∀ i, 0 ≤ f i ∧ f i < 2) : ∀ (ws : List Int) (p : Nat), ∀ i, i < ws.length → 0 ≤ (fieldsV f p ws).getD i 0 ∧ (fieldsV f p ws).getD i 0 < 2 ^ (ws.getD i 0).toNat
  | [], _, i, hi => by simp at hi
  | w :: r, p, 0, _ => by simpa [fieldsV] using fieldV_bound hf p w.toNat
  | w :: r, p, i + 1, hi => by simpa [fieldsV] using fieldsV_ok hf r (p + w.toNat) i (by simpa using hi)
end Go.Eng
