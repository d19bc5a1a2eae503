/- Plain laws of packing: no program in sight. -/
import Derived.Test.YthhgbpmihhljdaaDoorBai
import Derived.Test.YthhgbpmihhljdaaDoorProg
import Derived.Test.YthhgbpmihhljdaaDoorBae
import Derived.Test.YthhgbpmihhljdaaDoorBag
import Derived.Test.YthhgbpmihhljdaaDoorBaf
import Derived.Test.YthhgbpmihhljdaaDoorBah
namespace Go.Eng
open Go
theorem set_bit_nat : ∀ x, x < 256 → ∀ m, m < 8 → ∀ b, b < 2 → (x / 2 ^ m) % 2 = 0 →
    (x ||| (b * 2 ^ m)) < 256 ∧ ∀ j, j < 8 → ((x ||| (b * 2 ^ m)) / 2 ^ j) % 2 = if j = m then b else (x / 2 ^ j) % 2 := by decide +kernel
/-- The byte in which one free bit is laid, as the program does it. -/
theorem or_bit {x b : Int} {m : Nat} (h0 : 0 ≤ x) (h1 : x < 256) (hm : m < 8) (hb0 : 0 ≤ b) (hb1 : b < 2) (hz : (x / 2 ^ m) % 2 = 0) :
    0 ≤ bitv .or .u8 x (IntKind.u8.wrap (b * 2 ^ m)) ∧ bitv .or .u8 x (IntKind.u8.wrap (b * 2 ^ m)) < 256 ∧
      ∀ j, j < 8 → (bitv .or .u8 x (IntKind.u8.wrap (b * 2 ^ m)) / 2 ^ j) % 2 = if j = m then b else (x / 2 ^ j) % 2 := by
  obtain ⟨a, rfl⟩ := Int.eq_ofNat_of_zero_le h0
  obtain ⟨c, rfl⟩ := Int.eq_ofNat_of_zero_le hb0
  have hz' : (a / 2 ^ m) % 2 = 0 := by exact_mod_cast hz
  have ha : a < 256 := by omega
  have hc : c < 2 := by omega
  have key := set_bit_nat a ha m hm c hc hz'
  have hp : c * 2 ^ m < 256 := by
    have : 2 ^ m ≤ 2 ^ 7 := Nat.pow_le_pow_right (by decide) (by omega)
    have h2 : c * 2 ^ m ≤ 1 * 2 ^ m := Nat.mul_le_mul_right _ (by omega)
    omega
  have e0 : ((c : Int) * 2 ^ m) = ((c * 2 ^ m : Nat) : Int) := by push_cast; rfl
  have e1 : IntKind.u8.wrap ((c : Int) * 2 ^ m) = ((c * 2 ^ m : Nat) : Int) := by rw [e0]; exact wu8 (by omega) (by omega)
  have e2 : bitv .or .u8 (a : Int) ((c * 2 ^ m : Nat) : Int) = ((a ||| c * 2 ^ m : Nat) : Int) := by
    unfold bitv
    simp only
    rw [BitVec.toNat_or]
    have t1 : (BitVec.ofInt IntKind.u8.bits (a : Int)).toNat = a := by simp [IntKind.bits]; omega
    have t2 : (BitVec.ofInt IntKind.u8.bits ((c * 2 ^ m : Nat) : Int)).toNat = c * 2 ^ m := by
      rw [BitVec.toNat_ofInt]
      have : (((c * 2 ^ m : Nat) : Int) % ((2 ^ IntKind.u8.bits : Nat) : Int)) = ((c * 2 ^ m : Nat) : Int) := Int.emod_eq_of_lt (by omega) (by simp [IntKind.bits]; omega)
      rw [this]; exact Int.toNat_natCast _
    rw [t1, t2]
    exact wu8 (by omega) (by omega)
  rw [e1, e2]
  refine ⟨by omega, by omega, fun j hj => ?_⟩
  have := key.2 j hj
  by_cases e : j = m
  · rw [if_pos e] at this ⊢; exact_mod_cast this
  · rw [if_neg e] at this ⊢; exact_mod_cast this

theorem bitAt_set {ds : List Int} {p : Nat} {y b : Int} (hp : p / 8 < ds.length) (h : ∀ j, j < 8 → (y / 2 ^ j) % 2 = if j = 7 - p % 8 then b else (ds[p / 8] / 2 ^ j) % 2) (q : Nat) :
    bitAt (ds.set (p / 8) y) q = if q = p then b else bitAt ds q := by
  unfold bitAt
  by_cases hq : q / 8 = p / 8
  · rw [hq]
    have e : (ds.set (p / 8) y).getD (p / 8) 0 = y := by simp [hp]
    have e2 : ds.getD (p / 8) 0 = ds[p / 8] := by simp [hp]
    rw [e, e2, h (7 - q % 8) (by omega)]
    by_cases hqp : q = p
    · subst hqp; simp
    · rw [if_neg (by omega), if_neg hqp]
  · have hqp : q ≠ p := by rintro rfl; exact hq rfl
    rw [if_neg hqp]
    have : (ds.set (p / 8) y).getD (q / 8) 0 = ds.getD (q / 8) 0 := by
      simp [Ne.symm hq]
    rw [this]

theorem half_join (v : Int) (q : Nat) (_ : 0 ≤ v) : 2 * (v / 2 ^ (q + 1)) + (v / 2 ^ q) % 2 = v / 2 ^ q := by
  have : v / 2 ^ (q + 1) = (v / 2 ^ q) / 2 := by
    rw [Int.pow_succ, Int.ediv_ediv_of_nonneg (Int.pow_nonneg (by decide))]
  rw [this]; omega
theorem fieldsV_congr {f g : Nat → Int} : ∀ (ws : List Int) (p : Nat), W32 ws → (∀ i, i < (psum ws).toNat → f (p + i) = g (p + i)) → fieldsV f p ws = fieldsV g p ws
  | [], _, _, _ => rfl
  | w :: r, p, hW, h => by
    have hw := hW w (by simp)
    have hr : W32 r := fun x hx => hW x (by simp [hx])
    have hb := psum_bound hr
    simp only [fieldsV]
    rw [psum_cons] at h
    have e1 := fieldV_congr p p w.toNat (f := f) (g := g) (fun i hi => h i (by omega))
    have e2 := fieldsV_congr r (p + w.toNat) hr (f := f) (g := g) (fun i hi => by
      have := h (w.toNat + i) (by omega)
      rwa [← Nat.add_assoc] at this)
    rw [e1, e2]

/-- What may be packed. -/
def valuesOk (ws vs : List Int) : Prop := vs.length = ws.length ∧ ∀ i, i < ws.length → 0 ≤ vs.getD i 0 ∧ vs.getD i 0 < 2 ^ (ws.getD i 0).toNat
/-- ds is these values, packed. -/
structure Packed (ws vs ds : List Int) : Prop where
  len : (ds.length : Int) = psum ws / 8
  bts : Bts ds
  vals : fieldsV (bitAt ds) 0 ws = vs

end Go.Eng
/- Bit fields as numbers out of bytes: the headers of versions 4 and 6. It speaks of any program. -/
namespace Go.Eng
theorem fieldV_sum (f : Nat → Int) (p a : Nat) : ∀ b, fieldV f p (a + b) = fieldV f p a * 2 ^ b + fieldV f (p + a) b
  | 0 => by simp [fieldV]
  | b + 1 => by
    rw [← Nat.add_assoc]
    simp only [fieldV]
    have e : fieldV f p a * 2 ^ (b + 1) = 2 * (fieldV f p a * 2 ^ b) := by
      rw [Int.pow_succ, ← Int.mul_assoc, Int.mul_comm _ 2]
    rw [fieldV_sum f p a b, e, Nat.add_assoc p a b]
    omega
/-- A field within a byte. -/
theorem fieldV_in {bs : List Int} (hB : Bts bs) (q s : Nat) : ∀ k, s + k ≤ 8 → fieldV (bitAt bs) (8 * q + s) k = bs.getD q 0 / 2 ^ (8 - s - k) % 2 ^ k
  | 0, _ => by simp [fieldV, Int.emod_one]
  | k + 1, h => by
    simp only [fieldV]
    rw [fieldV_in hB q s k (by omega)]
    have hx : ∃ X : Nat, bs.getD q 0 = (X : Int) := by
      by_cases hq : q < bs.length
      · have := hB.at hq
        have e : bs.getD q 0 = bs[q] := by simp [hq]
        exact ⟨bs[q].toNat, by rw [e]; omega⟩
      · exact ⟨0, by simp [List.getD_eq_getElem?_getD, List.getElem?_eq_none (by omega : bs.length ≤ q)]⟩
    obtain ⟨X, hX⟩ := hx
    have hb : bitAt bs (8 * q + s + k) = bs.getD q 0 / 2 ^ (7 - (s + k)) % 2 := by
      unfold bitAt
      rw [show (8 * q + s + k) / 8 = q by omega, show (8 * q + s + k) % 8 = s + k by omega]
    rw [hb, hX]
    obtain ⟨m, hm⟩ : ∃ m, 7 - (s + k) = m := ⟨_, rfl⟩
    rw [show 8 - s - k = m + 1 by omega, show 8 - s - (k + 1) = m by omega, hm]
    have e1 : ((X : Int) / 2 ^ (m + 1)) = ((X / 2 ^ m / 2 : Nat) : Int) := by
      rw [Nat.div_div_eq_div_mul, ← Nat.pow_succ]; simp
    have e2 : ((X : Int) / 2 ^ m) = ((X / 2 ^ m : Nat) : Int) := by simp
    rw [e1, e2]
    generalize X / 2 ^ m = Y
    have := Nat.mod_mul (x := Y) (a := 2) (b := 2 ^ k)
    have e3 : (2 : Int) ^ k = ((2 ^ k : Nat) : Int) := by simp
    have e4 : (2 : Int) ^ (k + 1) = ((2 * 2 ^ k : Nat) : Int) := by rw [Int.pow_succ]; simp [Int.mul_comm]
    rw [e3, e4, ← Int.natCast_emod, ← Int.natCast_emod, this]
    simp
    omega
theorem getD_bts {bs : List Int} (hB : Bts bs) (q : Nat) : 0 ≤ bs.getD q 0 ∧ bs.getD q 0 < 256 := by
  by_cases hq : q < bs.length
  · have e : bs.getD q 0 = bs[q] := by simp [hq]
    rw [e]; exact hB.at hq
  · rw [List.getD_eq_getElem?_getD, List.getElem?_eq_none (by omega : bs.length ≤ q)]; decide
theorem fieldV_whole {bs : List Int} (hB : Bts bs) (q : Nat) : fieldV (bitAt bs) (8 * q) 8 = bs.getD q 0 := by
  have := fieldV_in hB q 0 8 (by decide)
  have hb := getD_bts hB q
  rw [Nat.add_zero] at this
  rw [this]
  simp only [Nat.sub_zero, Nat.sub_self, Int.pow_zero, Int.ediv_one, Int.reducePow]
  omega
theorem fieldV_two {bs : List Int} (hB : Bts bs) (q : Nat) : fieldV (bitAt bs) (8 * q) 16 = bs.getD q 0 * 256 + bs.getD (q + 1) 0 := by
  rw [show 16 = 8 + 8 from rfl, fieldV_sum, fieldV_whole hB, show 8 * q + 8 = 8 * (q + 1) by omega, fieldV_whole hB]; rfl
theorem fieldV_four {bs : List Int} (hB : Bts bs) (q : Nat) : fieldV (bitAt bs) (8 * q) 32 = ((bs.getD q 0 * 256 + bs.getD (q + 1) 0) * 256 + bs.getD (q + 2) 0) * 256 + bs.getD (q + 3) 0 := by
  rw [show 32 = 16 + 16 from rfl, fieldV_sum, fieldV_two hB, show 8 * q + 16 = 8 * (q + 2) by omega, fieldV_two hB, show q + 2 + 1 = q + 3 from rfl]
  simp only [Int.reducePow]
  omega
/-! ### Version 6 -/
def ws6 : List Int := [4, 8, 20, 16, 8, 8]
def wsf : List Int := [8, 8, 13, 2, 1, 32]
theorem ws6_ok : widthsOk ws6 := ⟨by decide, by intro x hx; simp [ws6] at hx; omega, by decide⟩
theorem wsf_ok : widthsOk wsf := ⟨by decide, by intro x hx; simp [wsf] at hx; omega, by decide⟩
theorem ws6_fields {bs : List Int} (hB : Bts bs) : fieldsV (bitAt bs) 0 ws6 = [bs.getD 0 0 / 16, bs.getD 0 0 % 16 * 16 + bs.getD 1 0 / 16, (bs.getD 1 0 % 16 * 256 + bs.getD 2 0) * 256 + bs.getD 3 0, bs.getD 4 0 * 256 + bs.getD 5 0, bs.getD 6 0, bs.getD 7 0] := by
  have b0 := getD_bts hB 0
  have b1 := getD_bts hB 1
  have h0 := fieldV_in hB 0 0 4 (by decide)
  have h1 := fieldV_in hB 0 4 4 (by decide)
  have h2 := fieldV_in hB 1 0 4 (by decide)
  have h3 := fieldV_in hB 1 4 4 (by decide)
  have h4 := fieldV_two hB 2
  have h5 := fieldV_two hB 4
  have h6 := fieldV_whole hB 6
  have h7 := fieldV_whole hB 7
  have s1 := fieldV_sum (bitAt bs) 4 4 4
  have s2 := fieldV_sum (bitAt bs) 12 4 16
  simp only [Int.reducePow, Nat.reduceMul, Nat.reduceAdd, Nat.reduceSub, Nat.zero_add, Nat.mul_zero] at h0 h1 h2 h3 h4 h5 h6 h7 s1 s2
  simp only [ws6, fieldsV, show (4 : Int).toNat = 4 from rfl, show (8 : Int).toNat = 8 from rfl, show (20 : Int).toNat = 20 from rfl, show (16 : Int).toNat = 16 from rfl, Nat.zero_add, Nat.reduceAdd, List.cons.injEq, and_true]
  rw [h0, s1, h1, h2, s2, h3, h4, h5, h6, h7]
  omega
theorem wsf_fields {bs : List Int} (hB : Bts bs) : fieldsV (bitAt bs) 0 wsf = [bs.getD 0 0, bs.getD 1 0, bs.getD 2 0 * 32 + bs.getD 3 0 / 8, bs.getD 3 0 / 2 % 4, bs.getD 3 0 % 2, ((bs.getD 4 0 * 256 + bs.getD 5 0) * 256 + bs.getD 6 0) * 256 + bs.getD 7 0] := by
  have b3 := getD_bts hB 3
  have h0 := fieldV_whole hB 0
  have h1 := fieldV_whole hB 1
  have h2 := fieldV_whole hB 2
  have h3 := fieldV_in hB 3 0 5 (by decide)
  have h4 := fieldV_in hB 3 5 2 (by decide)
  have h5 := fieldV_in hB 3 7 1 (by decide)
  have h6 := fieldV_four hB 4
  have s1 := fieldV_sum (bitAt bs) 16 8 5
  simp only [Int.reducePow, Nat.reduceMul, Nat.reduceAdd, Nat.reduceSub, Nat.mul_zero] at h0 h1 h2 h3 h4 h5 h6 s1
  simp only [wsf, fieldsV, show (13 : Int).toNat = 13 from rfl, show (8 : Int).toNat = 8 from rfl, show (2 : Int).toNat = 2 from rfl, show (1 : Int).toNat = 1 from rfl, show (32 : Int).toNat = 32 from rfl, Nat.zero_add, Nat.reduceAdd, List.cons.injEq, and_true]
  rw [h0, h1, s1, h2, h3, h4, h5, h6]
  omega
theorem list8 {ds : List Int} (h : ds.length = 8) : ∃ a b c d e f g i, ds = [a, b, c, d, e, f, g, i] := by
  match ds, h with
  | [a, b, c, d, e, f, g, i], _ => exact ⟨a, b, c, d, e, f, g, i, rfl⟩
theorem packed6 {cls flow n first hop : Int} {ds : List Int} (h : Packed ws6 [6, cls, flow, n, first, hop] ds) :
    ds = [96 + cls / 16, cls % 16 * 16 + flow / 65536, flow / 256 % 256, flow % 256, n / 256, n % 256, first, hop] := by
  have hl : ds.length = 8 := by have := h.len; have e : psum ws6 = 64 := by decide
                                omega
  have hB := h.bts
  have hv := h.vals
  rw [ws6_fields hB] at hv
  obtain ⟨b0, b1, b2, b3, b4, b5, b6, b7, rfl⟩ := list8 hl
  have q0 := hB b0 (by simp)
  have q1 := hB b1 (by simp)
  have q2 := hB b2 (by simp)
  have q3 := hB b3 (by simp)
  have q4 := hB b4 (by simp)
  have q5 := hB b5 (by simp)
  simp only [List.getD_cons_zero, List.getD_cons_succ, List.cons.injEq, and_true] at hv
  simp only [List.cons.injEq, and_true]
  omega
theorem packedF {next off more id : Int} {ds : List Int} (hm : 0 ≤ more ∧ more ≤ 1) (ho : off % 8 = 0) (h : Packed wsf [next, 0, off / 8, 0, more, id] ds) :
    ds = [next, 0, (off + more) / 256, (off + more) % 256] ++ four id := by
  have hl : ds.length = 8 := by have := h.len; have e : psum wsf = 64 := by decide
                                omega
  have hB := h.bts
  have hv := h.vals
  rw [wsf_fields hB] at hv
  obtain ⟨b0, b1, b2, b3, b4, b5, b6, b7, rfl⟩ := list8 hl
  have q0 := hB b0 (by simp)
  have q1 := hB b1 (by simp)
  have q2 := hB b2 (by simp)
  have q3 := hB b3 (by simp)
  have q4 := hB b4 (by simp)
  have q5 := hB b5 (by simp)
  have q6 := hB b6 (by simp)
  have q7 := hB b7 (by simp)
  simp only [List.getD_cons_zero, List.getD_cons_succ, List.cons.injEq, and_true] at hv
  simp only [four, List.cons_append, List.nil_append, List.cons.injEq, and_true]
  omega
end Go.Eng
/- WRITTEN BY a program of this session (vc.py): for each Go function the condition that is enough for its contract, and the theorem that it is. -/
namespace Go.Proofs.YthhgbpmihhljdaaDoor
open Go.Eng
def bodyOf (fn : Func) : Code := match fn.body with | some c => c | none => .skip
def callF (f : Nat) : Bool := Nat.ble 3 f && Nat.ble f 96 && !(Nat.beq f 49) && !(Nat.beq f 50) && !(Nat.beq f 57) && !(Nat.beq f 63) && !(Nat.beq f 64) && !(Nat.beq f 65) && !(Nat.beq f 66) && !(Nat.beq f 67) && !(Nat.beq f 68) && !(Nat.beq f 69) && !(Nat.beq f 70) && !(Nat.beq f 71) && !(Nat.beq f 72) && !(Nat.beq f 79) && !(Nat.beq f 80) && !(Nat.beq f 81) && !(Nat.beq f 82) && !(Nat.beq f 83) && !(Nat.beq f 93)
theorem callAll : ((List.range 97).all fun f => !(callF f) || callableB Tryd.prog f) = true := by kernel_rfl
theorem callOk : ∀ f, callF f = true → callableB Tryd.prog f = true := by
  intro f hf
  have h := List.all_eq_true.1 callAll f (by simp [callF] at hf; simp; omega)
  simpa [hf] using h
theorem mixedOk : Tryd.prog.follows .mixedOrders = true := by kernel_rfl

set_option maxRecDepth 100000 in
def view_look_VC (bA : Option Addr) (bn : Nat) (_bc : Nat) (i : Int) (w : World) (R : Ending → World → Prop) : Prop :=
  Br (decide (i < 0))
    (R (.panicked [{ v := .iface 177 (.agg #[]), recovered := false }]) w)
    (Br (decide ((bn : Int) ≤ i))
    (R (.panicked [{ v := .iface 177 (.agg #[]), recovered := false }]) w)
    (IdxVC bA bn 1 i fun a =>
  ∃ x : Int, w.cell? a = some (.int .u8 x) ∧
  R (.returned (.int .u8 x)) w))
def view_look_H : Hints := []
set_option maxRecDepth 100000 in
theorem view_look_of (bA : Option Addr) (bn : Nat) (bc : Nat) (i : Int) (w : World) (R : Ending → World → Prop) (hvc_ : view_look_VC bA bn bc i w R) :
    Calls Tryd.prog 87 #[.slice bA bn bc, .int .i64 i] w R :=
  calls_of_wpc callOk mixedOk (H := view_look_H) (args := [.slice bA bn bc, .int .i64 i]) (fn := Tryd.f87) (c := bodyOf Tryd.f87) Tryd.func87 rfl (Nat.le_of_ble_eq_true rfl)
    (Eq.mp (by kernel_rfl : view_look_VC bA bn bc i w R = wpc Tryd.prog callF Tryd.f87.ntmps view_look_H 1 (bodyOf Tryd.f87) (argEnv 0 [.slice bA bn bc, .int .i64 i]) [] w (finish Tryd.prog callF Tryd.f87.results.toList R)) hvc_)

set_option maxRecDepth 100000 in
def view_part_VC (bA : Option Addr) (bn : Nat) (bc : Nat) (at_ : Int) (n : Int) (w : World) (R : Ending → World → Prop) : Prop :=
  Br (decide (at_ < 0))
    (R (.panicked [{ v := .iface 177 (.agg #[]), recovered := false }]) w)
    (Br (decide ((bn : Int) < at_))
      (R (.panicked [{ v := .iface 177 (.agg #[]), recovered := false }]) w)
      (Br (decide (IntKind.i64.wrap ((bn : Int) - at_) < n))
    (R (.panicked [{ v := .iface 177 (.agg #[]), recovered := false }]) w)
    (SliceVC bA bn bc 1 (some at_) (some (IntKind.i64.wrap (at_ + n))) (some (IntKind.i64.wrap (at_ + n))) fun sA sn sc =>
  R (.returned (.slice sA sn sc)) w)))
def view_part_H : Hints := []
set_option maxRecDepth 100000 in
theorem view_part_of (bA : Option Addr) (bn : Nat) (bc : Nat) (at_ : Int) (n : Int) (w : World) (R : Ending → World → Prop) (hvc_ : view_part_VC bA bn bc at_ n w R) :
    Calls Tryd.prog 86 #[.slice bA bn bc, .int .i64 at_, .int .i64 n] w R :=
  calls_of_wpc callOk mixedOk (H := view_part_H) (args := [.slice bA bn bc, .int .i64 at_, .int .i64 n]) (fn := Tryd.f86) (c := bodyOf Tryd.f86) Tryd.func86 rfl (Nat.le_of_ble_eq_true rfl)
    (Eq.mp (by kernel_rfl : view_part_VC bA bn bc at_ n w R = wpc Tryd.prog callF Tryd.f86.ntmps view_part_H 1 (bodyOf Tryd.f86) (argEnv 0 [.slice bA bn bc, .int .i64 at_, .int .i64 n]) [] w (finish Tryd.prog callF Tryd.f86.results.toList R)) hvc_)

set_option maxRecDepth 100000 in
def view_Fields_L1042842 (R : Ending → World → Prop) (g1 : Nat) (g2 : Nat) (g3 : Nat) (xA : Option Addr) (xn : Nat) (xc : Nat) (t30_ : Int) (K1018 : (Int × Int → World → Prop)) (x3 : Int) (bit1 : Int) (v_ : Int) (t35_ : Int) (w12 : World) (K1042842 : (Int × Int × Int → World → Prop)) : Prop :=
  Br (decide (t35_ < x3))
    (Calls Tryd.prog 87 #[.slice xA xn xc, .int .i64 (IntKind.i64.wrap (Int.tdiv bit1 8))] w12 (onRet (fun r_2 w13 => ∃ x4 : Int, r_2 = .int .u8 x4 ∧
  ShVC (IntKind.u64.wrap (7 - IntKind.u64.wrap (Int.tmod bit1 8))) (
  ([{ target := .fn (.func 85) #[.pointer (some ⟨g1, 0, none⟩), .pointer (some ⟨g2, 0, none⟩), .pointer (some ⟨g3, 0, none⟩)], args := #[] }] : List Deferred) = [{ target := .fn (.func 85) #[.pointer (some ⟨g1, 0, none⟩), .pointer (some ⟨g2, 0, none⟩), .pointer (some ⟨g3, 0, none⟩)], args := #[] }] ∧ K1042842 (IntKind.i64.wrap (bit1 + 1), bitv .or .i64 (IntKind.i64.wrap (v_ * 2)) (IntKind.i64.wrap (bitv .and .u8 (Int.fdiv x4 (2 ^ (min ((IntKind.u64.wrap (7 - IntKind.u64.wrap (Int.tmod bit1 8))).toNat) 8))) 1)), IntKind.i64.wrap (t35_ + 1)) w13))
    (fun ch2 w13 => leaveWp Tryd.prog callF (fun w14 => ∃ (resA1 : Option Addr) (resn1 resc1 : Nat), w14.cell? ⟨g1, 0, none⟩ = some (.slice resA1 resn1 resc1) ∧
    ∃ res2 : Int, w14.cell? ⟨g2, 0, none⟩ = some (.int .i64 res2) ∧
    ∃ res3 : Int, w14.cell? ⟨g3, 0, none⟩ = some (.int .i64 res3) ∧
    R (.returned (.tuple #[.slice resA1 resn1 resc1, .int .i64 res2, .int .i64 res3])) w14)
    R [{ target := .fn (.func 85) #[.pointer (some ⟨g1, 0, none⟩), .pointer (some ⟨g2, 0, none⟩), .pointer (some ⟨g3, 0, none⟩)], args := #[] }] (.panicking ch2) w13)))
    (∃ (xA1 : Option Addr) (xn1 xc1 : Nat), w12.cell? ⟨g1, 0, none⟩ = some (.slice xA1 xn1 xc1) ∧
  NewVC w12 (.cells #[.int .i64 v_] 3) fun g4 w15 =>
  AppVC Tryd.prog #[24, 24] 24 (.slice xA1 xn1 xc1) (.slice (some ⟨g4, 0, none⟩) 1 1) w15 fun lA ln lc w16 =>
  SetVC w16 ⟨g1, 0, none⟩ (.slice lA ln lc) fun w17 =>
  ([{ target := .fn (.func 85) #[.pointer (some ⟨g1, 0, none⟩), .pointer (some ⟨g2, 0, none⟩), .pointer (some ⟨g3, 0, none⟩)], args := #[] }] : List Deferred) = [{ target := .fn (.func 85) #[.pointer (some ⟨g1, 0, none⟩), .pointer (some ⟨g2, 0, none⟩), .pointer (some ⟨g3, 0, none⟩)], args := #[] }] ∧ K1018 (bit1, IntKind.i64.wrap (t30_ + 1)) w17)
set_option maxRecDepth 100000 in
def view_Fields_L1018 (R : Ending → World → Prop) (at_ : Int) (widthsA : Option Addr) (widthsn : Nat) (g1 : Nat) (g2 : Nat) (g3 : Nat) (x0 : Int) (xA : Option Addr) (xn : Nat) (xc : Nat) (bit : Int) (t30_ : Int) (w11 : World) (K1018 : (Int × Int → World → Prop)) : Prop :=
  Br (decide (t30_ < (widthsn : Int)))
    (IdxVC widthsA widthsn 1 t30_ fun a =>
  ∃ x3 : Int, w11.cell? a = some (.int .i64 x3) ∧
  LoopVC (S := Int × Int × Int) (fun s_ w12 K1042842 => view_Fields_L1042842 R g1 g2 g3 xA xn xc t30_ K1018 x3 s_.1 s_.2.1 s_.2.2 w12 K1042842) (bit, 0, 0) w11)
    (∃ (xA2 : Option Addr) (xn2 xc2 : Nat), w11.cell? ⟨g1, 0, none⟩ = some (.slice xA2 xn2 xc2) ∧
  SetVC w11 ⟨g1, 0, none⟩ (.slice xA2 xn2 xc2) fun w18 =>
  SetVC w18 ⟨g2, 0, none⟩ (.int .i64 (IntKind.i64.wrap (at_ + x0))) fun w19 =>
  SetVC w19 ⟨g3, 0, none⟩ (.int .i64 0) fun w20 =>
  leaveWp Tryd.prog callF (fun w21 => ∃ (resA2 : Option Addr) (resn2 resc2 : Nat), w21.cell? ⟨g1, 0, none⟩ = some (.slice resA2 resn2 resc2) ∧
    ∃ res4 : Int, w21.cell? ⟨g2, 0, none⟩ = some (.int .i64 res4) ∧
    ∃ res5 : Int, w21.cell? ⟨g3, 0, none⟩ = some (.int .i64 res5) ∧
    R (.returned (.tuple #[.slice resA2 resn2 resc2, .int .i64 res4, .int .i64 res5])) w21)
    R [{ target := .fn (.func 85) #[.pointer (some ⟨g1, 0, none⟩), .pointer (some ⟨g2, 0, none⟩), .pointer (some ⟨g3, 0, none⟩)], args := #[] }] .returning w20)
set_option maxRecDepth 100000 in
def view_Fields_VC (bA : Option Addr) (bn : Nat) (bc : Nat) (at_ : Int) (widthsA : Option Addr) (widthsn : Nat) (widthsc : Nat) (w : World) (R : Ending → World → Prop) : Prop :=
  NewVC w (.cells #[.slice none 0 0] 24) fun g1 w1 =>
  NewVC w1 (.cells #[.int .i64 0] 3) fun g2 w2 =>
  NewVC w2 (.cells #[.int .i64 0] 26) fun g3 w3 =>
  Calls Tryd.prog 56 #[.slice widthsA widthsn widthsc] w3 (onRet (fun r_ w4 => ∃ x0 : Int, ∃ x1 : Int, r_ = .tuple #[.int .i64 x0, .int .i64 x1] ∧
  SetVC w4 ⟨g3, 0, none⟩ (.int .i64 x1) fun w5 =>
  ∃ x : Int, w5.cell? ⟨g3, 0, none⟩ = some (.int .i64 x) ∧
  Br (decide (x ≠ 0))
    (DrawVC w5 fun S1 w6 =>
    ∃ x2 : Int, (∀ w' : World, S1 w' → w'.cell? ⟨g3, 0, none⟩ = some (.int .i64 x2)) ∧
    SetVC w6 ⟨g1, 0, none⟩ (.slice none 0 0) fun w7 =>
    S1 w7 ∧
    SetVC w7 ⟨g2, 0, none⟩ (.int .i64 0) fun w8 =>
    S1 w8 ∧
    SetVC w8 ⟨g3, 0, none⟩ (.int .i64 x2) fun w9 =>
    ∃ (resA : Option Addr) (resn resc : Nat), w9.cell? ⟨g1, 0, none⟩ = some (.slice resA resn resc) ∧
  ∃ res : Int, w9.cell? ⟨g2, 0, none⟩ = some (.int .i64 res) ∧
  ∃ res1 : Int, w9.cell? ⟨g3, 0, none⟩ = some (.int .i64 res1) ∧
  R (.returned (.tuple #[.slice resA resn resc, .int .i64 res, .int .i64 res1])) w9)
    (Calls Tryd.prog 86 #[.slice bA bn bc, .int .i64 at_, .int .i64 x0] w5 (onRet (fun r_1 w10 => ∃ (xA : Option Addr) (xn xc : Nat), r_1 = .slice xA xn xc ∧
  LoopVC (S := Int × Int) (fun s_ w11 K1018 => view_Fields_L1018 R at_ widthsA widthsn g1 g2 g3 x0 xA xn xc s_.1 s_.2 w11 K1018) (0, 0) w10)
    (fun ch1 w10 => leaveWp Tryd.prog callF (fun w22 => ∃ (resA3 : Option Addr) (resn3 resc3 : Nat), w22.cell? ⟨g1, 0, none⟩ = some (.slice resA3 resn3 resc3) ∧
    ∃ res6 : Int, w22.cell? ⟨g2, 0, none⟩ = some (.int .i64 res6) ∧
    ∃ res7 : Int, w22.cell? ⟨g3, 0, none⟩ = some (.int .i64 res7) ∧
    R (.returned (.tuple #[.slice resA3 resn3 resc3, .int .i64 res6, .int .i64 res7])) w22)
    R [{ target := .fn (.func 85) #[.pointer (some ⟨g1, 0, none⟩), .pointer (some ⟨g2, 0, none⟩), .pointer (some ⟨g3, 0, none⟩)], args := #[] }] (.panicking ch1) w10))))
    (fun ch w4 => R (.panicked ch) w4))
def view_Fields_H : Hints := [(1018, [(11, .int .i64), (30, .int .i64)]), (1042842, [(11, .int .i64), (14, .int .i64), (35, .int .i64)])]
set_option maxRecDepth 100000 in
theorem view_Fields_of (bA : Option Addr) (bn : Nat) (bc : Nat) (at_ : Int) (widthsA : Option Addr) (widthsn : Nat) (widthsc : Nat) (w : World) (R : Ending → World → Prop) (hvc_ : view_Fields_VC bA bn bc at_ widthsA widthsn widthsc w R) :
    Calls Tryd.prog 75 #[.slice bA bn bc, .int .i64 at_, .slice widthsA widthsn widthsc] w R :=
  calls_of_wpc callOk mixedOk (H := view_Fields_H) (args := [.slice bA bn bc, .int .i64 at_, .slice widthsA widthsn widthsc]) (fn := Tryd.f75) (c := bodyOf Tryd.f75) Tryd.func75 rfl (Nat.le_of_ble_eq_true rfl)
    (Eq.mp (by kernel_rfl : view_Fields_VC bA bn bc at_ widthsA widthsn widthsc w R = wpc Tryd.prog callF Tryd.f75.ntmps view_Fields_H 1 (bodyOf Tryd.f75) (argEnv 0 [.slice bA bn bc, .int .i64 at_, .slice widthsA widthsn widthsc]) [] w (finish Tryd.prog callF Tryd.f75.results.toList R)) hvc_)

set_option maxRecDepth 100000 in
def view_bits_L122 (R : Ending → World → Prop) (widthsA : Option Addr) (widthsn : Nat) (all : Int) (t12_ : Int) (w1 : World) (K122 : (Int × Int → World → Prop)) : Prop :=
  Br (decide (t12_ < (widthsn : Int)))
    (IdxVC widthsA widthsn 1 t12_ fun a =>
  ∃ x : Int, w1.cell? a = some (.int .i64 x) ∧
  Br (decide (x < 1))
    (R (.returned (.tuple #[.int .i64 0, .int .i64 11])) w1)
    (Br (decide ((32 : Int) < x))
    (R (.returned (.tuple #[.int .i64 0, .int .i64 11])) w1)
    (K122 (IntKind.i64.wrap (all + x), IntKind.i64.wrap (t12_ + 1)) w1)))
    (Br (decide (Int.tmod all 8 ≠ 0))
    (R (.returned (.tuple #[.int .i64 0, .int .i64 11])) w1)
    (R (.returned (.tuple #[.int .i64 (IntKind.i64.wrap (Int.tdiv all 8)), .int .i64 0])) w1))
set_option maxRecDepth 100000 in
def view_bits_VC (widthsA : Option Addr) (widthsn : Nat) (_widthsc : Nat) (w : World) (R : Ending → World → Prop) : Prop :=
  Br (decide ((64 : Int) < (widthsn : Int)))
    (R (.returned (.tuple #[.int .i64 0, .int .i64 11])) w)
    (LoopVC (S := Int × Int) (fun s_ w1 K122 => view_bits_L122 R widthsA widthsn s_.1 s_.2 w1 K122) (0, 0) w)
def view_bits_H : Hints := [(122, [(4, .int .i64), (12, .int .i64)])]
set_option maxRecDepth 100000 in
theorem view_bits_of (widthsA : Option Addr) (widthsn : Nat) (widthsc : Nat) (w : World) (R : Ending → World → Prop) (hvc_ : view_bits_VC widthsA widthsn widthsc w R) :
    Calls Tryd.prog 56 #[.slice widthsA widthsn widthsc] w R :=
  calls_of_wpc callOk mixedOk (H := view_bits_H) (args := [.slice widthsA widthsn widthsc]) (fn := Tryd.f56) (c := bodyOf Tryd.f56) Tryd.func56 rfl (Nat.le_of_ble_eq_true rfl)
    (Eq.mp (by kernel_rfl : view_bits_VC widthsA widthsn widthsc w R = wpc Tryd.prog callF Tryd.f56.ntmps view_bits_H 1 (bodyOf Tryd.f56) (argEnv 0 [.slice widthsA widthsn widthsc]) [] w (finish Tryd.prog callF Tryd.f56.results.toList R)) hvc_)

set_option maxRecDepth 100000 in
def view_Pack_L1042846 (x0 : Int) (g1 : Nat) (t31_ : Int) (K1018 : (Int × Int → World → Prop)) (x2 : Int) (bit1 : Int) (k : Int) (w4 : World) (K1042846 : (Int × Int → World → Prop)) : Prop :=
  Br (decide ((0 : Int) ≤ k))
    (IdxVC (some ⟨g1, 0, none⟩) x0.toNat 1 (IntKind.i64.wrap (Int.tdiv bit1 8)) fun a2 =>
  ∃ x3 : Int, w4.cell? a2 = some (.int .u8 x3) ∧
  ShVC (IntKind.u64.wrap k) (
  ShVC (IntKind.u64.wrap (7 - IntKind.u64.wrap (Int.tmod bit1 8))) (
  IdxVC (some ⟨g1, 0, none⟩) x0.toNat 1 (IntKind.i64.wrap (Int.tdiv bit1 8)) fun a3 =>
  SetVC w4 a3 (.int .u8 (bitv .or .u8 x3 (IntKind.u8.wrap (IntKind.u8.wrap (bitv .and .i64 (Int.fdiv x2 (2 ^ (min ((IntKind.u64.wrap k).toNat) 64))) 1) * 2 ^ (min ((IntKind.u64.wrap (7 - IntKind.u64.wrap (Int.tmod bit1 8))).toNat) 8))))) fun w5 =>
  K1042846 (IntKind.i64.wrap (bit1 + 1), IntKind.i64.wrap (k - 1)) w5)))
    (K1018 (bit1, IntKind.i64.wrap (t31_ + 1)) w4)
set_option maxRecDepth 100000 in
def view_Pack_L1018 (R : Ending → World → Prop) (widthsA : Option Addr) (widthsn : Nat) (valuesA : Option Addr) (valuesn : Nat) (x0 : Int) (g1 : Nat) (bit : Int) (t31_ : Int) (w3 : World) (K1018 : (Int × Int → World → Prop)) : Prop :=
  Br (decide (t31_ < (widthsn : Int)))
    (IdxVC widthsA widthsn 1 t31_ fun a =>
  ∃ x : Int, w3.cell? a = some (.int .i64 x) ∧
  IdxVC valuesA valuesn 1 t31_ fun a1 =>
  ∃ x2 : Int, w3.cell? a1 = some (.int .i64 x2) ∧
  Br (decide (x2 < 0))
    (R (.returned (.tuple #[.slice none 0 0, .int .i64 12])) w3)
    (ShVC (IntKind.u64.wrap x) (
    Br (decide (Int.fdiv x2 (2 ^ (min ((IntKind.u64.wrap x).toNat) 64)) ≠ 0))
    (R (.returned (.tuple #[.slice none 0 0, .int .i64 12])) w3)
    (LoopVC (S := Int × Int) (fun s_ w4 K1042846 => view_Pack_L1042846 x0 g1 t31_ K1018 x2 s_.1 s_.2 w4 K1042846) (bit, IntKind.i64.wrap (x - 1)) w3))))
    (R (.returned (.tuple #[.slice (some ⟨g1, 0, none⟩) x0.toNat x0.toNat, .int .i64 0])) w3)
set_option maxRecDepth 100000 in
def view_Pack_VC (widthsA : Option Addr) (widthsn : Nat) (widthsc : Nat) (valuesA : Option Addr) (valuesn : Nat) (_valuesc : Nat) (w : World) (R : Ending → World → Prop) : Prop :=
  Calls Tryd.prog 56 #[.slice widthsA widthsn widthsc] w (onRet (fun r_ w1 => ∃ x0 : Int, ∃ x1 : Int, r_ = .tuple #[.int .i64 x0, .int .i64 x1] ∧
  Br (decide (x1 ≠ 0))
    (R (.returned (.tuple #[.slice none 0 0, .int .i64 x1])) w1)
    (Br (decide ((valuesn : Int) ≠ (widthsn : Int)))
    (R (.returned (.tuple #[.slice none 0 0, .int .i64 1])) w1)
    (MakeVC w1 5 1 [.int .u8 0] x0 x0 fun g1 w2 =>
  LoopVC (S := Int × Int) (fun s_ w3 K1018 => view_Pack_L1018 R widthsA widthsn valuesA valuesn x0 g1 s_.1 s_.2 w3 K1018) (0, 0) w2)))
    (fun ch w1 => R (.panicked ch) w1))
def view_Pack_H : Hints := [(1018, [(9, .int .i64), (31, .int .i64)]), (1042846, [(9, .int .i64), (13, .int .i64)])]
set_option maxRecDepth 100000 in
theorem view_Pack_of (widthsA : Option Addr) (widthsn : Nat) (widthsc : Nat) (valuesA : Option Addr) (valuesn : Nat) (valuesc : Nat) (w : World) (R : Ending → World → Prop) (hvc_ : view_Pack_VC widthsA widthsn widthsc valuesA valuesn valuesc w R) :
    Calls Tryd.prog 46 #[.slice widthsA widthsn widthsc, .slice valuesA valuesn valuesc] w R :=
  calls_of_wpc callOk mixedOk (H := view_Pack_H) (args := [.slice widthsA widthsn widthsc, .slice valuesA valuesn valuesc]) (fn := Tryd.f46) (c := bodyOf Tryd.f46) Tryd.func46 rfl (Nat.le_of_ble_eq_true rfl)
    (Eq.mp (by kernel_rfl : view_Pack_VC widthsA widthsn widthsc valuesA valuesn valuesc w R = wpc Tryd.prog callF Tryd.f46.ntmps view_Pack_H 1 (bodyOf Tryd.f46) (argEnv 0 [.slice widthsA widthsn widthsc, .slice valuesA valuesn valuesc]) [] w (finish Tryd.prog callF Tryd.f46.results.toList R)) hvc_)

set_option maxRecDepth 100000 in
def view_sized_VC (n : Int) (w : World) (R : Ending → World → Prop) : Prop :=
  Br (decide ((1 : Int) ≤ n))
    (R (.returned (.bool (decide (n ≤ 8)))) w)
    (R (.returned (.bool false)) w)
def view_sized_H : Hints := []
set_option maxRecDepth 100000 in
theorem view_sized_of (n : Int) (w : World) (R : Ending → World → Prop) (hvc_ : view_sized_VC n w R) :
    Calls Tryd.prog 94 #[.int .i64 n] w R :=
  calls_of_wpc callOk mixedOk (H := view_sized_H) (args := [.int .i64 n]) (fn := Tryd.f94) (c := bodyOf Tryd.f94) Tryd.func94 rfl (Nat.le_of_ble_eq_true rfl)
    (Eq.mp (by kernel_rfl : view_sized_VC n w R = wpc Tryd.prog callF Tryd.f94.ntmps view_sized_H 1 (bodyOf Tryd.f94) (argEnv 0 [.int .i64 n]) [] w (finish Tryd.prog callF Tryd.f94.results.toList R)) hvc_)

set_option maxRecDepth 100000 in
def view_At_VC (bA : Option Addr) (bn : Nat) (bc : Nat) (w : World) (R : Ending → World → Prop) : Prop :=
  NewVC w (.cells #[.slice bA bn bc, .int .i64 0] 154) fun g1 w1 =>
  R (.returned (.pointer (some ⟨g1, 0, none⟩))) w1
def view_At_H : Hints := []
set_option maxRecDepth 100000 in
theorem view_At_of (bA : Option Addr) (bn : Nat) (bc : Nat) (w : World) (R : Ending → World → Prop) (hvc_ : view_At_VC bA bn bc w R) :
    Calls Tryd.prog 58 #[.slice bA bn bc] w R :=
  calls_of_wpc callOk mixedOk (H := view_At_H) (args := [.slice bA bn bc]) (fn := Tryd.f58) (c := bodyOf Tryd.f58) Tryd.func58 rfl (Nat.le_of_ble_eq_true rfl)
    (Eq.mp (by kernel_rfl : view_At_VC bA bn bc w R = wpc Tryd.prog callF Tryd.f58.ntmps view_At_H 1 (bodyOf Tryd.f58) (argEnv 0 [.slice bA bn bc]) [] w (finish Tryd.prog callF Tryd.f58.results.toList R)) hvc_)
end Go.Proofs.YthhgbpmihhljdaaDoor
/- Contracts of package view's inner looks. -/
namespace Go.Proofs.YthhgbpmihhljdaaDoor
open Go.Eng
/-- What a look panics with. -/
def gapc : List PanicEntry := [{ v := .iface 177 (.agg #[]), recovered := false }]

theorem look_yes {A : Option Addr} {n c : Nat} {i : Int} {bs : List Int} {w : World} (hb : Cells w A (bs.map (.int .u8))) (hl : bs.length = n) (h0 : 0 ≤ i) (h1 : i < n) :
    Calls Tryd.prog 87 #[.slice A n c, .int .i64 i] w fun e w' => w = w' ∧ e = .returned (.int .u8 (bs.getD i.toNat 0)) := by
  refine view_look_of A n c i w _ ?_
  unfold view_look_VC
  refine Br.no (by omega) (Br.no (by omega) ?_)
  exact IdxVC.int hb (by omega) (by omega) hl fun a hc => ⟨_, hc, rfl, rfl⟩
theorem look_no {A : Option Addr} {n c : Nat} {i : Int} {w : World} (h : ¬ (0 ≤ i ∧ i < n)) :
    Calls Tryd.prog 87 #[.slice A n c, .int .i64 i] w fun e w' => w = w' ∧ e = .panicked gapc := by
  refine view_look_of A n c i w _ ?_
  unfold view_look_VC
  refine Br.dec (fun h1 => ⟨rfl, rfl⟩) (fun h1 => Br.dec (fun h2 => ⟨rfl, rfl⟩) (fun h2 => ?_))
  omega

theorem getD_drop (bs : List Int) (p k : Nat) : (bs.drop p).getD k 0 = bs.getD (p + k) 0 := by
  simp [List.getD_eq_getElem?_getD, List.getElem?_drop]
theorem take_succ_getD (l : List Int) (k : Nat) (h : k < l.length) : l.take (k + 1) = l.take k ++ [l.getD k 0] := by
  rw [List.take_succ_eq_append_getElem h]; simp [h]

theorem part_yes {A : Option Addr} {n c : Nat} {p k : Int} {bs : List Value} {w : World} (hb : Cells w A bs) (_ : bs.length = n) (hc : n ≤ c) (hn : n ≤ 4611686018427387904) (h0 : 0 ≤ p) (hk : 0 ≤ k) (h1 : p + k ≤ n) :
    Calls Tryd.prog 86 #[.slice A n c, .int .i64 p, .int .i64 k] w fun e w' => w = w' ∧ ∃ A', e = .returned (.slice A' k.toNat k.toNat) ∧ Cells w A' ((bs.drop p.toNat).take k.toNat) ∧
      A' = if k = 0 then A else A.map (·.add p.toNat) := by
  refine view_part_of A n c p k w _ ?_
  unfold view_part_VC
  rw [w64 (n := (n : Int) - p) (by omega) (by omega), w64 (n := p + k) (by omega) (by omega)]
  refine Br.no (by omega) (Br.no (by omega) (Br.no (by omega) ?_))
  refine ⟨h0, by omega, by omega, by omega, rfl, _, ?_, ?_, rfl⟩
  · have e1 : (p + k).toNat - p.toNat = k.toNat := by omega
    rw [e1]
    congr 2
    by_cases hk0 : k = 0
    · rw [if_pos hk0, if_pos (by omega)]
    · rw [if_neg hk0, if_neg (by omega), Nat.mul_one]
  · exact hb.win
theorem part_no {A : Option Addr} {n c : Nat} {p k : Int} {w : World} (hn : n ≤ 140737488355328) (h : ¬ (0 ≤ p ∧ p ≤ n ∧ k ≤ n - p)) :
    Calls Tryd.prog 86 #[.slice A n c, .int .i64 p, .int .i64 k] w fun e w' => w = w' ∧ e = .panicked gapc := by
  refine view_part_of A n c p k w _ ?_
  unfold view_part_VC
  refine Br.dec (fun h1 => ⟨rfl, rfl⟩) (fun h1 => Br.dec (fun h2 => ⟨rfl, rfl⟩) (fun h2 => ?_))
  rw [w64 (n := (n : Int) - p) (by omega) (by omega)]
  refine Br.yes (by omega) ⟨rfl, rfl⟩
end Go.Proofs.YthhgbpmihhljdaaDoor
/- The deferred closures of package view (recover), and the looks at its face: Uint, Window. -/
namespace Go.Proofs.YthhgbpmihhljdaaDoor
open Go.Eng

section
variable {u : TypeId} {pv : Value} {older : List PanicEntry} {w : World} {g1 g2 g3 : Nat} {x1 x2 x3 : Value}
theorem fields_idle :
    CallsD Tryd.prog 85 #[.pointer (some ⟨g1, 0, none⟩), .pointer (some ⟨g2, 0, none⟩), .pointer (some ⟨g3, 0, none⟩)] .returning w fun e u' w' => e = .returned (.tuple #[]) ∧ u' = .returning ∧ w' = w := by
  refine callsD_of_wpS Tryd.func85 rfl fun c₀ cs hu => ?_
  apply wpS_seq
  apply wpS_region
  simp [wpOpsS, go_sem, recoverD, hu, Tryd.ntmps85, Exit.thenS]
  refine wpS_cond (t := false) (by simp [Act.eval, Array.replicate]) ?_
  simp only [Bool.false_eq_true, if_false]
  refine wpS_of_wp (wp_skip ?_)
  cases c₀
  simp_all [bodyPostS, results, Tryd.results85]
end

/-! ### Uint, Window -/
theorem leave_ret {f : FuncId} {cap : Array Value} {fin : World → Prop} {R : Ending → World → Prop} {u : FrameMode} {w w1 : World} (hf : callF f = true) (hu : u ≠ .run) {v : Value}
    {u1 : FrameMode} (h : CallsD Tryd.prog f cap u w fun e u' w' => e = .returned v ∧ u' = u1 ∧ w' = w1) (hs : settle u1 = .returning) (hfin : fin w1) :
    leaveWp Tryd.prog callF fin R [{ target := .fn (.func f) cap, args := #[] }] u w := by
  unfold leaveWp
  simp only [hf, cond_true]
  refine ⟨hu, ?_⟩
  have e : (#[] : Array Value) ++ cap = cap := by simp
  rw [e]
  refine h.mono ?_
  rintro e u' w' ⟨rfl, rfl, rfl⟩
  simp only [hs, leaveWp]
  exact hfin

end Go.Proofs.YthhgbpmihhljdaaDoor
