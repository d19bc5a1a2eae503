/- Layer 4 (the document's): ParsePrefix, of; the texts of the document's table. -/
import Derived.Test.YtjngdcilnipjcaaGreatDoorBu
namespace Go.Proofs.YtjngdcilnipjcaaGreatDoor
namespace Nd
open Go.Eng Go.RowKit
section
variable {w : World} {s : ByteArray} {P ip : IPV} {len : Int}
end
end Nd
end Go.Proofs.YtjngdcilnipjcaaGreatDoor
/- Layer 4 (the document's): the twelve texts of the table; Class; which address may be a target. -/
namespace Go.Eng
open Go Go.RowKit
theorem below_forall (n : Nat) (p : Nat → Bool) (h : (List.range n).all p = true) : ∀ i, i < n → p i = true := fun i hi => List.all_eq_true.1 h i (List.mem_range.2 hi)
def targetS (p : IPV) : Bool := decide (p.v = 6) && (p.bytes.any (fun x => decide (x ≠ 0)) && decide (p.a0 ≠ 255))
theorem bitS_nat {p : IPV} {q j b : Nat} (hj : j < 8) (hb : p.bytes.getD q 0 = (b : Int)) : bitS p (8 * q + j) = ((b / 2 ^ (7 - j) % 2 : Nat) : Int) := by
 unfold bitS
 rw [show (8 * q + j) / 8 = q by omega, show (8 * q + j) % 8 = j by omega, hb]
 push_cast
 rfl
theorem bytes_byte {p : IPV} (hB : Bts p.bytes) (q : Nat) : ∃ b : Nat, b < 256 ∧ p.bytes.getD q 0 = (b : Int) := by
 have h := bts_getD hB q
 obtain ⟨b, hb⟩ := Int.eq_ofNat_of_zero_le h.1
 exact ⟨b, by omega, hb⟩
end Go.Eng
/- The two Classes agree on what may be a target. -/
namespace Go.Eng
open Go Go.RowKit
def maskK (n i : Int) : Int := IntKind.u8.wrap (Int.fdiv 65280 (2 ^ (min ((IntKind.u64.wrap (if (if 0 < IntKind.i64.wrap (n - IntKind.i64.wrap (8 * i)) then IntKind.i64.wrap (n - IntKind.i64.wrap (8 * i)) else 0) < 8 then (if 0 < IntKind.i64.wrap (n - IntKind.i64.wrap (8 * i)) then IntKind.i64.wrap (n - IntKind.i64.wrap (8 * i)) else 0) else 8)).toNat) 64)))
theorem maskB_eq (a n i : Int) : maskB a n i = bitv .and .u8 a (maskK n i) := rfl
theorem and_full {x : Int} (h0 : 0 ≤ x) (h1 : x < 256) : bitv .and .u8 x 255 = x := by
 obtain ⟨a, rfl⟩ := Int.eq_ofNat_of_zero_le h0
 have := below_forall 256 (fun a => decide (bitv .and .u8 (a : Int) 255 = (a : Int))) (by decide +kernel) a (by omega)
 exact of_decide_eq_true this
theorem and_none {x : Int} (h0 : 0 ≤ x) (h1 : x < 256) : bitv .and .u8 x 0 = 0 := by
 obtain ⟨a, rfl⟩ := Int.eq_ofNat_of_zero_le h0
 have := below_forall 256 (fun a => decide (bitv .and .u8 (a : Int) 0 = 0)) (by decide +kernel) a (by omega)
 exact of_decide_eq_true this
theorem mask128 {a : Int} (ha : 0 ≤ a ∧ a < 256) (i : Nat) (hi : i < 16) : maskB a 128 i = a := by
 have := below_forall 16 (fun i => decide (maskK 128 (i : Int) = 255)) (by decide +kernel) i hi
 rw [maskB_eq, of_decide_eq_true this, and_full ha.1 ha.2]
theorem mask8 {a : Int} (ha : 0 ≤ a ∧ a < 256) (i : Nat) (hi : i < 16) (h0 : 0 < i) : maskB a 8 i = 0 := by
 have := below_forall 16 (fun i => decide (0 < i → maskK 8 (i : Int) = 0)) (by decide +kernel) i hi
 rw [maskB_eq, of_decide_eq_true this h0, and_none ha.1 ha.2]
theorem mask80 {a : Int} (ha : 0 ≤ a ∧ a < 256) : maskB a 8 0 = a := by
 rw [maskB_eq, show maskK 8 0 = 255 by decide +kernel, and_full ha.1 ha.2]
theorem mask128_all {p : IPV} (hB : Bts p.bytes) : maskS p 128 = p := by
 have h : ∀ a ∈ p.bytes, ∀ i : Nat, i < 16 → maskB a 128 i = a := fun a ha i hi => mask128 (hB a ha) i hi
 have m := fun a (i : Nat) (hi : i < 16) (ha : a ∈ p.bytes) => h a ha i hi
 obtain ⟨v, a0, a1, a2, a3, a4, a5, a6, a7, a8, a9, a10, a11, a12, a13, a14, a15⟩ := p
 simp only [maskS, IPV.mk.injEq, true_and]
 exact ⟨m _ 0 (by decide) (by simp [IPV.bytes]), m _ 1 (by decide) (by simp [IPV.bytes]), m _ 2 (by decide) (by simp [IPV.bytes]), m _ 3 (by decide) (by simp [IPV.bytes]), m _ 4 (by decide) (by simp [IPV.bytes]), m _ 5 (by decide) (by simp [IPV.bytes]), m _ 6 (by decide) (by simp [IPV.bytes]), m _ 7 (by decide) (by simp [IPV.bytes]), m _ 8 (by decide) (by simp [IPV.bytes]), m _ 9 (by decide) (by simp [IPV.bytes]), m _ 10 (by decide) (by simp [IPV.bytes]), m _ 11 (by decide) (by simp [IPV.bytes]), m _ 12 (by decide) (by simp [IPV.bytes]), m _ 13 (by decide) (by simp [IPV.bytes]), m _ 14 (by decide) (by simp [IPV.bytes]), m _ 15 (by decide) (by simp [IPV.bytes])⟩
theorem mask8_all {p : IPV} (hB : Bts p.bytes) : maskS p 8 = ⟨p.v, p.a0, 0, 0, 0, 0, 0, 0, 0, 0, 0, 0, 0, 0, 0, 0, 0⟩ := by
 have m := fun a (i : Nat) (hi : i < 16) (h0 : 0 < i) (ha : a ∈ p.bytes) => mask8 (hB a ha) i hi h0
 have z := mask80 (a := p.a0) (hB p.a0 (by simp [IPV.bytes]))
 obtain ⟨v, a0, a1, a2, a3, a4, a5, a6, a7, a8, a9, a10, a11, a12, a13, a14, a15⟩ := p
 simp only [maskS, IPV.mk.injEq, true_and]
 exact ⟨z, m _ 1 (by decide) (by decide) (by simp [IPV.bytes]), m _ 2 (by decide) (by decide) (by simp [IPV.bytes]), m _ 3 (by decide) (by decide) (by simp [IPV.bytes]), m _ 4 (by decide) (by decide) (by simp [IPV.bytes]), m _ 5 (by decide) (by decide) (by simp [IPV.bytes]), m _ 6 (by decide) (by decide) (by simp [IPV.bytes]), m _ 7 (by decide) (by decide) (by simp [IPV.bytes]), m _ 8 (by decide) (by decide) (by simp [IPV.bytes]), m _ 9 (by decide) (by decide) (by simp [IPV.bytes]), m _ 10 (by decide) (by decide) (by simp [IPV.bytes]), m _ 11 (by decide) (by decide) (by simp [IPV.bytes]), m _ 12 (by decide) (by decide) (by simp [IPV.bytes]), m _ 13 (by decide) (by decide) (by simp [IPV.bytes]), m _ 14 (by decide) (by decide) (by simp [IPV.bytes]), m _ 15 (by decide) (by decide) (by simp [IPV.bytes])⟩
theorem sameA_iff (p q : IPV) : sameA p q = true ↔ p.bytes = q.bytes := by
 simp [sameA, IPV.bytes]
theorem classP_six {p : IPV} (h6 : p.v = 6) : classP p = bif sameA (maskS p 128) noneIP then 1 else bif sameA (maskS p 128) (tailIP 1) then 2 else bif sameA (maskS p 8) (headIP 65280) then 3 else bif sameA (maskS p 10) (headIP 65152) then 4 else bif sameA (maskS p 8) noneIP then 6 else 7 := by
 have hs : sizeS p = 128 := by unfold sizeS; rw [if_pos h6]
 have hno : ∀ n : NetV, n.p.v = 4 → matchS p n = false := fun n h => by unfold matchS; rw [decide_eq_false (by omega), Bool.false_and]
 have hyes : ∀ n : NetV, n.p.v = 6 → matchS p n = sameA (maskS p n.b) n.p := fun n h => by unfold matchS; rw [decide_eq_true (by omega), Bool.true_and]
 unfold classP
 rw [hs, if_pos (by decide)]
 unfold netsV
 rw [List.find?_cons, hno _ rfl]
 rw [List.find?_cons, hyes _ rfl]
 show (match (match sameA (maskS p 128) noneIP with | true => _ | false => _) with | some n => NetV.c n | none => 7) = _
 cases sameA (maskS p 128) noneIP with
 | true => rfl
 | false =>
 rw [cond_false]
 simp only
 rw [List.find?_cons, hno _ rfl]
 simp only
 rw [List.find?_cons, hyes _ rfl]
 show (match (match sameA (maskS p 128) (tailIP 1) with | true => _ | false => _) with | some n => NetV.c n | none => 7) = _
 cases sameA (maskS p 128) (tailIP 1) with
 | true => rfl
 | false =>
 rw [cond_false]
 simp only
 rw [List.find?_cons, hno _ rfl]
 simp only
 rw [List.find?_cons, hyes _ rfl]
 show (match (match sameA (maskS p 8) (headIP 65280) with | true => _ | false => _) with | some n => NetV.c n | none => 7) = _
 cases sameA (maskS p 8) (headIP 65280) with
 | true => rfl
 | false =>
 rw [cond_false]
 simp only
 rw [List.find?_cons, hno _ rfl]
 simp only
 rw [List.find?_cons, hyes _ rfl]
 show (match (match sameA (maskS p 10) (headIP 65152) with | true => _ | false => _) with | some n => NetV.c n | none => 7) = _
 cases sameA (maskS p 10) (headIP 65152) with
 | true => rfl
 | false =>
 rw [cond_false]
 simp only
 rw [List.find?_cons, hno _ rfl]
 simp only
 rw [List.find?_cons, hno _ rfl]
 simp only
 rw [List.find?_cons, hno _ rfl]
 simp only
 rw [List.find?_cons, hyes _ rfl]
 show (match (match sameA (maskS p 8) noneIP with | true => _ | false => _) with | some n => NetV.c n | none => 7) = _
 cases sameA (maskS p 8) noneIP with
 | true => rfl
 | false => rfl
theorem noTarget_eq {p : IPV} (h6 : p.v = 6) (hB : Bts p.bytes) : decide (classP p = 3 ∨ classP p = 1) = !targetS p := by
 have hT : targetS p = true ↔ p.bytes.any (fun x => decide (x ≠ 0)) = true ∧ p.a0 ≠ 255 := by
  unfold targetS; simp [h6]
 have zero : sameA (maskS p 128) noneIP = true ↔ p.bytes.any (fun x => decide (x ≠ 0)) = false := by
  rw [mask128_all hB, sameA_iff, List.any_eq_false]
  constructor
  ·intro h x hx
   rw [h] at hx
   simp [noneIP, IPV.bytes] at hx
   simp [hx]
  ·intro h
   have h' : ∀ x ∈ p.bytes, x = 0 := fun x hx => by have := h x hx; simpa using this
   simp [IPV.bytes] at h'
   simp [IPV.bytes, noneIP, h']
 have ff : sameA (maskS p 8) (headIP 65280) = true ↔ p.a0 = 255 := by
  rw [mask8_all hB, sameA_iff]
  simp [IPV.bytes, headIP]
 have loop : sameA (maskS p 128) (tailIP 1) = true → p.a0 = 0 := by
  rw [mask128_all hB, sameA_iff]
  intro h
  have := congrArg (fun l => l.getD 0 0) h
  simpa [IPV.bytes, tailIP] using this
 rw [classP_six h6]
 cases h1 : sameA (maskS p 128) noneIP with
 | true =>
  have hf : targetS p = false := by
   cases ht : targetS p with
   | false => rfl
   | true => have := (hT.1 ht).1; rw [zero.1 h1] at this; cases this
  rw [hf]; rfl
 | false =>
 have hany : p.bytes.any (fun x => decide (x ≠ 0)) = true := by
  cases h : p.bytes.any (fun x => decide (x ≠ 0)) with
  | true => rfl
  | false => rw [zero.2 h] at h1; cases h1
 rw [cond_false]
 cases h2 : sameA (maskS p 128) (tailIP 1) with
 | true =>
  have := loop h2
  rw [hT.2 ⟨hany, by omega⟩]; rfl
 | false =>
 rw [cond_false]
 cases h3 : sameA (maskS p 8) (headIP 65280) with
 | true =>
  have hf : targetS p = false := by
   cases ht : targetS p with
   | false => rfl
   | true => exact absurd (ff.1 h3) (hT.1 ht).2
  rw [hf]; rfl
 | false =>
 have hne : p.a0 ≠ 255 := fun h => by rw [ff.2 h] at h3; cases h3
 rw [hT.2 ⟨hany, hne⟩, cond_false]
 cases sameA (maskS p 10) (headIP 65152) <;> cases sameA (maskS p 8) noneIP <;> rfl
end Go.Eng
