/- The eight bytes of a message's head as fields of 8, 8, 16 and 32 bits. -/
import Derived.Test.YtjngdcilnipjcaaDoorIc1
import Derived.Test.YtjngdcilnipjcaaDoorPlain3
namespace Go.Eng
open Go Go.RowKit
theorem fieldV_add (f : Nat → Int) (p a : Nat) : ∀ b, fieldV f p (a + b) = fieldV f p a * 2 ^ b + fieldV f (p + a) b
  | 0 => by simp [fieldV]
  | b + 1 => by
    rw [← Nat.add_assoc]
    simp only [fieldV]
    have e : fieldV f p a * 2 ^ (b + 1) = 2 * (fieldV f p a * 2 ^ b) := by
      rw [Int.pow_succ, ← Int.mul_assoc, Int.mul_comm _ 2]
    rw [fieldV_add f p a b, e, Nat.add_assoc p a b]
    omega
theorem fieldV_byte {bs : List Int} (hB : Bts bs) {q : Nat} (hq : q < bs.length) : fieldV (bitAt bs) (8 * q) 8 = bs[q] := by
  have hx := hB.at hq
  have hg : bs.getD q 0 = bs[q] := by simp [hq]
  simp only [fieldV, bitAt]
  have e0 : (8 * q + 0) / 8 = q := by omega
  have e1 : (8 * q + 1) / 8 = q := by omega
  have e2 : (8 * q + 2) / 8 = q := by omega
  have e3 : (8 * q + 3) / 8 = q := by omega
  have e4 : (8 * q + 4) / 8 = q := by omega
  have e5 : (8 * q + 5) / 8 = q := by omega
  have e6 : (8 * q + 6) / 8 = q := by omega
  have e7 : (8 * q + 7) / 8 = q := by omega
  have m0 : 7 - (8 * q + 0) % 8 = 7 := by omega
  have m1 : 7 - (8 * q + 1) % 8 = 6 := by omega
  have m2 : 7 - (8 * q + 2) % 8 = 5 := by omega
  have m3 : 7 - (8 * q + 3) % 8 = 4 := by omega
  have m4 : 7 - (8 * q + 4) % 8 = 3 := by omega
  have m5 : 7 - (8 * q + 5) % 8 = 2 := by omega
  have m6 : 7 - (8 * q + 6) % 8 = 1 := by omega
  have m7 : 7 - (8 * q + 7) % 8 = 0 := by omega
  rw [e0, e1, e2, e3, e4, e5, e6, e7, m0, m1, m2, m3, m4, m5, m6, m7, hg]
  generalize bs[q] = x at hx
  simp only [Int.reducePow]
  omega
theorem fieldV_beNum {bs : List Int} (hB : Bts bs) (p : Nat) : ∀ k, p + k ≤ bs.length → fieldV (bitAt bs) (8 * p) (8 * k) = beNum ((bs.drop p).take k)
  | 0, _ => by simp [fieldV, beNum]
  | k + 1, h => by
    have hlt : k < (bs.drop p).length := by rw [List.length_drop]; omega
    have hb := fieldV_byte hB (q := p + k) (by omega)
    rw [Nat.mul_add 8 k 1, fieldV_add, fieldV_beNum hB p k (by omega), List.take_succ_eq_append_getElem hlt, beNum_snoc, Nat.mul_one, ← Nat.mul_add, hb]
    simp

def hws : List Int := [8, 8, 16, 32]
theorem hws_ok : widthsOk hws := ⟨by decide, by intro x hx; simp [hws] at hx; omega, by decide⟩
theorem hws_psum : psum hws = 64 := by decide
/-- The four fields of eight bytes. -/
theorem hws_fields {bs : List Int} (hB : Bts bs) (hl : bs.length = 8) : fieldsV (bitAt bs) 0 hws = [bs.getD 0 0, bs.getD 1 0, bs.getD 2 0 * 256 + bs.getD 3 0, ((bs.getD 4 0 * 256 + bs.getD 5 0) * 256 + bs.getD 6 0) * 256 + bs.getD 7 0] := by
  match bs, hl with
  | [b0, b1, b2, b3, b4, b5, b6, b7], _ =>
    have f0 := fieldV_beNum hB 0 1 (by simp)
    have f1 := fieldV_beNum hB 1 1 (by simp)
    have f2 := fieldV_beNum hB 2 2 (by simp)
    have f3 := fieldV_beNum hB 4 4 (by simp)
    simp only [hws, fieldsV]
    simp only [Nat.mul_zero, Nat.mul_one, List.drop_zero, List.drop_succ_cons, List.take_succ_cons, List.take_zero, beNum, List.foldl_cons, List.foldl_nil] at f0 f1 f2 f3
    show [fieldV (bitAt [b0, b1, b2, b3, b4, b5, b6, b7]) 0 8, fieldV (bitAt [b0, b1, b2, b3, b4, b5, b6, b7]) 8 8, fieldV (bitAt [b0, b1, b2, b3, b4, b5, b6, b7]) 16 16, fieldV (bitAt [b0, b1, b2, b3, b4, b5, b6, b7]) 32 32] = _
    rw [f0, f1, f2, f3]
    simp
/-- The eight bytes of four values. -/
def headS (t c s r : Int) : List Int := [t, c, s / 256, s % 256, r / 16777216, r / 65536 % 256, r / 256 % 256, r % 256]
theorem headS_bts {t c s r : Int} (ht : 0 ≤ t ∧ t ≤ 255) (hc : 0 ≤ c ∧ c ≤ 255) (hs : 0 ≤ s ∧ s ≤ 65535) (hr : 0 ≤ r ∧ r ≤ 4294967295) : Bts (headS t c s r) := by
  intro x hx
  simp only [headS, List.mem_cons, List.not_mem_nil, or_false] at hx
  omega
theorem packed_head {t c s r : Int} {ds : List Int} (h : Packed hws [t, c, s, r] ds) : ds = headS t c s r := by
  have hl : ds.length = 8 := by have := h.len; rw [hws_psum] at this; omega
  have hv := h.vals
  rw [hws_fields h.bts hl] at hv
  have hB := h.bts
  match ds, hl with
  | [b0, b1, b2, b3, b4, b5, b6, b7], _ =>
    have q0 := hB b0 (by simp)
    have q1 := hB b1 (by simp)
    have q2 := hB b2 (by simp)
    have q3 := hB b3 (by simp)
    have q4 := hB b4 (by simp)
    have q5 := hB b5 (by simp)
    have q6 := hB b6 (by simp)
    have q7 := hB b7 (by simp)
    simp only [List.getD_cons_zero, List.getD_cons_succ, List.cons.injEq, and_true] at hv
    simp only [headS, List.cons.injEq, and_true]
    omega
theorem head_valuesOk {t c r : Int} (ht : 0 ≤ t ∧ t ≤ 255) (hc : 0 ≤ c ∧ c ≤ 255) (hr : 0 ≤ r ∧ r ≤ 4294967295) : valuesOk hws [t, c, 0, r] := by
  refine ⟨rfl, fun i hi => ?_⟩
  match i, hi with
  | 0, _ => simp [hws]; omega
  | 1, _ => simp [hws]; omega
  | 2, _ => simp [hws]
  | 3, _ => simp [hws]; omega
end Go.Eng
