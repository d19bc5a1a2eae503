/- Plain laws of packing: no program in sight. -/
import Derived.Test.YthhgbpmihhljdaaGreatDoorBaq
import Derived.Test.YthhgbpmihhljdaaGreatDoorBai
import Derived.Test.YthhgbpmihhljdaaGreatDoorBaf
import Derived.Test.YthhgbpmihhljdaaGreatDoorBap
namespace Go.Eng
open Go
theorem set_bit_nat : ∀ x, x < 256 → ∀ m, m < 8 → ∀ b, b < 2 → (x / 2 ^ m) % 2 = 0 →
    (x ||| (b * 2 ^ m)) < 256 ∧ ∀ j, j < 8 → ((x ||| (b * 2 ^ m)) / 2 ^ j) % 2 = if j = m then b else (x / 2 ^ j) % 2 := by decide +kernel
/-- The byte in which one free bit is laid, as the program does it. -/
theorem or_bit {x b : Int} {m : Nat} (h0 : 0 ≤ x) (h1 : x < 256) (hm : m < 8) (hb0 : 0 ≤ b) (hb1 : b < 2) (hz : (x / 2 ^ m) % 2 = 0) :
    0 ≤ bitv .or .u8 x (IntKind.u8.wrap (b * 2 ^ m)) ∧ bitv .or .u8 x (IntKind.u8.wrap (b * 2 ^ m)) < 256 ∧
      ∀ j, j < 8 → (bitv .or .u8 x (IntKind.u8.wrap (b * 2 ^ m)) / 2 ^ j) % 2 = if j = m then b else (x / 2 ^ j) % 2 := by
  obtain ⟨a, rfl⟩ := Int.eq_ofNat_of_zero_le h0
  obtain ⟨c, rfl⟩ := Int.eq_ofNat_of_zero_le hb0
  have hz' : (a / 2 ^ m) % 2 = 0 := by exact_mod_cast hz
  have ha : a < 256 := by omega
  have hc : c < 2 := by omega
  have key := set_bit_nat a ha m hm c hc hz'
  have hp : c * 2 ^ m < 256 := by
    have : 2 ^ m ≤ 2 ^ 7 := Nat.pow_le_pow_right (by decide) (by omega)
    have h2 : c * 2 ^ m ≤ 1 * 2 ^ m := Nat.mul_le_mul_right _ (by omega)
    omega
  have e0 : ((c : Int) * 2 ^ m) = ((c * 2 ^ m : Nat) : Int) := by push_cast; rfl
  have e1 : IntKind.u8.wrap ((c : Int) * 2 ^ m) = ((c * 2 ^ m : Nat) : Int) := by rw [e0]; exact wu8 (by omega) (by omega)
  have e2 : bitv .or .u8 (a : Int) ((c * 2 ^ m : Nat) : Int) = ((a ||| c * 2 ^ m : Nat) : Int) := by
    unfold bitv
    simp only
    rw [BitVec.toNat_or]
    have t1 : (BitVec.ofInt IntKind.u8.bits (a : Int)).toNat = a := by simp [IntKind.bits]; omega
    have t2 : (BitVec.ofInt IntKind.u8.bits ((c * 2 ^ m : Nat) : Int)).toNat = c * 2 ^ m := by
      rw [BitVec.toNat_ofInt]
      have : (((c * 2 ^ m : Nat) : Int) % ((2 ^ IntKind.u8.bits : Nat) : Int)) = ((c * 2 ^ m : Nat) : Int) := Int.emod_eq_of_lt (by omega) (by simp [IntKind.bits]; omega)
      rw [this]; exact Int.toNat_natCast _
    rw [t1, t2]
    exact wu8 (by omega) (by omega)
  rw [e1, e2]
  refine ⟨by omega, by omega, fun j hj => ?_⟩
  have := key.2 j hj
  by_cases e : j = m
  · rw [if_pos e] at this ⊢; exact_mod_cast this
  · rw [if_neg e] at this ⊢; exact_mod_cast this

theorem bitAt_set {ds : List Int} {p : Nat} {y b : Int} (hp : p / 8 < ds.length) (h : ∀ j, j < 8 → (y / 2 ^ j) % 2 = if j = 7 - p % 8 then b else (ds[p / 8] / 2 ^ j) % 2) (q : Nat) :
    bitAt (ds.set (p / 8) y) q = if q = p then b else bitAt ds q := by
  unfold bitAt
  by_cases hq : q / 8 = p / 8
  · rw [hq]
    have e : (ds.set (p / 8) y).getD (p / 8) 0 = y := by simp [hp]
    have e2 : ds.getD (p / 8) 0 = ds[p / 8] := by simp [hp]
    rw [e, e2, h (7 - q % 8) (by omega)]
    by_cases hqp : q = p
    · subst hqp; simp
    · rw [if_neg (by omega), if_neg hqp]
  · have hqp : q ≠ p := by rintro rfl; exact hq rfl
    rw [if_neg hqp]
    have : (ds.set (p / 8) y).getD (q / 8) 0 = ds.getD (q / 8) 0 := by
      simp [Ne.symm hq]
    rw [this]

theorem half_join (v : Int) (q : Nat) (_ : 0 ≤ v) : 2 * (v / 2 ^ (q + 1)) + (v / 2 ^ q) % 2 = v / 2 ^ q := by
  have : v / 2 ^ (q + 1) = (v / 2 ^ q) / 2 := by
    rw [Int.pow_succ, Int.ediv_ediv_of_nonneg (Int.pow_nonneg (by decide))]
  rw [this]; omega
theorem fieldsV_congr {f g : Nat → Int} : ∀ (ws : List Int) (p : Nat), W32 ws → (∀ i, i < (psum ws).toNat → f (p + i) = g (p + i)) → fieldsV f p ws = fieldsV g p ws
  | [], _, _, _ => rfl
  | w :: r, p, hW, h => by
    have hw := hW w (by simp)
    have hr : W32 r := fun x hx => hW x (by simp [hx])
    have hb := psum_bound hr
    simp only [fieldsV]
    rw [psum_cons] at h
    have e1 := fieldV_congr p p w.toNat (f := f) (g := g) (fun i hi => h i (by omega))
    have e2 := fieldsV_congr r (p + w.toNat) hr (f := f) (g := g) (fun i hi => by
      have := h (w.toNat + i) (by omega)
      rwa [← Nat.add_assoc] at this)
    rw [e1, e2]

/-- What may be packed. -/
def valuesOk (ws vs : List Int) : Prop := vs.length = ws.length ∧ ∀ i, i < ws.length → 0 ≤ vs.getD i 0 ∧ vs.getD i 0 < 2 ^ (ws.getD i 0).toNat
/-- ds is these values, packed. -/
structure Packed (ws vs ds : List Int) : Prop where
  len : (ds.length : Int) = psum ws / 8
  bts : Bts ds
  vals : fieldsV (bitAt ds) 0 ws = vs

end Go.Eng
/- Bit fields as numbers out of bytes: the headers of versions 4 and 6. It speaks of any program. -/
namespace Go.Eng
theorem fieldV_sum (f : Nat → Int) (p a : Nat) : ∀ b, fieldV f p (a + b) = fieldV f p a * 2 ^ b + fieldV f (p + a) b
  | 0 => by simp [fieldV]
  | b + 1 => by
    rw [← Nat.add_assoc]
    simp only [fieldV]
    have e : fieldV f p a * 2 ^ (b + 1) = 2 * (fieldV f p a * 2 ^ b) := by
      rw [Int.pow_succ, ← Int.mul_assoc, Int.mul_comm _ 2]
    rw [fieldV_sum f p a b, e, Nat.add_assoc p a b]
    omega
/-- A field within a byte. -/
theorem fieldV_in {bs : List Int} (hB : Bts bs) (q s : Nat) : ∀ k, s + k ≤ 8 → fieldV (bitAt bs) (8 * q + s) k = bs.getD q 0 / 2 ^ (8 - s - k) % 2 ^ k
  | 0, _ => by simp [fieldV, Int.emod_one]
  | k + 1, h => by
    simp only [fieldV]
    rw [fieldV_in hB q s k (by omega)]
    have hx : ∃ X : Nat, bs.getD q 0 = (X : Int) := by
      by_cases hq : q < bs.length
      · have := hB.at hq
        have e : bs.getD q 0 = bs[q] := by simp [hq]
        exact ⟨bs[q].toNat, by rw [e]; omega⟩
      · exact ⟨0, by simp [List.getD_eq_getElem?_getD, List.getElem?_eq_none (by omega : bs.length ≤ q)]⟩
    obtain ⟨X, hX⟩ := hx
    have hb : bitAt bs (8 * q + s + k) = bs.getD q 0 / 2 ^ (7 - (s + k)) % 2 := by
      unfold bitAt
      rw [show (8 * q + s + k) / 8 = q by omega, show (8 * q + s + k) % 8 = s + k by omega]
    rw [hb, hX]
    obtain ⟨m, hm⟩ : ∃ m, 7 - (s + k) = m := ⟨_, rfl⟩
    rw [show 8 - s - k = m + 1 by omega, show 8 - s - (k + 1) = m by omega, hm]
    have e1 : ((X : Int) / 2 ^ (m + 1)) = ((X / 2 ^ m / 2 : Nat) : Int) := by
      rw [Nat.div_div_eq_div_mul, ← Nat.pow_succ]; simp
    have e2 : ((X : Int) / 2 ^ m) = ((X / 2 ^ m : Nat) : Int) := by simp
    rw [e1, e2]
    generalize X / 2 ^ m = Y
    have := Nat.mod_mul (x := Y) (a := 2) (b := 2 ^ k)
    have e3 : (2 : Int) ^ k = ((2 ^ k : Nat) : Int) := by simp
    have e4 : (2 : Int) ^ (k + 1) = ((2 * 2 ^ k : Nat) : Int) := by rw [Int.pow_succ]; simp [Int.mul_comm]
    rw [e3, e4, ← Int.natCast_emod, ← Int.natCast_emod, this]
    simp
    omega
theorem getD_bts {bs : List Int} (hB : Bts bs) (q : Nat) : 0 ≤ bs.getD q 0 ∧ bs.getD q 0 < 256 := by
  by_cases hq : q < bs.length
  · have e : bs.getD q 0 = bs[q] := by simp [hq]
    rw [e]; exact hB.at hq
  · rw [List.getD_eq_getElem?_getD, List.getElem?_eq_none (by omega : bs.length ≤ q)]; decide
theorem fieldV_whole {bs : List Int} (hB : Bts bs) (q : Nat) : fieldV (bitAt bs) (8 * q) 8 = bs.getD q 0 := by
  have := fieldV_in hB q 0 8 (by decide)
  have hb := getD_bts hB q
  rw [Nat.add_zero] at this
  rw [this]
  simp only [Nat.sub_zero, Nat.sub_self, Int.pow_zero, Int.ediv_one, Int.reducePow]
  omega
theorem fieldV_two {bs : List Int} (hB : Bts bs) (q : Nat) : fieldV (bitAt bs) (8 * q) 16 = bs.getD q 0 * 256 + bs.getD (q + 1) 0 := by
  rw [show 16 = 8 + 8 from rfl, fieldV_sum, fieldV_whole hB, show 8 * q + 8 = 8 * (q + 1) by omega, fieldV_whole hB]; rfl
theorem fieldV_four {bs : List Int} (hB : Bts bs) (q : Nat) : fieldV (bitAt bs) (8 * q) 32 = ((bs.getD q 0 * 256 + bs.getD (q + 1) 0) * 256 + bs.getD (q + 2) 0) * 256 + bs.getD (q + 3) 0 := by
  rw [show 32 = 16 + 16 from rfl, fieldV_sum, fieldV_two hB, show 8 * q + 16 = 8 * (q + 2) by omega, fieldV_two hB, show q + 2 + 1 = q + 3 from rfl]
  simp only [Int.reducePow]
  omega
/-! ### Version 6 -/
def ws6 : List Int := [4, 8, 20, 16, 8, 8]
def wsf : List Int := [8, 8, 13, 2, 1, 32]
theorem ws6_ok : widthsOk ws6 := ⟨by decide, by intro x hx; simp [ws6] at hx; omega, by decide⟩
theorem wsf_ok : widthsOk wsf := ⟨by decide, by intro x hx; simp [wsf] at hx; omega, by decide⟩
theorem ws6_fields {bs : List Int} (hB : Bts bs) : fieldsV (bitAt bs) 0 ws6 = [bs.getD 0 0 / 16, bs.getD 0 0 % 16 * 16 + bs.getD 1 0 / 16, (bs.getD 1 0 % 16 * 256 + bs.getD 2 0) * 256 + bs.getD 3 0, bs.getD 4 0 * 256 + bs.getD 5 0, bs.getD 6 0, bs.getD 7 0] := by
  have b0 := getD_bts hB 0
  have b1 := getD_bts hB 1
  have h0 := fieldV_in hB 0 0 4 (by decide)
  have h1 := fieldV_in hB 0 4 4 (by decide)
  have h2 := fieldV_in hB 1 0 4 (by decide)
  have h3 := fieldV_in hB 1 4 4 (by decide)
  have h4 := fieldV_two hB 2
  have h5 := fieldV_two hB 4
  have h6 := fieldV_whole hB 6
  have h7 := fieldV_whole hB 7
  have s1 := fieldV_sum (bitAt bs) 4 4 4
  have s2 := fieldV_sum (bitAt bs) 12 4 16
  simp only [Int.reducePow, Nat.reduceMul, Nat.reduceAdd, Nat.reduceSub, Nat.zero_add, Nat.mul_zero] at h0 h1 h2 h3 h4 h5 h6 h7 s1 s2
  simp only [ws6, fieldsV, show (4 : Int).toNat = 4 from rfl, show (8 : Int).toNat = 8 from rfl, show (20 : Int).toNat = 20 from rfl, show (16 : Int).toNat = 16 from rfl, Nat.zero_add, Nat.reduceAdd, List.cons.injEq, and_true]
  rw [h0, s1, h1, h2, s2, h3, h4, h5, h6, h7]
  omega
theorem wsf_fields {bs : List Int} (hB : Bts bs) : fieldsV (bitAt bs) 0 wsf = [bs.getD 0 0, bs.getD 1 0, bs.getD 2 0 * 32 + bs.getD 3 0 / 8, bs.getD 3 0 / 2 % 4, bs.getD 3 0 % 2, ((bs.getD 4 0 * 256 + bs.getD 5 0) * 256 + bs.getD 6 0) * 256 + bs.getD 7 0] := by
  have b3 := getD_bts hB 3
  have h0 := fieldV_whole hB 0
  have h1 := fieldV_whole hB 1
  have h2 := fieldV_whole hB 2
  have h3 := fieldV_in hB 3 0 5 (by decide)
  have h4 := fieldV_in hB 3 5 2 (by decide)
  have h5 := fieldV_in hB 3 7 1 (by decide)
  have h6 := fieldV_four hB 4
  have s1 := fieldV_sum (bitAt bs) 16 8 5
  simp only [Int.reducePow, Nat.reduceMul, Nat.reduceAdd, Nat.reduceSub, Nat.mul_zero] at h0 h1 h2 h3 h4 h5 h6 s1
  simp only [wsf, fieldsV, show (13 : Int).toNat = 13 from rfl, show (8 : Int).toNat = 8 from rfl, show (2 : Int).toNat = 2 from rfl, show (1 : Int).toNat = 1 from rfl, show (32 : Int).toNat = 32 from rfl, Nat.zero_add, Nat.reduceAdd, List.cons.injEq, and_true]
  rw [h0, h1, s1, h2, h3, h4, h5, h6]
  omega
theorem list8 {ds : List Int} (h : ds.length = 8) : ∃ a b c d e f g i, ds = [a, b, c, d, e, f, g, i] := by
  match ds, h with
  | [a, b, c, d, e, f, g, i], _ => exact ⟨a, b, c, d, e, f, g, i, rfl⟩
theorem packed6 {cls flow n first hop : Int} {ds : List Int} (h : Packed ws6 [6, cls, flow, n, first, hop] ds) :
    ds = [96 + cls / 16, cls % 16 * 16 + flow / 65536, flow / 256 % 256, flow % 256, n / 256, n % 256, first, hop] := by
  have hl : ds.length = 8 := by have := h.len; have e : psum ws6 = 64 := by decide
                                omega
  have hB := h.bts
  have hv := h.vals
  rw [ws6_fields hB] at hv
  obtain ⟨b0, b1, b2, b3, b4, b5, b6, b7, rfl⟩ := list8 hl
  have q0 := hB b0 (by simp)
  have q1 := hB b1 (by simp)
  have q2 := hB b2 (by simp)
  have q3 := hB b3 (by simp)
  have q4 := hB b4 (by simp)
  have q5 := hB b5 (by simp)
  simp only [List.getD_cons_zero, List.getD_cons_succ, List.cons.injEq, and_true] at hv
  simp only [List.cons.injEq, and_true]
  omega
theorem packedF {next off more id : Int} {ds : List Int} (hm : 0 ≤ more ∧ more ≤ 1) (ho : off % 8 = 0) (h : Packed wsf [next, 0, off / 8, 0, more, id] ds) :
    ds = [next, 0, (off + more) / 256, (off + more) % 256] ++ four id := by
  have hl : ds.length = 8 := by have := h.len; have e : psum wsf = 64 := by decide
                                omega
  have hB := h.bts
  have hv := h.vals
  rw [wsf_fields hB] at hv
  obtain ⟨b0, b1, b2, b3, b4, b5, b6, b7, rfl⟩ := list8 hl
  have q0 := hB b0 (by simp)
  have q1 := hB b1 (by simp)
  have q2 := hB b2 (by simp)
  have q3 := hB b3 (by simp)
  have q4 := hB b4 (by simp)
  have q5 := hB b5 (by simp)
  have q6 := hB b6 (by simp)
  have q7 := hB b7 (by simp)
  simp only [List.getD_cons_zero, List.getD_cons_succ, List.cons.injEq, and_true] at hv
  simp only [four, List.cons_append, List.nil_append, List.cons.injEq, and_true]
  omega
end Go.Eng
/- Contracts of package view's inner looks. -/
namespace Go.Proofs.YthhgbpmihhljdaaGreatDoor
open Go.Eng
/-- What a look panics with. -/
def gapc : List PanicEntry := [{ v := .iface 202 (.agg #[]), recovered := false }]

theorem look_yes {A : Option Addr} {n c : Nat} {i : Int} {bs : List Int} {w : World} (hb : Cells w A (bs.map (.int .u8))) (hl : bs.length = n) (h0 : 0 ≤ i) (h1 : i < n) :
    Calls Tryz.prog 119 #[.slice A n c, .int .i64 i] w fun e w' => w = w' ∧ e = .returned (.int .u8 (bs.getD i.toNat 0)) := by
  refine view_look_of A n c i w _ ?_
  unfold view_look_VC
  refine Br.no (by omega) (Br.no (by omega) ?_)
  exact IdxVC.int hb (by omega) (by omega) hl fun a hc => ⟨_, hc, rfl, rfl⟩
theorem look_no {A : Option Addr} {n c : Nat} {i : Int} {w : World} (h : ¬ (0 ≤ i ∧ i < n)) :
    Calls Tryz.prog 119 #[.slice A n c, .int .i64 i] w fun e w' => w = w' ∧ e = .panicked gapc := by
  refine view_look_of A n c i w _ ?_
  unfold view_look_VC
  refine Br.dec (fun h1 => ⟨rfl, rfl⟩) (fun h1 => Br.dec (fun h2 => ⟨rfl, rfl⟩) (fun h2 => ?_))
  omega

theorem getD_drop (bs : List Int) (p k : Nat) : (bs.drop p).getD k 0 = bs.getD (p + k) 0 := by
  simp [List.getD_eq_getElem?_getD, List.getElem?_drop]
theorem take_succ_getD (l : List Int) (k : Nat) (h : k < l.length) : l.take (k + 1) = l.take k ++ [l.getD k 0] := by
  rw [List.take_succ_eq_append_getElem h]; simp [h]

theorem part_yes {A : Option Addr} {n c : Nat} {p k : Int} {bs : List Value} {w : World} (hb : Cells w A bs) (_ : bs.length = n) (hc : n ≤ c) (hn : n ≤ 4611686018427387904) (h0 : 0 ≤ p) (hk : 0 ≤ k) (h1 : p + k ≤ n) :
    Calls Tryz.prog 118 #[.slice A n c, .int .i64 p, .int .i64 k] w fun e w' => w = w' ∧ ∃ A', e = .returned (.slice A' k.toNat k.toNat) ∧ Cells w A' ((bs.drop p.toNat).take k.toNat) ∧
      A' = if k = 0 then A else A.map (·.add p.toNat) := by
  refine view_part_of A n c p k w _ ?_
  unfold view_part_VC
  rw [w64 (n := (n : Int) - p) (by omega) (by omega), w64 (n := p + k) (by omega) (by omega)]
  refine Br.no (by omega) (Br.no (by omega) (Br.no (by omega) ?_))
  refine ⟨h0, by omega, by omega, by omega, rfl, _, ?_, ?_, rfl⟩
  · have e1 : (p + k).toNat - p.toNat = k.toNat := by omega
    rw [e1]
    congr 2
    by_cases hk0 : k = 0
    · rw [if_pos hk0, if_pos (by omega)]
    · rw [if_neg hk0, if_neg (by omega), Nat.mul_one]
  · exact hb.win
theorem part_no {A : Option Addr} {n c : Nat} {p k : Int} {w : World} (hn : n ≤ 140737488355328) (h : ¬ (0 ≤ p ∧ p ≤ n ∧ k ≤ n - p)) :
    Calls Tryz.prog 118 #[.slice A n c, .int .i64 p, .int .i64 k] w fun e w' => w = w' ∧ e = .panicked gapc := by
  refine view_part_of A n c p k w _ ?_
  unfold view_part_VC
  refine Br.dec (fun h1 => ⟨rfl, rfl⟩) (fun h1 => Br.dec (fun h2 => ⟨rfl, rfl⟩) (fun h2 => ?_))
  rw [w64 (n := (n : Int) - p) (by omega) (by omega)]
  refine Br.yes (by omega) ⟨rfl, rfl⟩
end Go.Proofs.YthhgbpmihhljdaaGreatDoor
/- The deferred closures of package view (recover), and the looks at its face: Uint, Window. -/
namespace Go.Proofs.YthhgbpmihhljdaaGreatDoor
open Go.Eng

section
variable {u : TypeId} {pv : Value} {older : List PanicEntry} {w : World} {g1 g2 g3 : Nat} {x1 x2 x3 : Value}
theorem fields_idle :
    CallsD Tryz.prog 117 #[.pointer (some ⟨g1, 0, none⟩), .pointer (some ⟨g2, 0, none⟩), .pointer (some ⟨g3, 0, none⟩)] .returning w fun e u' w' => e = .returned (.tuple #[]) ∧ u' = .returning ∧ w' = w := by
  refine callsD_of_wpS Tryz.func117 rfl fun c₀ cs hu => ?_
  apply wpS_seq
  apply wpS_region
  simp [wpOpsS, go_sem, recoverD, hu, Tryz.ntmps117, Exit.thenS]
  refine wpS_cond (t := false) (by simp [Act.eval, Array.replicate]) ?_
  simp only [Bool.false_eq_true, if_false]
  refine wpS_of_wp (wp_skip ?_)
  cases c₀
  simp_all [bodyPostS, results, Tryz.results117]
end

/-! ### Uint, Window -/
theorem leave_ret {f : FuncId} {cap : Array Value} {fin : World → Prop} {R : Ending → World → Prop} {u : FrameMode} {w w1 : World} (hf : callF f = true) (hu : u ≠ .run) {v : Value}
    {u1 : FrameMode} (h : CallsD Tryz.prog f cap u w fun e u' w' => e = .returned v ∧ u' = u1 ∧ w' = w1) (hs : settle u1 = .returning) (hfin : fin w1) :
    leaveWp Tryz.prog callF fin R [{ target := .fn (.func f) cap, args := #[] }] u w := by
  unfold leaveWp
  simp only [hf, cond_true]
  refine ⟨hu, ?_⟩
  have e : (#[] : Array Value) ++ cap = cap := by simp
  rw [e]
  refine h.mono ?_
  rintro e u' w' ⟨rfl, rfl, rfl⟩
  simp only [hs, leaveWp]
  exact hfin

end Go.Proofs.YthhgbpmihhljdaaGreatDoor
/- Contracts of package view's Fields and what it stands on. -/
namespace Go.Proofs.YthhgbpmihhljdaaGreatDoor
open Go.Eng Go.RowKit

theorem tyInt : TypeIs Tryz.prog 3 (.int .i64 0) 1 8 := .of (by kernel_rfl)
theorem tyByte : TypeIs Tryz.prog 5 (.int .u8 0) 1 1 := .of (by kernel_rfl)

theorem bits_yes {A : Option Addr} {n c : Nat} {ws : List Int} {w : World} (hb : Cells w A (ws.map (.int .i64))) (hl : ws.length = n) (h : widthsOk ws) :
    Calls Tryz.prog 85 #[.slice A n c] w fun e w' => w = w' ∧ e = .returned (.tuple #[.int .i64 (psum ws / 8), .int .i64 0]) := by
  obtain ⟨h64, hW, h8⟩ := h
  refine view_bits_of A n c w _ ?_
  unfold view_bits_VC
  refine Br.no (by omega) ?_
  refine LoopVC.of (fun s w1 => w = w1 ∧ ∃ i : Nat, i ≤ n ∧ s = (psum (ws.take i), (i : Int))) (fun s _ => (n - s.2).toNat) ⟨rfl, 0, by omega, rfl⟩ ?_
  rintro _ w1 ⟨rfl, i, hi, rfl⟩
  have hb1 := psum_bound (hW.take i)
  have hle : (ws.take i).length ≤ 64 := by rw [List.length_take]; omega
  show view_bits_L122 _ A n (psum (ws.take i)) (i : Int) w _
  unfold view_bits_L122
  refine Br.dec (fun h1 => ?_) (fun h1 => ?_)
  · refine IdxVC.int hb (by omega) (by omega) hl fun a hc => ⟨_, hc, ?_⟩
    have hil : i < ws.length := by omega
    have hx := hW ws[i] (List.getElem_mem hil)
    rw [getD_cast _ _ hil]
    refine Br.no (by omega) (Br.no (by omega) ?_)
    have e2 : psum (ws.take (i + 1)) = psum (ws.take i) + ws[i] := by
      rw [List.take_succ_eq_append_getElem hil, psum_snoc]
    refine ⟨⟨rfl, i + 1, by omega, ?_⟩, ?_⟩
    · rw [w64 (n := psum (ws.take i) + ws[i]) (by omega) (by omega), w64 (n := (i : Int) + 1) (by omega) (by omega), e2]; simp
    · simp only
      rw [w64 (n := (i : Int) + 1) (by omega) (by omega)]; omega
  · have hin : i = ws.length := by omega
    subst hin
    rw [List.take_length] at hb1 ⊢
    have e8 : Int.tmod (psum ws) 8 = 0 := by rw [Int.tmod_eq_emod_of_nonneg hb1.1]; exact h8
    rw [e8]
    refine Br.no (by decide) ⟨rfl, ?_⟩
    rw [Int.tdiv_eq_ediv_of_nonneg hb1.1, w64 (by omega) (by omega)]

/-- What Fields answers. -/
theorem fields_inner {bs : List Int} {A : Option Addr} {n c B : Nat} {wide : Int} {w : World}
    {R : Ending → World → Prop} {g1 g2 g3 : Nat} {t30 : Int} {K : Int × Int → World → Prop}
    (hb : Cells w A (bs.map (.int .u8))) (hl : bs.length = n) (hB : Bts bs) (hw0 : 1 ≤ wide) (hw1 : wide ≤ 32) (hfit : (B : Int) + wide ≤ 8 * n) (hn : n ≤ 4096)
    (hend : view_Fields_L1042842 R g1 g2 g3 A n c t30 K wide ((B : Int) + wide) (fieldV (bitAt bs) B wide.toNat) wide w (fun _ _ => False)) :
    LoopVC (S := Int × Int × Int) (fun s w12 K1042842 => view_Fields_L1042842 R g1 g2 g3 A n c t30 K wide s.1 s.2.1 s.2.2 w12 K1042842) ((B : Int), 0, 0) w := by
  refine LoopVC.of (fun s w' => w = w' ∧ ∃ k : Nat, (k : Int) ≤ wide ∧ s = ((B : Int) + k, fieldV (bitAt bs) B k, (k : Int))) (fun s _ => (wide - s.2.2).toNat) ⟨rfl, 0, by omega, by simp [fieldV]⟩ ?_
  rintro _ w1 ⟨rfl, k, hk, rfl⟩
  by_cases h : (k : Int) < wide
  · show view_Fields_L1042842 R g1 g2 g3 A n c t30 K wide ((B : Int) + k) (fieldV (bitAt bs) B k) (k : Int) w _
    unfold view_Fields_L1042842
    refine Br.yes h ?_
    have e1 : Int.tdiv ((B : Int) + k) 8 = (((B + k) / 8 : Nat) : Int) := by
      rw [Int.tdiv_eq_ediv_of_nonneg (by omega)]; omega
    rw [e1, w64 (n := (((B + k) / 8 : Nat) : Int)) (by omega) (by omega)]
    refine (look_yes hb hl (by omega) (by omega)).mono ?_
    rintro _ w2 ⟨rfl, rfl⟩
    have hlt : (B + k) / 8 < bs.length := by omega
    have hx := hB.at hlt
    rw [getD_cast _ _ hlt]
    refine ⟨_, rfl, ?_, rfl, ?_⟩
    · have e1 : Int.tmod ((B : Int) + k) 8 = (((B + k) % 8 : Nat) : Int) := by rw [Int.tmod_eq_emod_of_nonneg (by omega)]; omega
      rw [e1, wu64 (n := (((B + k) % 8 : Nat) : Int)) (by omega) (by omega), wu64 (by omega) (by omega)]
      omega
    · have hb := fieldV_bound (f := bitAt bs) (bitAt_01 bs) B k
      have hp := pow2_32 (n := k) (by omega)
      have hr := bit_read hx.1 hx.2 (B + k)
      rw [show ((B + k : Nat) : Int) = (B : Int) + k by omega] at hr
      rw [hr]
      have hbit : (bs[(B + k) / 8] / 2 ^ (7 - (B + k) % 8)) % 2 = bitAt bs (B + k) := by
        unfold bitAt; simp [hlt]
      have h01 := bitAt_01 bs (B + k)
      rw [hbit, bit_join hb.1 (by omega) h01.1 h01.2, w64 (n := (B : Int) + k + 1) (by omega) (by omega), w64 (n := (k : Int) + 1) (by omega) (by omega)]
      refine ⟨⟨rfl, k + 1, by omega, ?_⟩, by simp only; omega⟩
      simp only [fieldV]
      rw [show (B : Int) + k + 1 = (B : Int) + ((k + 1 : Nat) : Int) by omega, show ((k + 1 : Nat) : Int) = (k : Int) + 1 by omega]
  · have hkw : (k : Int) = wide := by omega
    have hk2 : k = wide.toNat := by omega
    have := hend
    show view_Fields_L1042842 R g1 g2 g3 A n c t30 K wide ((B : Int) + k) (fieldV (bitAt bs) B k) (k : Int) w _
    rw [← hk2, ← hkw] at this
    rw [← hkw]
    unfold view_Fields_L1042842 at this ⊢
    rw [decide_eq_false (by omega)] at this ⊢
    exact this

/-- Fields, where it answers: the values lie in a row of the caller's own. -/
theorem fields_yes {A W : Option Addr} {n c m d : Nat} {p : Int} {bs ws : List Int} {w : World} (hb : Cells w A (bs.map (.int .u8))) (hl : bs.length = n) (hB : Bts bs) (hc : n ≤ c) (hn : n ≤ 140737488355328)
    (hws : Cells w W (ws.map (.int .i64))) (hm : ws.length = m) (hok : widthsOk ws) (h0 : 0 ≤ p) (h1 : p + psum ws / 8 ≤ n) :
    Calls Tryz.prog 108 #[.slice A n c, .int .i64 p, .slice W m d] w fun e w' => Ext w w' ∧ ∃ A' c', e = .returned (.tuple #[.slice A' m c', .int .i64 (p + psum ws / 8), .int .i64 0]) ∧
      w'.ownsRow w.heap.size 3 1 (.slice A' m c') m ((fieldsV (bitAt ((bs.drop p.toNat).take (psum ws / 8).toNat)) 0 ws).map (.int .i64)) := by
  have hW := hok.2.1
  have hpb := psum_bound hW
  have h64 : ws.length ≤ 64 := hok.1
  have h8 := hok.2.2
  refine view_Fields_of A n c p W m d w _ ?_
  unfold view_Fields_VC
  refine NewVC.blk fun g1 w1 hg1 hz1 hE1 hb1 => NewVC.blk fun g2 w2 hg2 hz2 hE2 hb2 => NewVC.blk fun g3 w3 hg3 hz3 hE3 hb3 => ?_
  have hE : Ext w w3 := (hE1.ext hE2).ext hE3
  have hb1 := (hb1.ext hE2).ext hE3
  have hb2 := hb2.ext hE3
  refine (bits_yes (hws.ext hE) hm hok).mono ?_
  rintro _ w4 ⟨rfl, rfl⟩
  refine ⟨_, _, rfl, ?_⟩
  refine SetVC.blk hb3 (by simp) fun w5 hz5 hm5 hb3 => ?_
  have hb1 := hb1.mod hm5 (show ¬ g1 = g3 by omega)
  have hb2 := hb2.mod hm5 (show ¬ g2 = g3 by omega)
  have hE5 : Ext w w5 := hE.trans' hm5 (fun i hi e => by omega)
  refine ⟨_, hb3.cell 0, Br.no (by simp) ?_⟩
  refine (part_yes (hb.ext hE5) (by simpa using hl) hc (by omega) h0 (by omega) h1).mono ?_
  rintro _ w10 ⟨rfl, A1, rfl, -, hA1⟩
  refine ⟨_, _, _, rfl, ?_⟩
  have hbA : Cells w A1 (((bs.map (Value.int .u8)).drop p.toNat).take (psum ws / 8).toNat) := by rw [hA1]; exact hb.win
  generalize hbs : (bs.drop p.toNat).take (psum ws / 8).toNat = ds
  have hds : ds.length = (psum ws / 8).toNat := by subst hbs; rw [List.length_take, List.length_drop]; omega
  have hdB : Bts ds := by subst hbs; exact (hB.drop _).take _
  have hdc : Cells w A1 (ds.map (.int .u8)) := by
    subst hbs; rw [List.map_take, List.map_drop]; exact hbA
  obtain ⟨i3, hi3, hz3', hs3, hy3⟩ := tyInt
  have hg1w : w.heap.size ≤ g1 := by omega
  have hg15 : g1 < w5.heap.size := hb1.lt
  have hg25 : g2 < w5.heap.size := hb2.lt
  have hg35 : g3 < w5.heap.size := hb3.lt
  refine LoopVC.of (fun s w' => ∃ (i : Nat) (A2 : Option Addr) (c2 : Nat), i ≤ m ∧ s = (psum (ws.take i), (i : Int)) ∧ Ext w w' ∧ Mod (fun k => k = g1) w5 w' ∧
      Blk w' g1 31 [.slice A2 i c2] ∧ w'.ownsRow w5.heap.size 3 1 (.slice A2 i c2) i ((fieldsV (bitAt ds) 0 (ws.take i)).map (.int .i64))) (fun s _ => (m - s.2).toNat) ?_ ?_
  · exact ⟨0, none, 0, by omega, rfl, hE5, Mod.refl _ _, hb1, World.ownsRow_nil _ _ _ _⟩
  · rintro _ w11 ⟨i, A2, c2, him, rfl, hE11, hM11, hb1, hown⟩
    show view_Fields_L1018 _ p W m g1 g2 g3 (psum ws / 8) A1 (psum ws / 8).toNat (psum ws / 8).toNat (psum (ws.take i)) (i : Int) w11 _
    unfold view_Fields_L1018
    have hz11 := hM11.size
    refine Br.dec (fun hlt => ?_) (fun hge => ?_)
    · have hil : i < ws.length := by omega
      refine IdxVC.int (hws.ext hE11) (by omega) hlt hm fun a hc => ⟨_, hc, ?_⟩
      rw [getD_cast _ _ hil]
      have hwi := hW ws[i] (List.getElem_mem hil)
      have hsn : psum (ws.take (i + 1)) = psum (ws.take i) + ws[i] := by rw [List.take_succ_eq_append_getElem hil, psum_snoc]
      have hle := psum_take_le hW (i + 1)
      have hp0 := psum_bound (hW.take i)
      obtain ⟨B, hBe⟩ := Int.eq_ofNat_of_zero_le hp0.1
      rw [hBe]
      refine fields_inner (hdc.ext hE11) hds hdB hwi.1 hwi.2 (by omega) (by omega) ?_
      unfold view_Fields_L1042842
      refine Br.no (by omega) ⟨_, _, _, hb1.cell 0, ?_⟩
      refine NewVC.blk fun g4 w15 hg4 hz15 hE15 hb4 => ?_
      have hown15 := own_ext hown hE15
      have hb1' := hb1.ext hE15
      refine AppVC.own Tryz.underlying31 hi3 hz3' hs3 hy3 rfl (by decide) hown15 (by simpa using Cells.of_blk hb4 0) rfl (by simp [Value.oneCell']) (by omega) (by decide) (by omega) fun A3 c3 w16 hown16 hm16 hc3 => ?_
      have hz16 := hm16.size
      have hnb : ¬ some g1 = (Value.slice A2 i c2).ownBlock := fun e => by
        have := own_new hown15 g1 e.symm; omega
      have hb1 := hb1'.mod hm16 hnb
      refine SetVC.blk hb1 (by simp) fun w17 hz17 hm17 hb1 => ?_
      refine ⟨rfl, ⟨i + 1, A3, c3, by omega, ?_, ?_, ?_, hb1, ?_⟩, ?_⟩
      · rw [w64 (n := (i : Int) + 1) (by omega) (by omega), hsn, hBe]; simp
      · refine (((hE11.ext hE15).trans' hm16 fun k hk e => ?_).trans' hm17 fun k hk e => ?_)
        · have := own_new hown15 k e.symm; have := hE5.size; omega
        · omega
      · refine (((hM11.ext hE15).trans' hm16 fun k hk e => ?_).trans' hm17 fun k hk e => e)
        have := own_new hown15 k e.symm; omega
      · rw [List.take_succ_eq_append_getElem hil, fieldsV_snoc _ _ _ _ (hW.take i), List.map_append]
        have := own_mod hown16 hm17 (fun g hg e => by have := own_new hown16 g hg; omega)
        have e2 : (0 + (psum (ws.take i)).toNat) = B := by omega
        rw [e2]
        simpa using this
      · simp only
        rw [w64 (n := (i : Int) + 1) (by omega) (by omega)]; omega
    · have him' : i = m := by omega
      subst him'
      refine ⟨_, _, _, hb1.cell 0, ?_⟩
      have hb2 := hb2.mod hM11 (show ¬ g2 = g1 by omega)
      have hb3 := hb3.mod hM11 (show ¬ g3 = g1 by omega)
      refine SetVC.blk hb1 (by simp) fun w18 hz18 hm18 hb1 => ?_
      have hb2 := hb2.mod hm18 (show ¬ g2 = g1 by omega)
      have hb3 := hb3.mod hm18 (show ¬ g3 = g1 by omega)
      refine SetVC.blk hb2 (by simp) fun w19 hz19 hm19 hb2 => ?_
      have hb1 := hb1.mod hm19 (show ¬ g1 = g2 by omega)
      have hb3 := hb3.mod hm19 (show ¬ g3 = g2 by omega)
      refine SetVC.blk hb3 (by simp) fun w20 hz20 hm20 hb3 => ?_
      have hb1 := hb1.mod hm20 (show ¬ g1 = g3 by omega)
      have hb2 := hb2.mod hm20 (show ¬ g2 = g3 by omega)
      refine leave_ret rfl nofun fields_idle rfl ?_
      refine ⟨_, _, _, hb1.cell 0, _, hb2.cell 0, _, hb3.cell 0, ?_, A2, c2, ?_, ?_⟩
      · exact ((hE11.trans' hm18 fun k hk e => by omega).trans' hm19 fun k hk e => by omega).trans' hm20 fun k hk e => by omega
      · rw [w64 (n := p + psum ws / 8) (by omega) (by omega)]
      · have h1 := own_mod hown hm18 (fun g hg e => by have := own_new hown g hg; omega)
        have h2 := own_mod h1 hm19 (fun g hg e => by have := own_new hown g hg; omega)
        have h3 := own_mod h2 hm20 (fun g hg e => by have := own_new hown g hg; omega)
        rw [← hm, List.take_length] at h3
        rw [← hm]
        exact own_base h3 hE5.size
end Go.Proofs.YthhgbpmihhljdaaGreatDoor
