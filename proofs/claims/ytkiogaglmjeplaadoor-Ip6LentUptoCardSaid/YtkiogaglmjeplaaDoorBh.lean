/- Chapter 7 by value: what options, headers and a datagram of version 6 are written as. -/
import Derived.Test.YtkiogaglmjeplaaDoorBe
import Derived.Test.YtkiogaglmjeplaaDoorBd
import Derived.Test.YtkiogaglmjeplaaDoorBf
namespace Go.Eng
open Go Go.RowKit
def AllZ (l : List Int) : Prop := ∀ x ∈ l, x = 0
instance (l : List Int) : Decidable (AllZ l) := by unfold AllZ; infer_instance
/-- n bytes of padding. -/
def padF : Nat → Nat → List Int
  | 0, _ => []
  | f + 1, n => if n = 0 then [] else if n = 1 then [0] else 1 :: ((min n 257 - 2 : Nat) : Int) :: (List.replicate (min n 257 - 2) 0 ++ padF f (n - min n 257))
def padS (n : Nat) : List Int := padF n n
theorem padF_len : ∀ f n, n ≤ f → (padF f n).length = n
  | 0, n, h => by have : n = 0 := by omega
                  subst this; rfl
  | f + 1, n, h => by
    unfold padF
    split
    · simp; omega
    · split
      · simp; omega
      · simp only [List.length_cons, List.length_append, List.length_replicate]
        rw [padF_len f _ (by omega)]; omega
theorem padF_fuel : ∀ f g n, n ≤ f → n ≤ g → padF f n = padF g n
  | 0, 0, _, _, _ => rfl
  | 0, g + 1, n, h, _ => by have : n = 0 := by omega
                            subst this; simp [padF]
  | f + 1, 0, n, _, h => by have : n = 0 := by omega
                            subst this; simp [padF]
  | f + 1, g + 1, n, h, k => by
    unfold padF
    split
    · rfl
    · split
      · rfl
      · rw [padF_fuel f g _ (by omega) (by omega)]
theorem padS_len (n : Nat) : (padS n).length = n := padF_len n n (Nat.le_refl _)
theorem padS_zero : padS 0 = [] := rfl
theorem padS_one : padS 1 = [0] := rfl
theorem padS_step {n : Nat} (h : 1 < n) : padS n = 1 :: ((min n 257 - 2 : Nat) : Int) :: (List.replicate (min n 257 - 2) 0 ++ padS (n - min n 257)) := by
  obtain ⟨m, rfl⟩ : ∃ m, n = m + 1 := ⟨n - 1, by omega⟩
  show padF (m + 1) (m + 1) = _
  unfold padF
  rw [if_neg (by omega), if_neg (by omega), padF_fuel m (m + 1 - min (m + 1) 257) _ (by omega) (Nat.le_refl _)]
  rfl
theorem bts_nil : Bts [] := fun _ h => by cases h
theorem bts_cons {x : Int} {l : List Int} (h0 : 0 ≤ x) (h1 : x < 256) (h : Bts l) : Bts (x :: l) := fun y hy => by
  rcases List.mem_cons.1 hy with rfl | hy
  · exact ⟨h0, h1⟩
  · exact h y hy
theorem bts_zeros (n : Nat) : Bts (List.replicate n 0) := fun x hx => by rw [(List.mem_replicate.1 hx).2]; omega
theorem padF_bts : ∀ f n, Bts (padF f n)
  | 0, _ => bts_nil
  | f + 1, n => by
    unfold padF
    split
    · exact bts_nil
    · split
      · exact bts_cons (by decide) (by decide) bts_nil
      · exact bts_cons (by decide) (by decide) (bts_cons (by omega) (by omega) ((bts_zeros _).append (padF_bts f _)))
theorem padS_bts (n : Nat) : Bts (padS n) := padF_bts n n
/-! ### Options -/
def optBytes (prev0 : Bool) (o : OptD) : Option (List Int) :=
  if o.kind = 0 then (if o.data = [] ∨ prev0 = true ∨ ¬ AllZ o.data then none else some (padS o.data.length))
  else if o.kind < 2 ∨ 255 < o.kind ∨ 255 < o.data.length then none else some (o.kind :: (o.data.length : Int) :: o.data)
def prevZ (l : List OptD) (i : Nat) : Bool := match i with
  | 0 => false
  | j + 1 => match l[j]? with
    | some o => decide (o.kind = 0)
    | none => false
def optF (l : List OptD) : Nat → Option (List Int)
  | 0 => some []
  | i + 1 => match optF l i, l[i]? with
    | some out, some o => match optBytes (prevZ l i) o with
      | some b => some (out ++ b)
      | none => none
    | _, _ => none
def putOptsS (l : List OptD) : List Int × Int := match optF l l.length with
  | some out => if out.length % 8 ≠ 6 ∨ 2046 < out.length then ([], 75) else (out, 0)
  | none => ([], 75)
theorem optF_none {l : List OptD} {i : Nat} (h : optF l i = none) : ∀ j, i ≤ j → optF l j = none := by
  intro j hij
  obtain ⟨d, rfl⟩ : ∃ d, j = i + d := ⟨j - i, by omega⟩
  clear hij
  induction d with
  | zero => exact h
  | succ d ih =>
    show optF l ((i + d) + 1) = none
    unfold optF; rw [ih]
theorem optF_long {l : List OptD} {i : Nat} {out : List Int} (h : optF l i = some out) : ∀ d, optF l (i + d) = none ∨ ∃ r, optF l (i + d) = some (out ++ r) := by
  intro d
  induction d with
  | zero => exact .inr ⟨[], by simpa using h⟩
  | succ d ih =>
    show optF l ((i + d) + 1) = none ∨ ∃ r, optF l ((i + d) + 1) = some (out ++ r)
    rcases ih with e | ⟨r, e⟩
    · exact .inl (optF_none e _ (by omega))
    · unfold optF
      rw [e]
      cases l[i + d]? with
      | none => exact .inl rfl
      | some o =>
        simp only
        cases optBytes (prevZ l (i + d)) o with
        | none => exact .inl rfl
        | some b => exact .inr ⟨r ++ b, by simp⟩
theorem putOptsS_none {l : List OptD} {i : Nat} (h : optF l i = none) (hi : i ≤ l.length) : putOptsS l = ([], 75) := by
  unfold putOptsS; rw [optF_none h _ hi]
theorem putOptsS_long {l : List OptD} {i : Nat} {out : List Int} (h : optF l i = some out) (hi : i ≤ l.length) (hl : 2046 < out.length) : putOptsS l = ([], 75) := by
  obtain ⟨d, hd⟩ : ∃ d, l.length = i + d := ⟨l.length - i, by omega⟩
  unfold putOptsS
  rw [hd]
  rcases optF_long h d with e | ⟨r, e⟩
  · rw [e]
  · rw [e]; simp only; rw [if_pos (.inr (by rw [List.length_append]; omega))]
theorem optF_step {l : List OptD} {i : Nat} {out : List Int} {o : OptD} (h : optF l i = some out) (ho : l[i]? = some o) : optF l (i + 1) = match optBytes (prevZ l i) o with
      | some b => some (out ++ b)
      | none => none := by
  show (match optF l i, l[i]? with
    | some out, some o => match optBytes (prevZ l i) o with
      | some b => some (out ++ b)
      | none => none
    | _, _ => none) = _
  rw [h, ho]
theorem optBytes_bts {p : Bool} {o : OptD} {b : List Int} (h : optBytes p o = some b) (ho : Bts o.data) : Bts b := by
  unfold optBytes at h
  split at h
  · split at h
    · cases h
    · injection h with h; subst h; exact padS_bts _
  · split at h
    · cases h
    · injection h with h; subst h; exact bts_cons (by omega) (by omega) (bts_cons (by omega) (by omega) ho)
theorem optF_bts {l : List OptD} (hl : ∀ o ∈ l, Bts o.data) : ∀ {i : Nat} {out : List Int}, optF l i = some out → Bts out
  | 0, out, h => by unfold optF at h; injection h with h; subst h; exact bts_nil
  | i + 1, out, h => by
    unfold optF at h
    split at h
    · rename_i a b o h1 h2
      split at h
      · rename_i c h3
        injection h with h; subst h
        exact (optF_bts hl h1).append (optBytes_bts h3 (hl _ (List.mem_of_getElem? h2)))
      · cases h
    · cases h
theorem putOptsS_bts {l : List OptD} (hl : ∀ o ∈ l, Bts o.data) : Bts (putOptsS l).1 := by
  unfold putOptsS
  split
  · rename_i out h
    split
    · exact bts_nil
    · exact optF_bts hl h
  · exact bts_nil
theorem putOptsS_len (l : List OptD) : (putOptsS l).1.length ≤ 2046 := by
  unfold putOptsS
  split
  · split
    · simp
    · simp only; omega
  · simp
def bodyS (x : ExtD) : List Int × Int :=
  if x.kind = 43 then (if x.opts ≠ [] ∨ x.data.length % 8 ≠ 6 ∨ 2046 < x.data.length then ([], 72) else (x.data, 0))
  else if x.kind = 0 ∨ x.kind = 60 then (if x.data ≠ [] then ([], 72) else putOptsS x.opts) else ([], 72)
def thenK (l : List ExtD) (next : Int) (i : Nat) : Int := match l[i + 1]? with
  | some y => y.kind
  | none => next
def hdrF (l : List ExtD) (next : Int) (top : Bool) : Nat → List Int × Int
  | 0 => ([], 0)
  | i + 1 => if (hdrF l next top i).2 ≠ 0 then hdrF l next top i else match l[i]? with
    | none => hdrF l next top i
    | some x => if x.kind = 0 ∧ ¬ (top = true ∧ i = 0) then ([], 73) else if (bodyS x).2 ≠ 0 then ([], (bodyS x).2)
      else ((hdrF l next top i).1 ++ (thenK l next i % 256 :: (((bodyS x).1.length / 8 : Nat) : Int) :: (bodyS x).1), 0)
def headersS (l : List ExtD) (next : Int) (top : Bool) : List Int × Int := if 8 < l.length then ([], 74) else hdrF l next top l.length
theorem bodyS_len (x : ExtD) : (bodyS x).1.length ≤ 2046 := by
  unfold bodyS
  split
  · split
    · simp
    · simp only; omega
  · split
    · split
      · simp
      · exact putOptsS_len _
    · simp
def ExtD.ok (x : ExtD) : Prop := Bts x.data ∧ ∀ o ∈ x.opts, Bts o.data
theorem bodyS_bts {x : ExtD} (hx : x.ok) : Bts (bodyS x).1 := by
  unfold bodyS
  split
  · split
    · exact bts_nil
    · exact hx.1
  · split
    · split
      · exact bts_nil
      · exact putOptsS_bts hx.2
    · exact bts_nil
theorem hdrF_stop {l : List ExtD} {next : Int} {top : Bool} {i : Nat} (h : (hdrF l next top i).2 ≠ 0) : ∀ j, i ≤ j → hdrF l next top j = hdrF l next top i := by
  intro j hij
  obtain ⟨d, rfl⟩ : ∃ d, j = i + d := ⟨j - i, by omega⟩
  clear hij
  induction d with
  | zero => rfl
  | succ d ih =>
    have e : hdrF l next top ((i + d) + 1) = hdrF l next top (i + d) := by
      conv => lhs; unfold hdrF
      rw [if_pos (by rw [ih]; exact h)]
    exact e.trans ih
theorem hdrF_step {l : List ExtD} {next : Int} {top : Bool} {i : Nat} {x : ExtD} (h : (hdrF l next top i).2 = 0) (hx : l[i]? = some x) : hdrF l next top (i + 1) = if x.kind = 0 ∧ ¬ (top = true ∧ i = 0) then ([], 73) else if (bodyS x).2 ≠ 0 then ([], (bodyS x).2)
      else ((hdrF l next top i).1 ++ (thenK l next i % 256 :: (((bodyS x).1.length / 8 : Nat) : Int) :: (bodyS x).1), 0) := by
  show (if (hdrF l next top i).2 ≠ 0 then hdrF l next top i else match l[i]? with
    | none => hdrF l next top i
    | some x => if x.kind = 0 ∧ ¬ (top = true ∧ i = 0) then ([], 73) else if (bodyS x).2 ≠ 0 then ([], (bodyS x).2)
      else ((hdrF l next top i).1 ++ (thenK l next i % 256 :: (((bodyS x).1.length / 8 : Nat) : Int) :: (bodyS x).1), 0)) = _
  rw [if_neg (by omega), hx]
theorem hdrF_stopped {l : List ExtD} {next : Int} {top : Bool} {i : Nat} {r : List Int × Int} (h8 : l.length ≤ 8) (h : hdrF l next top i = r) (hr : r.2 ≠ 0) (hi : i ≤ l.length) : headersS l next top = r := by
  unfold headersS
  rw [if_neg (by omega), hdrF_stop (by rw [h]; exact hr) _ hi, h]
theorem hdrF_bts {l : List ExtD} {next : Int} {top : Bool} (hl : ∀ x ∈ l, x.ok) : ∀ i, Bts (hdrF l next top i).1
  | 0 => bts_nil
  | i + 1 => by
    unfold hdrF
    split
    · exact hdrF_bts hl i
    · split
      · exact hdrF_bts hl i
      · rename_i x hx
        split
        · exact bts_nil
        · split
          · exact bts_nil
          · exact (hdrF_bts hl i).append (bts_cons (by omega) (by omega) (bts_cons (by omega) (by have := bodyS_len x; omega) (bodyS_bts (hl x (List.mem_of_getElem? hx)))))
theorem hdrF_len {l : List ExtD} {next : Int} {top : Bool} : ∀ i, (hdrF l next top i).1.length ≤ 2048 * i
  | 0 => Nat.le_refl _
  | i + 1 => by
    have ih := hdrF_len (l := l) (next := next) (top := top) i
    unfold hdrF
    split
    · omega
    · split
      · omega
      · rename_i x hx
        have := bodyS_len x
        split
        · simp
        · split
          · simp
          · simp only [List.length_append, List.length_cons]; omega
theorem headersS_bts {l : List ExtD} {next : Int} {top : Bool} (hl : ∀ x ∈ l, x.ok) : Bts (headersS l next top).1 := by
  unfold headersS
  split
  · exact bts_nil
  · exact hdrF_bts hl _
theorem headersS_len (l : List ExtD) (next : Int) (top : Bool) : (headersS l next top).1.length ≤ 16384 := by
  unfold headersS
  split
  · simp
  · have := hdrF_len (l := l) (next := next) (top := top) l.length; omega
def fitsS (f : FragV) (n : Nat) : Bool := decide (¬ ((f.more = true ∧ (n = 0 ∨ n % 8 ≠ 0)) ∨ (0 < f.off ∧ n = 0)) ∧ f.off + n ≤ 65535)
def upperS (k : Int) : Bool := decide (k ≠ 0 ∧ k ≠ 43 ∧ k ≠ 44 ∧ k ≠ 60)
def fragE (h : Ip6D) : Int :=
  if h.frag.has = true then (if h.frag.id < 0 ∨ 4294967295 < h.frag.id ∨ h.frag.off < 0 ∨ h.frag.off % 8 ≠ 0 ∨ 65528 < h.frag.off ∨ fitsS h.frag h.data.length = false then 76 else 0)
  else if h.frag.more = true ∨ h.frag.id ≠ 0 ∨ h.frag.off ≠ 0 then 76 else if upperS h.next = true then 0 else 72
def b2i (b : Bool) : Int := if b = true then 1 else 0
def four (n : Int) : List Int := [n / 16777216, n / 65536 % 256, n / 256 % 256, n % 256]
def fragB (h : Ip6D) : List Int :=
  if h.frag.has = true then [h.next, 0, (h.frag.off + b2i h.frag.more) / 256, (h.frag.off + b2i h.frag.more) % 256] ++ four h.frag.id else []
def behindK (h : Ip6D) : Int := if h.frag.has = true then 44 else h.next
def firstK (h : Ip6D) : Int := match h.exts with
  | x :: _ => x.kind
  | [] => behindK h
def fieldBad (h : Ip6D) : Prop := h.cls < 0 ∨ 255 < h.cls ∨ h.flow < 0 ∨ 1048575 < h.flow ∨ h.hop < 0 ∨ 255 < h.hop ∨ h.src.v ≠ 6 ∨ h.dst.v ≠ 6 ∨ h.next < 0 ∨ 255 < h.next
instance (h : Ip6D) : Decidable (fieldBad h) := by unfold fieldBad; infer_instance
def head6 (h : Ip6D) (n : Nat) : List Int := [96 + h.cls / 16, h.cls % 16 * 16 + h.flow / 65536, h.flow / 256 % 256, h.flow % 256, (n : Int) / 256, (n : Int) % 256, firstK h, h.hop]
def bodyB (h : Ip6D) : List Int := (headersS h.exts (behindK h) true).1 ++ (fragB h ++ h.data)
def ser6S (h : Ip6D) : List Int × Int :=
  if fieldBad h then ([], 78) else if (headersS h.exts (behindK h) true).2 ≠ 0 then ([], (headersS h.exts (behindK h) true).2)
  else if fragE h ≠ 0 then ([], fragE h) else if 65535 < 40 + (bodyB h).length then ([], 2)
  else (head6 h (bodyB h).length ++ (h.src.bytes ++ (h.dst.bytes ++ bodyB h)), 0)
theorem ser6S_cases (h : Ip6D) : (ser6S h).2 ≠ 0 ∧ (ser6S h).1 = [] ∨ (ser6S h).2 = 0 ∧ ¬ fieldBad h ∧ (headersS h.exts (behindK h) true).2 = 0 ∧ fragE h = 0 ∧ 40 + (bodyB h).length ≤ 65535 ∧ (ser6S h).1 = head6 h (bodyB h).length ++ (h.src.bytes ++ (h.dst.bytes ++ bodyB h)) := by
  unfold ser6S
  split
  · exact .inl ⟨by decide, rfl⟩
  · rename_i h1
    split
    · rename_i h2; exact .inl ⟨h2, rfl⟩
    · rename_i h2
      split
      · rename_i h3; exact .inl ⟨h3, rfl⟩
      · rename_i h3
        split
        · exact .inl ⟨by decide, rfl⟩
        · rename_i h4; exact .inr ⟨rfl, h1, by omega, by omega, by omega, rfl⟩
theorem ser6S_len (h : Ip6D) : (ser6S h).1.length ≤ 65535 := by
  rcases ser6S_cases h with ⟨_, e⟩ | ⟨_, _, _, _, h4, e⟩
  · rw [e]; simp
  · rw [e]
    simp only [List.length_append]
    have : (head6 h (bodyB h).length).length = 8 := rfl
    have : h.src.bytes.length = 16 := rfl
    have : h.dst.bytes.length = 16 := rfl
    omega
end Go.Eng
/- Bit fields as numbers out of bytes: the headers of versions 4 and 6. It speaks of any program. -/
namespace Go.Eng
theorem fieldV_sum (f : Nat → Int) (p a : Nat) : ∀ b, fieldV f p (a + b) = fieldV f p a * 2 ^ b + fieldV f (p + a) b
  | 0 => by simp [fieldV]
  | b + 1 => by
    rw [← Nat.add_assoc]
    simp only [fieldV]
    have e : fieldV f p a * 2 ^ (b + 1) = 2 * (fieldV f p a * 2 ^ b) := by
      rw [Int.pow_succ, ← Int.mul_assoc, Int.mul_comm _ 2]
    rw [fieldV_sum f p a b, e, Nat.add_assoc p a b]
    omega
/-- A field within a byte. -/
theorem fieldV_in {bs : List Int} (hB : Bts bs) (q s : Nat) : ∀ k, s + k ≤ 8 → fieldV (bitAt bs) (8 * q + s) k = bs.getD q 0 / 2 ^ (8 - s - k) % 2 ^ k
  | 0, _ => by simp [fieldV, Int.emod_one]
  | k + 1, h => by
    simp only [fieldV]
    rw [fieldV_in hB q s k (by omega)]
    have hx : ∃ X : Nat, bs.getD q 0 = (X : Int) := by
      by_cases hq : q < bs.length
      · have := hB.at hq
        have e : bs.getD q 0 = bs[q] := by simp [hq]
        exact ⟨bs[q].toNat, by rw [e]; omega⟩
      · exact ⟨0, by simp [List.getD_eq_getElem?_getD, List.getElem?_eq_none (by omega : bs.length ≤ q)]⟩
    obtain ⟨X, hX⟩ := hx
    have hb : bitAt bs (8 * q + s + k) = bs.getD q 0 / 2 ^ (7 - (s + k)) % 2 := by
      unfold bitAt
      rw [show (8 * q + s + k) / 8 = q by omega, show (8 * q + s + k) % 8 = s + k by omega]
    rw [hb, hX]
    obtain ⟨m, hm⟩ : ∃ m, 7 - (s + k) = m := ⟨_, rfl⟩
    rw [show 8 - s - k = m + 1 by omega, show 8 - s - (k + 1) = m by omega, hm]
    have e1 : ((X : Int) / 2 ^ (m + 1)) = ((X / 2 ^ m / 2 : Nat) : Int) := by
      rw [Nat.div_div_eq_div_mul, ← Nat.pow_succ]; simp
    have e2 : ((X : Int) / 2 ^ m) = ((X / 2 ^ m : Nat) : Int) := by simp
    rw [e1, e2]
    generalize X / 2 ^ m = Y
    have := Nat.mod_mul (x := Y) (a := 2) (b := 2 ^ k)
    have e3 : (2 : Int) ^ k = ((2 ^ k : Nat) : Int) := by simp
    have e4 : (2 : Int) ^ (k + 1) = ((2 * 2 ^ k : Nat) : Int) := by rw [Int.pow_succ]; simp [Int.mul_comm]
    rw [e3, e4, ← Int.natCast_emod, ← Int.natCast_emod, this]
    simp
    omega
theorem getD_bts {bs : List Int} (hB : Bts bs) (q : Nat) : 0 ≤ bs.getD q 0 ∧ bs.getD q 0 < 256 := by
  by_cases hq : q < bs.length
  · have e : bs.getD q 0 = bs[q] := by simp [hq]
    rw [e]; exact hB.at hq
  · rw [List.getD_eq_getElem?_getD, List.getElem?_eq_none (by omega : bs.length ≤ q)]; decide
theorem fieldV_whole {bs : List Int} (hB : Bts bs) (q : Nat) : fieldV (bitAt bs) (8 * q) 8 = bs.getD q 0 := by
  have := fieldV_in hB q 0 8 (by decide)
  have hb := getD_bts hB q
  rw [Nat.add_zero] at this
  rw [this]
  simp only [Nat.sub_zero, Nat.sub_self, Int.pow_zero, Int.ediv_one, Int.reducePow]
  omega
theorem fieldV_two {bs : List Int} (hB : Bts bs) (q : Nat) : fieldV (bitAt bs) (8 * q) 16 = bs.getD q 0 * 256 + bs.getD (q + 1) 0 := by
  rw [show 16 = 8 + 8 from rfl, fieldV_sum, fieldV_whole hB, show 8 * q + 8 = 8 * (q + 1) by omega, fieldV_whole hB]; rfl
theorem fieldV_four {bs : List Int} (hB : Bts bs) (q : Nat) : fieldV (bitAt bs) (8 * q) 32 = ((bs.getD q 0 * 256 + bs.getD (q + 1) 0) * 256 + bs.getD (q + 2) 0) * 256 + bs.getD (q + 3) 0 := by
  rw [show 32 = 16 + 16 from rfl, fieldV_sum, fieldV_two hB, show 8 * q + 16 = 8 * (q + 2) by omega, fieldV_two hB, show q + 2 + 1 = q + 3 from rfl]
  simp only [Int.reducePow]
  omega
/-! ### Version 6 -/
def ws6 : List Int := [4, 8, 20, 16, 8, 8]
def wsf : List Int := [8, 8, 13, 2, 1, 32]
theorem ws6_ok : widthsOk ws6 := ⟨by decide, by intro x hx; simp [ws6] at hx; omega, by decide⟩
theorem wsf_ok : widthsOk wsf := ⟨by decide, by intro x hx; simp [wsf] at hx; omega, by decide⟩
theorem ws6_fields {bs : List Int} (hB : Bts bs) : fieldsV (bitAt bs) 0 ws6 = [bs.getD 0 0 / 16, bs.getD 0 0 % 16 * 16 + bs.getD 1 0 / 16, (bs.getD 1 0 % 16 * 256 + bs.getD 2 0) * 256 + bs.getD 3 0, bs.getD 4 0 * 256 + bs.getD 5 0, bs.getD 6 0, bs.getD 7 0] := by
  have b0 := getD_bts hB 0
  have b1 := getD_bts hB 1
  have h0 := fieldV_in hB 0 0 4 (by decide)
  have h1 := fieldV_in hB 0 4 4 (by decide)
  have h2 := fieldV_in hB 1 0 4 (by decide)
  have h3 := fieldV_in hB 1 4 4 (by decide)
  have h4 := fieldV_two hB 2
  have h5 := fieldV_two hB 4
  have h6 := fieldV_whole hB 6
  have h7 := fieldV_whole hB 7
  have s1 := fieldV_sum (bitAt bs) 4 4 4
  have s2 := fieldV_sum (bitAt bs) 12 4 16
  simp only [Int.reducePow, Nat.reduceMul, Nat.reduceAdd, Nat.reduceSub, Nat.zero_add, Nat.mul_zero] at h0 h1 h2 h3 h4 h5 h6 h7 s1 s2
  simp only [ws6, fieldsV, show (4 : Int).toNat = 4 from rfl, show (8 : Int).toNat = 8 from rfl, show (20 : Int).toNat = 20 from rfl, show (16 : Int).toNat = 16 from rfl, Nat.zero_add, Nat.reduceAdd, List.cons.injEq, and_true]
  rw [h0, s1, h1, h2, s2, h3, h4, h5, h6, h7]
  omega
theorem wsf_fields {bs : List Int} (hB : Bts bs) : fieldsV (bitAt bs) 0 wsf = [bs.getD 0 0, bs.getD 1 0, bs.getD 2 0 * 32 + bs.getD 3 0 / 8, bs.getD 3 0 / 2 % 4, bs.getD 3 0 % 2, ((bs.getD 4 0 * 256 + bs.getD 5 0) * 256 + bs.getD 6 0) * 256 + bs.getD 7 0] := by
  have b3 := getD_bts hB 3
  have h0 := fieldV_whole hB 0
  have h1 := fieldV_whole hB 1
  have h2 := fieldV_whole hB 2
  have h3 := fieldV_in hB 3 0 5 (by decide)
  have h4 := fieldV_in hB 3 5 2 (by decide)
  have h5 := fieldV_in hB 3 7 1 (by decide)
  have h6 := fieldV_four hB 4
  have s1 := fieldV_sum (bitAt bs) 16 8 5
  simp only [Int.reducePow, Nat.reduceMul, Nat.reduceAdd, Nat.reduceSub, Nat.mul_zero] at h0 h1 h2 h3 h4 h5 h6 s1
  simp only [wsf, fieldsV, show (13 : Int).toNat = 13 from rfl, show (8 : Int).toNat = 8 from rfl, show (2 : Int).toNat = 2 from rfl, show (1 : Int).toNat = 1 from rfl, show (32 : Int).toNat = 32 from rfl, Nat.zero_add, Nat.reduceAdd, List.cons.injEq, and_true]
  rw [h0, h1, s1, h2, h3, h4, h5, h6]
  omega
theorem list8 {ds : List Int} (h : ds.length = 8) : ∃ a b c d e f g i, ds = [a, b, c, d, e, f, g, i] := by
  match ds, h with
  | [a, b, c, d, e, f, g, i], _ => exact ⟨a, b, c, d, e, f, g, i, rfl⟩
theorem packed6 {cls flow n first hop : Int} {ds : List Int} (h : Packed ws6 [6, cls, flow, n, first, hop] ds) :
    ds = [96 + cls / 16, cls % 16 * 16 + flow / 65536, flow / 256 % 256, flow % 256, n / 256, n % 256, first, hop] := by
  have hl : ds.length = 8 := by have := h.len; have e : psum ws6 = 64 := by decide
                                omega
  have hB := h.bts
  have hv := h.vals
  rw [ws6_fields hB] at hv
  obtain ⟨b0, b1, b2, b3, b4, b5, b6, b7, rfl⟩ := list8 hl
  have q0 := hB b0 (by simp)
  have q1 := hB b1 (by simp)
  have q2 := hB b2 (by simp)
  have q3 := hB b3 (by simp)
  have q4 := hB b4 (by simp)
  have q5 := hB b5 (by simp)
  simp only [List.getD_cons_zero, List.getD_cons_succ, List.cons.injEq, and_true] at hv
  simp only [List.cons.injEq, and_true]
  omega
theorem packedF {next off more id : Int} {ds : List Int} (hm : 0 ≤ more ∧ more ≤ 1) (ho : off % 8 = 0) (h : Packed wsf [next, 0, off / 8, 0, more, id] ds) :
    ds = [next, 0, (off + more) / 256, (off + more) % 256] ++ four id := by
  have hl : ds.length = 8 := by have := h.len; have e : psum wsf = 64 := by decide
                                omega
  have hB := h.bts
  have hv := h.vals
  rw [wsf_fields hB] at hv
  obtain ⟨b0, b1, b2, b3, b4, b5, b6, b7, rfl⟩ := list8 hl
  have q0 := hB b0 (by simp)
  have q1 := hB b1 (by simp)
  have q2 := hB b2 (by simp)
  have q3 := hB b3 (by simp)
  have q4 := hB b4 (by simp)
  have q5 := hB b5 (by simp)
  have q6 := hB b6 (by simp)
  have q7 := hB b7 (by simp)
  simp only [List.getD_cons_zero, List.getD_cons_succ, List.cons.injEq, and_true] at hv
  simp only [four, List.cons_append, List.nil_append, List.cons.injEq, and_true]
  omega
end Go.Eng
/- Chapter 6 by value: what options and a datagram of version 4 are written as. -/
namespace Go.Eng
open Go Go.RowKit
def opt4B (o : OptD) : Option (List Int) := if o.kind < 2 ∨ 255 < o.kind ∨ 38 < o.data.length then none else some (o.kind :: ((o.data.length + 2 : Nat) : Int) :: o.data)
def opt4F (l : List OptD) : Nat → Option (List Int)
  | 0 => some []
  | i + 1 => match opt4F l i, l[i]? with
    | some out, some o => match opt4B o with
      | some b => some (out ++ b)
      | none => none
    | _, _ => none
def pad4 (n : Nat) : Nat := (4 - n % 4) % 4
def putOpts4 (l : List OptD) : List Int × Int := match opt4F l l.length with
  | some out => if 40 < out.length then ([], 65) else (out ++ List.replicate (pad4 out.length) 0, 0)
  | none => ([], 65)
end Go.Eng
/- Chapter 13 by value: where the parts stand, and what the pieces are. -/
namespace Go.Eng
open Go Go.RowKit
def room (a b mtu p : Nat) : Nat := mtu - (if p = 0 then a else b)
/-- Where the parts of n bytes stand, and how long they are: behind a head of a bytes the first, of b bytes the others. -/
def pieces (a b mtu n : Nat) : Nat → Nat → List (Nat × Nat)
  | 0, _ => []
  | f + 1, p => if n - p ≤ room a b mtu p then [(p, n - p)] else (p, room a b mtu p / 8 * 8) :: pieces a b mtu n f (p + room a b mtu p / 8 * 8)
section
variable {a b mtu n : Nat}
def parts (a b mtu n p : Nat) : List (Nat × Nat) := pieces a b mtu n (n - p + 1) p
end
def hi (o : OptD) : Bool := decide (128 ≤ o.kind)
def hd4 (d : Ip4D) : Nat := 20 + (putOpts4 d.opts).1.length
def hl (l : List ExtD) : Nat := (l.map fun x => 2 + (bodyS x).1.length).sum
theorem hl_append (a b : List ExtD) : hl (a ++ b) = hl a + hl b := by unfold hl; simp
def hdrOk (l : List ExtD) (top : Bool) (i : Nat) : Prop := ∀ j x, j < i → l[j]? = some x → ¬ (x.kind = 0 ∧ ¬ (top = true ∧ j = 0)) ∧ (bodyS x).2 = 0
theorem hdrF_ok {l : List ExtD} {next : Int} {top : Bool} : ∀ {i : Nat}, i ≤ l.length → (hdrF l next top i).2 = 0 → hdrOk l top i ∧ (hdrF l next top i).1.length = hl (l.take i)
  | 0, _, _ => ⟨fun j x h => by omega, by simp [hdrF, hl]⟩
  | i + 1, h, he => by
    have hx : l[i]? = some l[i] := List.getElem?_eq_getElem (by omega)
    have h0 : (hdrF l next top i).2 = 0 := Classical.byContradiction fun hne => by rw [hdrF_stop hne _ (Nat.le_succ i)] at he; exact hne he
    obtain ⟨ih1, ih2⟩ := hdrF_ok (Nat.le_of_succ_le h) h0
    rw [hdrF_step h0 hx] at he ⊢
    split at he
    · cases he
    · rename_i h1
      split at he
      · rename_i h2; exact absurd he h2
      · rename_i h2
        rw [if_neg h1, if_neg h2]
        refine ⟨fun j x hj hjx => ?_, ?_⟩
        · by_cases e : j = i
          · subst e; rw [hx] at hjx; cases hjx; exact ⟨h1, by omega⟩
          · exact ih1 j x (by omega) hjx
        · rw [List.take_succ_eq_append_getElem (by omega), hl_append]
          simp only [List.length_append, List.length_cons, ih2, hl, List.map_cons, List.map_nil, List.sum_cons, List.sum_nil]
          omega
theorem headersS_ok {l : List ExtD} {next : Int} {top : Bool} (h : (headersS l next top).2 = 0) : l.length ≤ 8 ∧ hdrOk l top l.length ∧ (headersS l next top).1.length = hl l := by
  unfold headersS at h ⊢
  split at h
  · cases h
  · rename_i h1
    rw [if_neg h1]
    obtain ⟨h2, h3⟩ := hdrF_ok (Nat.le_refl _) h
    rw [List.take_length] at h3
    exact ⟨by omega, h2, h3⟩
end Go.Eng
/- Chapter 7 by value: what bytes are read as. -/
namespace Go.Eng
open Go Go.RowKit
/-- An option that was read: its kind, where its data lie, how many they are; kind 0: a run of padding. -/
structure OP where
  kind : Int
  p : Nat
  n : Nat
def bpart (b : List Int) (p n : Nat) : List Int := (b.drop p).take n
theorem bpart_len {b : List Int} {p n : Nat} (h : p + n ≤ b.length) : (bpart b p n).length = n := by
  unfold bpart; rw [List.length_take, List.length_drop]; omega
def OP.d (b : List Int) (o : OP) : OptD := if o.kind = 0 then ⟨0, List.replicate o.n 0⟩ else ⟨o.kind, bpart b o.p o.n⟩
def flushS (run : Nat) : List OP := if run = 0 then [] else [⟨0, 0, run⟩]
/-- What the bytes from p on hold, so many bytes of padding being behind. -/
def optsS (b : List Int) (p run : Nat) : Option (List OP) :=
  if _h : b.length ≤ p then some (flushS run)
  else if b.getD p 0 = 0 then optsS b (p + 1) (run + 1)
  else if b.length < p + 2 + (b.getD (p + 1) 0).toNat then none
  else if b.getD p 0 = 1 then optsS b (p + 2 + (b.getD (p + 1) 0).toNat) (run + 2 + (b.getD (p + 1) 0).toNat)
  else (optsS b (p + 2 + (b.getD (p + 1) 0).toNat) 0).map fun l => flushS run ++ ⟨b.getD p 0, p + 2, (b.getD (p + 1) 0).toNat⟩ :: l
termination_by b.length - p
theorem optsS_end {b : List Int} {p run : Nat} (h : b.length ≤ p) : optsS b p run = some (flushS run) := by
  rw [optsS, dif_pos h]
theorem optsS_zero {b : List Int} {p run : Nat} (h : p < b.length) (h0 : b.getD p 0 = 0) : optsS b p run = optsS b (p + 1) (run + 1) := by
  rw [optsS, dif_neg (by omega), if_pos h0]
theorem optsS_none {b : List Int} {p run : Nat} (h : p < b.length) (h0 : b.getD p 0 ≠ 0) (h1 : b.length < p + 2 + (b.getD (p + 1) 0).toNat) : optsS b p run = none := by
  rw [optsS, dif_neg (by omega), if_neg h0, if_pos h1]
theorem optsS_pad {b : List Int} {p run : Nat} (h0 : b.getD p 0 = 1) (h1 : p + 2 + (b.getD (p + 1) 0).toNat ≤ b.length) : optsS b p run = optsS b (p + 2 + (b.getD (p + 1) 0).toNat) (run + 2 + (b.getD (p + 1) 0).toNat) := by
  rw [optsS, dif_neg (by omega), if_neg (by omega), if_neg (by omega), if_pos h0]
theorem optsS_opt {b : List Int} {p run : Nat} (h0 : b.getD p 0 ≠ 0) (h1 : b.getD p 0 ≠ 1) (h2 : p + 2 + (b.getD (p + 1) 0).toNat ≤ b.length) :
    optsS b p run = (optsS b (p + 2 + (b.getD (p + 1) 0).toNat) 0).map fun l => flushS run ++ ⟨b.getD p 0, p + 2, (b.getD (p + 1) 0).toNat⟩ :: l := by
  rw [optsS, dif_neg (by omega), if_neg h0, if_neg (by omega), if_neg h1]
/-- Where no padding begins, what is behind is a run of its own. -/
theorem optsS_flush {b : List Int} {p run : Nat} (h : b.length ≤ p ∨ (b.getD p 0 ≠ 0 ∧ b.getD p 0 ≠ 1)) : optsS b p run = (optsS b p 0).map (flushS run ++ ·) := by
  rcases Nat.lt_or_ge p b.length with hp | hp
  · obtain ⟨h0, h1⟩ : b.getD p 0 ≠ 0 ∧ b.getD p 0 ≠ 1 := h.resolve_left (by omega)
    rcases Nat.lt_or_ge b.length (p + 2 + (b.getD (p + 1) 0).toNat) with h2 | h2
    · rw [optsS_none hp h0 h2, optsS_none hp h0 h2]; rfl
    · rw [optsS_opt h0 h1 h2, optsS_opt h0 h1 h2, Option.map_map]
      congr 1
  · rw [optsS_end hp, optsS_end hp]
    simp [flushS]
theorem flushS_d (b : List Int) (run : Nat) : (flushS run).map (OP.d b) = if run = 0 then [] else [⟨0, List.replicate run 0⟩] := by
  unfold flushS
  split
  · rfl
  · simp [OP.d]
/-- What is read lies within. -/
def OP.inside (b : List Int) (o : OP) : Prop := (o.kind = 0 ∧ 0 < o.n ∧ o.n ≤ b.length) ∨ (2 ≤ o.kind ∧ o.kind ≤ 255 ∧ o.p + o.n ≤ b.length ∧ o.n ≤ 255)
theorem getD_byte {b : List Int} (hB : Bts b) (p : Nat) : 0 ≤ b.getD p 0 ∧ b.getD p 0 ≤ 255 := by
  rw [List.getD_eq_getElem?_getD]
  rcases Nat.lt_or_ge p b.length with h | h
  · rw [List.getElem?_eq_getElem h]; have := hB _ (List.getElem_mem h); simp only [Option.getD_some]; omega
  · rw [List.getElem?_eq_none h]; simp
theorem flushS_inside {b : List Int} {run : Nat} (h : run ≤ b.length) : ∀ o ∈ flushS run, o.inside b := by
  unfold flushS
  split
  · intro o ho; cases ho
  · intro o ho; simp at ho; subst ho; exact .inl ⟨rfl, by show 0 < run; omega, h⟩
theorem optsS_inside {b : List Int} (hB : Bts b) : ∀ (k p run : Nat) (l : List OP), b.length - p ≤ k → run ≤ p → p ≤ b.length → optsS b p run = some l → ∀ o ∈ l, o.inside b := by
  intro k
  induction k with
  | zero =>
    intro p run l hk hr hp h
    rw [optsS_end (by omega)] at h
    injection h with h; subst h
    exact flushS_inside (by omega)
  | succ k ih =>
    intro p run l hk hr hp h
    rcases Nat.lt_or_ge p b.length with hlt | hge
    · have b0 := getD_byte hB p
      have b1 := getD_byte hB (p + 1)
      by_cases h0 : b.getD p 0 = 0
      · rw [optsS_zero hlt h0] at h
        exact ih _ _ _ (by omega) (by omega) (by omega) h
      · rcases Nat.lt_or_ge b.length (p + 2 + (b.getD (p + 1) 0).toNat) with h2 | h2
        · rw [optsS_none hlt h0 h2] at h; cases h
        · by_cases h1 : b.getD p 0 = 1
          · rw [optsS_pad h1 h2] at h
            exact ih _ _ _ (by omega) (by omega) (by omega) h
          · rw [optsS_opt h0 h1 h2] at h
            cases hr2 : optsS b (p + 2 + (b.getD (p + 1) 0).toNat) 0 with
            | none => rw [hr2] at h; cases h
            | some m =>
              rw [hr2] at h
              injection h with h; subst h
              intro o ho
              rcases List.mem_append.1 ho with ho | ho
              · exact flushS_inside (by omega) o ho
              · rcases List.mem_cons.1 ho with rfl | ho
                · exact .inr ⟨by show 2 ≤ b.getD p 0; omega, b0.2, h2, by show (b.getD (p + 1) 0).toNat ≤ 255; omega⟩
                · exact ih _ _ _ (by omega) (by omega) (by omega) hr2 o ho
    · rw [optsS_end hge] at h
      injection h with h; subst h
      exact flushS_inside (by omega)
/-! ### Headers -/
/-- A header that was read: its kind, its options, where its bytes lie, how many they are. -/
structure EP where
  kind : Int
  opts : List OP
  p : Nat
  n : Nat
def EP.d (b : List Int) (x : EP) : ExtD := ⟨x.kind, x.opts.map (OP.d (bpart b x.p x.n)), if x.kind = 43 then bpart b x.p x.n else []⟩
def isH (k : Int) : Prop := k = 0 ∨ k = 43 ∨ k = 60
instance (k : Int) : Decidable (isH k) := by unfold isH; infer_instance
def inS (k : Int) (b : List Int) (p n : Nat) : Option (List OP) := if k = 43 then some [] else optsS (bpart b p n) 0 0
/-- How many bytes a header has behind its first two. -/
def lenH (b : List Int) (p : Nat) : Nat := 8 * (b.getD (p + 1) 0).toNat + 6
def hdrsS (b : List Int) (top : Bool) (k : Int) (p i : Nat) : Except Int (List EP × Int × Nat) :=
  if isH k then
    if k = 0 ∧ (top = false ∨ 0 < i) then .error 73
    else if _h : 8 ≤ i then .error 74
    else if b.length < p + 8 ∨ b.length < p + 2 + lenH b p then .error 72
    else match inS k b (p + 2) (lenH b p) with
      | none => .error 75
      | some os => (hdrsS b top (b.getD p 0) (p + 2 + lenH b p) (i + 1)).map fun r => (⟨k, os, p + 2, lenH b p⟩ :: r.1, r.2)
  else .ok ([], k, p)
termination_by 8 - i
section
variable {b : List Int} {top : Bool} {k : Int} {p i : Nat}
theorem hdrsS_end (h : ¬ isH k) : hdrsS b top k p i = .ok ([], k, p) := by rw [hdrsS, if_neg h]
theorem hdrsS_first (h : isH k) (h1 : k = 0 ∧ (top = false ∨ 0 < i)) : hdrsS b top k p i = .error 73 := by rw [hdrsS, if_pos h, if_pos h1]
theorem hdrsS_many (h : isH k) (h1 : ¬ (k = 0 ∧ (top = false ∨ 0 < i))) (h2 : 8 ≤ i) : hdrsS b top k p i = .error 74 := by rw [hdrsS, if_pos h, if_neg h1, dif_pos h2]
theorem hdrsS_short (h : isH k) (h1 : ¬ (k = 0 ∧ (top = false ∨ 0 < i))) (h2 : i < 8) (h3 : b.length < p + 8 ∨ b.length < p + 2 + lenH b p) : hdrsS b top k p i = .error 72 := by
  rw [hdrsS, if_pos h, if_neg h1, dif_neg (by omega), if_pos h3]
theorem hdrsS_opts (h : isH k) (h1 : ¬ (k = 0 ∧ (top = false ∨ 0 < i))) (h2 : i < 8) (h3 : p + 2 + lenH b p ≤ b.length) (h4 : inS k b (p + 2) (lenH b p) = none) : hdrsS b top k p i = .error 75 := by
  have : p + 8 ≤ p + 2 + lenH b p := by unfold lenH; omega
  rw [hdrsS, if_pos h, if_neg h1, dif_neg (by omega), if_neg (by omega), h4]
theorem hdrsS_step (h : isH k) (h1 : ¬ (k = 0 ∧ (top = false ∨ 0 < i))) (h2 : i < 8) (h3 : p + 2 + lenH b p ≤ b.length) {os : List OP} (h4 : inS k b (p + 2) (lenH b p) = some os) :
    hdrsS b top k p i = (hdrsS b top (b.getD p 0) (p + 2 + lenH b p) (i + 1)).map fun r => (⟨k, os, p + 2, lenH b p⟩ :: r.1, r.2) := by
  have : p + 8 ≤ p + 2 + lenH b p := by unfold lenH; omega
  rw [hdrsS, if_pos h, if_neg h1, dif_neg (by omega), if_neg (by omega), h4]
end
/-- Laid behind others that were read. -/
def behind (l : List EP) (r : Except Int (List EP × Int × Nat)) : Except Int (List EP × Int × Nat) := r.map fun r => (l ++ r.1, r.2)
theorem behind_nil (r : Except Int (List EP × Int × Nat)) : behind [] r = r := by
  cases r <;> rfl
theorem behind_map (l : List EP) (x : EP) (r : Except Int (List EP × Int × Nat)) : behind l (r.map fun r => (x :: r.1, r.2)) = behind (l ++ [x]) r := by
  cases r <;> simp [behind, Except.map]
def EP.inside (b : List Int) (x : EP) : Prop := isH x.kind ∧ x.p + x.n ≤ b.length ∧ x.n ≤ 2046 ∧ x.n % 8 = 6 ∧ inS x.kind b x.p x.n = some x.opts
theorem hdrsS_inside {b : List Int} (hB : Bts b) {top : Bool} : ∀ (m i : Nat) (k : Int) (p : Nat) (l : List EP) (k' : Int) (p' : Nat), 8 - i ≤ m → p ≤ b.length → hdrsS b top k p i = .ok (l, k', p') → (∀ x ∈ l, x.inside b) ∧ p' ≤ b.length ∧ p ≤ p' ∧ ¬ isH k' ∧ (l.length + i ≤ 8 ∨ l = []) ∧ (0 ≤ k ∧ k ≤ 255 → 0 ≤ k' ∧ k' ≤ 255) := by
  intro m
  induction m with
  | zero =>
    intro i k p l k' p' hm hp h
    by_cases hk : isH k
    · by_cases h1 : k = 0 ∧ (top = false ∨ 0 < i)
      · rw [hdrsS_first hk h1] at h; cases h
      · rw [hdrsS_many hk h1 (by omega)] at h; cases h
    · rw [hdrsS_end hk] at h
      cases h
      exact ⟨(fun x hx => by cases hx), hp, Nat.le_refl _, hk, .inr rfl, id⟩
  | succ m ih =>
    intro i k p l k' p' hm hp h
    by_cases hk : isH k
    · by_cases h1 : k = 0 ∧ (top = false ∨ 0 < i)
      · rw [hdrsS_first hk h1] at h; cases h
      · rcases Nat.lt_or_ge i 8 with h2 | h2
        · by_cases h3 : b.length < p + 8 ∨ b.length < p + 2 + lenH b p
          · rw [hdrsS_short hk h1 h2 h3] at h; cases h
          · cases h4 : inS k b (p + 2) (lenH b p) with
            | none => rw [hdrsS_opts hk h1 h2 (by omega) h4] at h; cases h
            | some os =>
              rw [hdrsS_step hk h1 h2 (by omega) h4] at h
              cases hr : hdrsS b top (b.getD p 0) (p + 2 + lenH b p) (i + 1) with
              | error e => rw [hr] at h; cases h
              | ok r =>
                obtain ⟨l2, k2, p2⟩ := r
                rw [hr] at h
                cases h
                obtain ⟨i1, i2, i3, i4, i5, i6⟩ := ih (i + 1) _ _ l2 k' p' (by omega) (by omega) hr
                refine ⟨fun x hx => ?_, i2, by omega, i4, .inl ?_, fun _ => i6 (getD_byte hB p)⟩
                · rcases List.mem_cons.1 hx with rfl | hx
                  · have := getD_byte hB (p + 1)
                    exact ⟨hk, by show p + 2 + lenH b p ≤ b.length; omega, by show lenH b p ≤ 2046; unfold lenH; omega, by show lenH b p % 8 = 6; unfold lenH; omega, h4⟩
                  · exact i1 x hx
                · rcases i5 with e | rfl
                  · simp only [List.length_cons]; omega
                  · simp only [List.length_cons, List.length_nil]; omega
        · rw [hdrsS_many hk h1 h2] at h; cases h
    · rw [hdrsS_end hk] at h
      cases h
      exact ⟨(fun x hx => by cases hx), hp, Nat.le_refl _, hk, .inr rfl, id⟩
def ipOf (v : Int) (l : List Int) : IPV := ⟨v, l.getD 0 0, l.getD 1 0, l.getD 2 0, l.getD 3 0, l.getD 4 0, l.getD 5 0, l.getD 6 0, l.getD 7 0, l.getD 8 0, l.getD 9 0, l.getD 10 0, l.getD 11 0, l.getD 12 0, l.getD 13 0, l.getD 14 0, l.getD 15 0⟩
/-- What is behind the forty bytes: headers, Frag, what is next, where the data are. -/
structure Tail6 where
  exts : List EP
  frag : FragV
  next : Int
  p : Nat
def fragAt (b : List Int) (p : Nat) : FragV := ⟨true, decide (b.getD (p + 3) 0 % 2 = 1), ((b.getD (p + 4) 0 * 256 + b.getD (p + 5) 0) * 256 + b.getD (p + 6) 0) * 256 + b.getD (p + 7) 0, (b.getD (p + 2) 0 * 32 + b.getD (p + 3) 0 / 8) * 8⟩
def walkS (b : List Int) (k : Int) (inner : Bool) : Except Int Tail6 :=
  match hdrsS b (!inner) k 0 0 with
  | .error e => .error e
  | .ok (l, k, p) => if k = 44 then
      (if inner = true then .error 76 else if b.length < p + 8 then .error 72
       else if fitsS (fragAt b p) (b.length - (p + 8)) = false then .error 76 else .ok ⟨l, fragAt b p, b.getD p 0, p + 8⟩)
    else .ok ⟨l, FragV.z, k, p⟩
def lenP (b : List Int) : Nat := (b.getD 4 0 * 256 + b.getD 5 0).toNat
def parseS (b : List Int) : Except Int Tail6 :=
  if 65535 < b.length then .error 2 else if b.length < 40 then .error 70 else if b.getD 0 0 / 16 ≠ 6 then .error 71 else if b.length < 40 + lenP b then .error 70
  else walkS (bpart b 40 (lenP b)) (b.getD 6 0) false
def Tail6.d (b : List Int) (t : Tail6) : Ip6D :=
  ⟨b.getD 0 0 % 16 * 16 + b.getD 1 0 / 16, (b.getD 1 0 % 16 * 256 + b.getD 2 0) * 256 + b.getD 3 0, b.getD 7 0, ipOf 6 (bpart b 8 16), ipOf 6 (bpart b 24 16), t.exts.map (EP.d (bpart b 40 (lenP b))), t.frag, t.next, (bpart b 40 (lenP b)).drop t.p⟩
def emptyD : Ip6D := ⟨0, 0, 0, IPV.z, IPV.z, [], FragV.z, 0, []⟩
/-- The datagram and the error of what was read. -/
def parsed (b : List Int) : Ip6D × Int := match parseS b with
  | .error e => (emptyD, e)
  | .ok t => (t.d b, 0)
def chainS (k : Int) (b : List Int) : Except Int Tail6 := if k < 0 ∨ 255 < k then .error 1 else if 65535 < b.length then .error 2 else walkS b k true
def chained (k : Int) (b : List Int) : List ExtD × Int × List Int × Int := match chainS k b with
  | .error e => ([], 0, [], e)
  | .ok t => (t.exts.map (EP.d b), t.next, b.drop t.p, 0)
end Go.Eng
/- Chapter 7 by value: what is written is read as it was (options, headers). -/
namespace Go.Eng
open Go Go.RowKit
theorem getD_drop (b : List Int) (p j : Nat) : b.getD (p + j) 0 = (b.drop p).getD j 0 := by
  rw [List.getD_eq_getElem?_getD, List.getD_eq_getElem?_getD, List.getElem?_drop]
theorem drop_len {b c : List Int} {p : Nat} (h : b.drop p = c) (hp : p ≤ b.length) : b.length = p + c.length := by
  have := congrArg List.length h
  rw [List.length_drop] at this
  omega
theorem drop_more {b c r : List Int} {p : Nat} (h : b.drop p = c ++ r) : b.drop (p + c.length) = r := by
  rw [← List.drop_drop, h, List.drop_left]
theorem bpart_of {b c r : List Int} {p : Nat} (h : b.drop p = c ++ r) : bpart b p c.length = c := by
  unfold bpart; rw [h, List.take_left]
/-- Options, written from the first on. -/
def wrF : Bool → List OptD → Option (List Int)
  | _, [] => some []
  | prev, o :: r => match optBytes prev o, wrF (decide (o.kind = 0)) r with
    | some b, some c => some (b ++ c)
    | _, _ => none
theorem optF_wr (a : List OptD) : ∀ (r : List OptD) (out : List Int), optF (a ++ r) a.length = some out → optF (a ++ r) (a ++ r).length = (wrF (prevZ (a ++ r) a.length) r).map (out ++ ·) := by
  intro r
  induction r generalizing a with
  | nil => intro out h; simp only [List.append_nil] at h ⊢; rw [h]; simp [wrF]
  | cons o r ih =>
    intro out h
    have ho : (a ++ o :: r)[a.length]? = some o := by simp
    have hs := optF_step h ho
    have e : a ++ o :: r = (a ++ [o]) ++ r := by simp
    have hp : prevZ (a ++ o :: r) (a.length + 1) = decide (o.kind = 0) := by
      show (match (a ++ o :: r)[a.length]? with
        | some o => decide (o.kind = 0)
        | none => false) = _
      rw [ho]
    unfold wrF
    cases hb : optBytes (prevZ (a ++ o :: r) a.length) o with
    | none =>
      rw [hb] at hs
      simp only at hs
      rw [optF_none hs _ (by simp)]
      rfl
    | some b =>
      rw [hb] at hs
      simp only at hs
      have hs' : optF ((a ++ [o]) ++ r) (a ++ [o]).length = some (out ++ b) := by rw [← e]; simpa using hs
      have := ih (a ++ [o]) (out ++ b) hs'
      rw [← e] at this
      rw [this]
      have hl : (a ++ [o]).length = a.length + 1 := by simp
      rw [hl, hp]
      cases wrF (decide (o.kind = 0)) r with
      | none => rfl
      | some c => simp
theorem putOptsS_wr (l : List OptD) : putOptsS l = match wrF false l with
    | some out => if out.length % 8 ≠ 6 ∨ 2046 < out.length then ([], 75) else (out, 0)
    | none => ([], 75) := by
  have h := optF_wr [] l [] rfl
  simp only [List.nil_append, List.length_nil] at h
  have e : prevZ l 0 = false := rfl
  rw [e] at h
  unfold putOptsS
  rw [h]
  cases wrF false l <;> rfl
/-- Padding that was written is read as so many bytes of it. -/
theorem padS_read {b : List Int} : ∀ (k n p run : Nat) (r : List Int), n ≤ k → b.drop p = padS n ++ r → p ≤ b.length → optsS b p run = optsS b (p + n) (run + n) := by
  intro k
  induction k with
  | zero =>
    intro n p run r hn h hp
    have : n = 0 := by omega
    subst this; rfl
  | succ k ih =>
    intro n p run r hn h hp
    have hlen := drop_len h hp
    rw [List.length_append, padS_len] at hlen
    rcases Nat.lt_or_ge 1 n with h1 | h1
    · rw [padS_step h1] at h
      have b0 : b.getD p 0 = 1 := by have := getD_drop b p 0; rw [h] at this; simpa using this
      have b1 : b.getD (p + 1) 0 = ((min n 257 - 2 : Nat) : Int) := by have := getD_drop b p 1; rw [h] at this; simpa using this
      have hd : b.drop (p + min n 257) = padS (n - min n 257) ++ r := by
        have e : (1 :: ((min n 257 - 2 : Nat) : Int) :: (List.replicate (min n 257 - 2) 0 ++ padS (n - min n 257))) ++ r = (1 :: ((min n 257 - 2 : Nat) : Int) :: List.replicate (min n 257 - 2) 0) ++ (padS (n - min n 257) ++ r) := by simp
        rw [e] at h
        have := drop_more h
        rw [← this]
        congr 2
        simp only [List.length_cons, List.length_replicate]
        omega
      rw [optsS_pad b0 (by rw [b1]; omega), b1, Int.toNat_natCast]
      rw [show p + 2 + (min n 257 - 2) = p + min n 257 by omega, show run + 2 + (min n 257 - 2) = run + min n 257 by omega]
      rw [ih (n - min n 257) _ _ r (by omega) hd (by omega)]
      congr 1 <;> omega
    · rcases Nat.eq_zero_or_pos n with rfl | hp0
      · rfl
      · have : n = 1 := by omega
        subst this
        rw [padS_one] at h
        have b0 : b.getD p 0 = 0 := by have := getD_drop b p 0; rw [h] at this; simpa using this
        rw [optsS_zero (by omega) b0]
def flushD (run : Nat) : List OptD := if run = 0 then [] else [⟨0, List.replicate run 0⟩]
theorem allZ_eq {l : List Int} (h : AllZ l) : l = List.replicate l.length 0 := List.eq_replicate_iff.2 ⟨rfl, h⟩
/-- Options that were written are read as they were. -/
theorem wrF_read {b : List Int} : ∀ (l : List OptD) (prev : Bool) (c : List Int) (p run : Nat), wrF prev l = some c → b.drop p = c → p ≤ b.length → (run = 0 ∨ prev = true) → ∃ os, optsS b p run = some os ∧ os.map (OP.d b) = flushD run ++ l := by
  intro l
  induction l with
  | nil =>
    intro prev c p run h hd hp hr
    injection h with h; subst h
    have := drop_len hd hp
    refine ⟨_, optsS_end (by simp at this; omega), ?_⟩
    rw [flushS_d, List.append_nil]; rfl
  | cons o r ih =>
    intro prev c p run h hd hp hr
    unfold wrF at h
    cases hb : optBytes prev o with
    | none => rw [hb] at h; cases h
    | some ob =>
      cases hw : wrF (decide (o.kind = 0)) r with
      | none => rw [hb, hw] at h; cases h
      | some c' =>
        rw [hb, hw] at h
        injection h with h; subst h
        have hlen := drop_len hd hp
        rw [List.length_append] at hlen
        have hdm := drop_more hd
        unfold optBytes at hb
        split at hb
        · rename_i h0
          split at hb
          · cases hb
          · rename_i h1
            injection hb with hb; subst hb
            have hz : AllZ o.data := Classical.byContradiction fun h => h1 (.inr (.inr h))
            have hne : o.data.length ≠ 0 := fun h => h1 (.inl (List.eq_nil_of_length_eq_zero h))
            have hpf : prev ≠ true := fun h => h1 (.inr (.inl h))
            have hr0 : run = 0 := hr.resolve_right hpf
            subst hr0
            rw [padS_len] at hdm hlen
            rw [padS_read o.data.length o.data.length p 0 c' (Nat.le_refl _) hd hp]
            obtain ⟨os, e1, e2⟩ := ih _ c' (p + o.data.length) (0 + o.data.length) hw hdm (by omega) (.inr (decide_eq_true h0))
            refine ⟨os, e1, ?_⟩
            rw [e2]
            unfold flushD
            rw [if_neg (by omega), if_pos rfl, Nat.zero_add, ← allZ_eq hz]
            simp only [List.nil_append, List.singleton_append, List.cons.injEq, and_true]
            obtain ⟨k, dt⟩ := o
            simp only at h0 ⊢
            rw [h0]
        · rename_i h0
          split at hb
          · cases hb
          · rename_i h1
            injection hb with hb; subst hb
            have b0 : b.getD p 0 = o.kind := by have := getD_drop b p 0; rw [hd] at this; simpa using this
            have b1 : b.getD (p + 1) 0 = (o.data.length : Int) := by have := getD_drop b p 1; rw [hd] at this; simpa using this
            simp only [List.length_cons] at hlen hdm
            rw [optsS_opt (by omega) (by omega) (by rw [b1]; omega), b1, Int.toNat_natCast]
            obtain ⟨os, e1, e2⟩ := ih _ c' (p + 2 + o.data.length) 0 hw (by rw [← hdm]; congr 1; omega) (by omega) (.inl rfl)
            rw [e1]
            refine ⟨_, rfl, ?_⟩
            have hpt : bpart b (p + 2) o.data.length = o.data := by
              have e : b.drop (p + 2) = o.data ++ c' := by
                have e : (o.kind :: (o.data.length : Int) :: o.data) ++ c' = [o.kind, (o.data.length : Int)] ++ (o.data ++ c') := rfl
                rw [e] at hd
                exact drop_more hd
              exact bpart_of e
            rw [List.map_append, List.map_cons, e2, flushS_d]
            show flushD run ++ _ = _
            congr 1
            unfold OP.d
            simp only [b0]
            rw [if_neg h0, hpt]
            rfl
theorem putOptsS_read {l : List OptD} (h : (putOptsS l).2 = 0) : ∃ os, optsS (putOptsS l).1 0 0 = some os ∧ os.map (OP.d (putOptsS l).1) = l ∧ (putOptsS l).1.length % 8 = 6 := by
  rw [putOptsS_wr] at h ⊢
  cases hw : wrF false l with
  | none => rw [hw] at h; exact absurd h (by decide)
  | some out =>
    rw [hw] at h
    simp only at h ⊢
    split at h
    · exact absurd h (by decide)
    · rename_i h1
      rw [if_neg h1]
      obtain ⟨os, e1, e2⟩ := wrF_read (b := out) l false out 0 0 hw rfl (Nat.zero_le _) (.inl rfl)
      refine ⟨os, e1, e2, ?_⟩
      show out.length % 8 = 6
      omega
def firstE (next : Int) : List ExtD → Int
  | [] => next
  | x :: _ => x.kind
/-- Headers, written from the first on. -/
def hdrB (next : Int) : List ExtD → List Int
  | [] => []
  | x :: r => (firstE next r % 256 :: (((bodyS x).1.length / 8 : Nat) : Int) :: (bodyS x).1) ++ hdrB next r
theorem hdrF_B {l : List ExtD} {next : Int} {top : Bool} : ∀ (r a : List ExtD), l = a ++ r → hdrOk l top l.length → (hdrF l next top a.length).2 = 0 → hdrF l next top l.length = ((hdrF l next top a.length).1 ++ hdrB next r, 0) := by
  intro r
  induction r with
  | nil =>
    intro a hl hok h0
    rw [List.append_nil] at hl; subst hl
    simp only [hdrB, List.append_nil]
    rw [← h0]
  | cons x r ih =>
    intro a hl hok h0
    have hx : l[a.length]? = some x := by rw [hl]; simp
    have hlt : a.length < l.length := by rw [hl]; simp
    obtain ⟨k1, k2⟩ := hok a.length x hlt hx
    have hs := hdrF_step h0 hx
    rw [if_neg k1, if_neg (by omega)] at hs
    have := ih (a ++ [x]) (by rw [hl]; simp) hok (by rw [List.length_append, List.length_singleton, hs])
    rw [this, List.length_append, List.length_singleton, hs]
    have ht : thenK l next a.length = firstE next r := by
      unfold thenK
      have : l[a.length + 1]? = r[0]? := by rw [hl, List.getElem?_append_right (by omega)]; simp
      rw [this]
      cases r <;> rfl
    rw [ht]
    simp only [hdrB, List.append_assoc]
theorem headersS_B {l : List ExtD} {next : Int} {top : Bool} (h : (headersS l next top).2 = 0) : (headersS l next top).1 = hdrB next l := by
  obtain ⟨h8, hok, _⟩ := headersS_ok h
  unfold headersS
  rw [if_neg (by omega)]
  have := hdrF_B (l := l) (next := next) (top := top) l [] rfl hok rfl
  rw [this]
  rfl
theorem inS_read {x : ExtD} {b r : List Int} {p : Nat} (h : (bodyS x).2 = 0) (hd : b.drop p = (bodyS x).1 ++ r) : (bodyS x).1.length % 8 = 6 ∧ ∃ os, inS x.kind b p (bodyS x).1.length = some os ∧ EP.d b ⟨x.kind, os, p, (bodyS x).1.length⟩ = x := by
  have hp := bpart_of hd
  unfold bodyS at h hp ⊢
  split at h
  · rename_i h0
    split at h
    · exact absurd h (by decide)
    · rename_i h1
      rw [if_pos h0, if_neg h1] at hp ⊢
      simp only at hp ⊢
      refine ⟨by omega, [], by unfold inS; rw [if_pos h0], ?_⟩
      unfold EP.d
      simp only [h0, if_true, hp, List.map_nil]
      obtain ⟨k, o, dt⟩ := x
      simp only at h0 h1 ⊢
      have : o = [] := Classical.byContradiction fun h => h1 (.inl h)
      rw [h0, this]
  · rename_i h0
    split at h
    · rename_i h1
      split at h
      · exact absurd h (by decide)
      · rename_i h2
        rw [if_neg h0, if_pos h1, if_neg h2] at hp ⊢
        obtain ⟨os, e1, e2, e3⟩ := putOptsS_read h
        refine ⟨e3, os, ?_, ?_⟩
        · unfold inS; rw [if_neg h0, hp, e1]
        · unfold EP.d
          simp only [h0, if_false, hp, e2]
          obtain ⟨k, o, dt⟩ := x
          simp only at h2 ⊢
          have : dt = [] := Classical.byContradiction fun h => h2 h
          rw [this]
    · exact absurd h (by decide)
theorem bodyS_isH {x : ExtD} (h : (bodyS x).2 = 0) : isH x.kind := by
  unfold bodyS at h
  unfold isH
  split at h
  · rename_i h0; exact .inr (.inl h0)
  · split at h
    · rename_i h1; omega
    · exact absurd h (by decide)
/-- Headers that were written are read as they were. -/
theorem hdrB_read {b : List Int} {top : Bool} {next : Int} (hn : ¬ isH next) (hnr : 0 ≤ next ∧ next ≤ 255) : ∀ (l : List ExtD) (i p : Nat) (r : List Int), i + l.length ≤ 8 → (∀ j x, l[j]? = some x → ¬ (x.kind = 0 ∧ ¬ (top = true ∧ i + j = 0)) ∧ (bodyS x).2 = 0) →
    b.drop p = hdrB next l ++ r → p ≤ b.length → ∃ es, hdrsS b top (firstE next l) p i = .ok (es, next, p + (hdrB next l).length) ∧ es.map (EP.d b) = l := by
  intro l
  induction l with
  | nil =>
    intro i p r _ _ hd hp
    exact ⟨[], hdrsS_end hn, rfl⟩
  | cons x l ih =>
    intro i p r hl hok hd hp
    obtain ⟨k1, k2⟩ := hok 0 x rfl
    have hH := bodyS_isH k2
    obtain ⟨K, hKf⟩ : ∃ K, K = firstE next l := ⟨_, rfl⟩
    have hKr : K % 256 = K := by
      rw [hKf]
      cases l with
      | nil => show next % 256 = next; omega
      | cons y l =>
        have := bodyS_isH (hok 1 y rfl).2
        unfold isH at this
        show y.kind % 256 = y.kind
        omega
    have hB : hdrB next (x :: l) = ([K, (((bodyS x).1.length / 8 : Nat) : Int)] ++ (bodyS x).1) ++ hdrB next l := by
      show (firstE next l % 256 :: (((bodyS x).1.length / 8 : Nat) : Int) :: (bodyS x).1) ++ hdrB next l = _
      rw [← hKf, hKr]; rfl
    rw [hB] at hd ⊢
    have hd2 : b.drop p = [K, (((bodyS x).1.length / 8 : Nat) : Int)] ++ ((bodyS x).1 ++ (hdrB next l ++ r)) := by rw [hd]; simp
    have b0 : b.getD p 0 = K := by have := getD_drop b p 0; rw [hd2] at this; simpa using this
    have b1 : b.getD (p + 1) 0 = (((bodyS x).1.length / 8 : Nat) : Int) := by have := getD_drop b p 1; rw [hd2] at this; simpa using this
    have hd3 : b.drop (p + 2) = (bodyS x).1 ++ (hdrB next l ++ r) := drop_more hd2
    obtain ⟨h6, os, hin, hxd⟩ := inS_read k2 hd3
    have hlen := drop_len hd2 hp
    simp only [List.length_append, List.length_cons, List.length_nil] at hlen
    have hL : lenH b p = (bodyS x).1.length := by unfold lenH; rw [b1, Int.toNat_natCast]; omega
    have hstep := hdrsS_step (b := b) (top := top) (k := x.kind) (p := p) (i := i) hH (fun h => k1 ⟨h.1, fun q => by
      rcases h.2 with e | e
      · rw [e] at q; exact absurd q.1 (by decide)
      · omega⟩) (by simp only [List.length_cons] at hl; omega) (by rw [hL]; omega) (os := os) (by rw [hL]; exact hin)
    have hd4 : b.drop (p + 2 + (bodyS x).1.length) = hdrB next l ++ r := drop_more hd3
    obtain ⟨es, e1, e2⟩ := ih (i + 1) (p + 2 + (bodyS x).1.length) r (by simp only [List.length_cons] at hl; omega) (fun j y hj => by
      have := hok (j + 1) y (by simpa using hj)
      refine ⟨fun q => this.1 ⟨q.1, fun t => q.2 ⟨t.1, by omega⟩⟩, this.2⟩) hd4 (by omega)
    refine ⟨⟨x.kind, os, p + 2, (bodyS x).1.length⟩ :: es, ?_, ?_⟩
    · show hdrsS b top x.kind p i = _
      rw [hstep, b0, hL, hKf, e1]
      simp only [Except.map, List.length_append, List.length_cons, List.length_nil]
      congr 3
      omega
    · rw [List.map_cons, hxd, e2]
end Go.Eng
/- Chapter 7 by value: what is written is read as it was (the datagram); what is read may be, and is written in as many bytes. -/
namespace Go.Eng
open Go Go.RowKit
theorem ipOf_bytes (h : IPV) : ipOf h.v h.bytes = h := by
  obtain ⟨v, a0, a1, a2, a3, a4, a5, a6, a7, a8, a9, a10, a11, a12, a13, a14, a15⟩ := h
  rfl
theorem ipOf_back {v : Int} {l : List Int} (h : l.length = 16) : (ipOf v l).bytes = l := by
  match l, h with
  | [a0, a1, a2, a3, a4, a5, a6, a7, a8, a9, a10, a11, a12, a13, a14, a15], _ => rfl
theorem bpart_whole {b c : List Int} {p n : Nat} (h : b.drop p = c) (hn : c.length = n) : bpart b p n = c := by
  unfold bpart; rw [h, List.take_of_length_le (by omega)]
theorem upperS_isH {k : Int} (h : upperS k = true) : ¬ isH k ∧ k ≠ 44 := by
  unfold upperS at h
  have := of_decide_eq_true h
  unfold isH; omega
theorem four_back {n : Int} (_h0 : 0 ≤ n) (_h1 : n ≤ 4294967295) : ((n / 16777216 * 256 + n / 65536 % 256) * 256 + n / 256 % 256) * 256 + n % 256 = n := by omega
/-- The bytes behind the forty, read again. -/
theorem walkS_back {d : Ip6D} (h : (ser6S d).2 = 0) : ∃ t, walkS (bodyB d) (firstK d) false = .ok t ∧ t.exts.map (EP.d (bodyB d)) = d.exts ∧ t.frag = d.frag ∧ t.next = d.next ∧ (bodyB d).drop t.p = d.data := by
  rcases ser6S_cases d with ⟨h1, _⟩ | ⟨_, hf, hh, hfr, hlen, _⟩
  · exact absurd h h1
  · obtain ⟨h8, hok, _⟩ := headersS_ok hh
    have hB := headersS_B hh
    have hnx : 0 ≤ d.next ∧ d.next ≤ 255 := by unfold fieldBad at hf; omega
    have hbK : firstK d = firstE (behindK d) d.exts := by unfold firstK firstE; cases d.exts <;> rfl
    have hbn : ¬ isH (behindK d) ∧ (0 ≤ behindK d ∧ behindK d ≤ 255) := by
      unfold behindK
      split
      · exact ⟨by unfold isH; omega, by omega⟩
      · rename_i hn
        unfold fragE at hfr
        rw [if_neg hn] at hfr
        split at hfr
        · exact absurd hfr (by decide)
        · split at hfr
          · rename_i hu; exact ⟨(upperS_isH hu).1, hnx⟩
          · exact absurd hfr (by decide)
    have hbody : (bodyB d).drop 0 = hdrB (behindK d) d.exts ++ (fragB d ++ d.data) := by unfold bodyB; rw [hB]; rfl
    obtain ⟨es, e1, e2⟩ := hdrB_read (b := bodyB d) (top := true) hbn.1 hbn.2 d.exts 0 0 (fragB d ++ d.data) (by omega) (fun j x hj => by
      have hjl : j < d.exts.length := (List.getElem?_eq_some_iff.1 hj).1
      have := hok j x hjl hj
      simpa using this) hbody (Nat.zero_le _)
    rw [← hbK, Nat.zero_add] at e1
    have hd2 := drop_more hbody
    rw [Nat.zero_add] at hd2
    unfold walkS
    rw [Bool.not_false, e1]
    simp only
    by_cases hhas : d.frag.has = true
    · have e44 : behindK d = 44 := by unfold behindK; rw [if_pos hhas]
      have hfb : fragB d = [d.next, 0, (d.frag.off + b2i d.frag.more) / 256, (d.frag.off + b2i d.frag.more) % 256] ++ four d.frag.id := by unfold fragB; rw [if_pos hhas]
      have hfl : (fragB d).length = 8 := by rw [hfb]; rfl
      unfold fragE at hfr
      rw [if_pos hhas] at hfr
      split at hfr
      · exact absurd hfr (by decide)
      rename_i hc
      obtain ⟨P, hP⟩ : ∃ P, P = (hdrB (behindK d) d.exts).length := ⟨_, rfl⟩
      rw [← hP] at hd2 ⊢
      have hPl := drop_len hd2 (by rw [hP]; unfold bodyB; rw [List.length_append, hB]; omega)
      rw [List.length_append, hfl] at hPl
      have g : ∀ j, (bodyB d).getD (P + j) 0 = (fragB d ++ d.data).getD j 0 := fun j => by rw [getD_drop, hd2]
      have g0 : (bodyB d).getD P 0 = d.next := by have := g 0; rw [hfb] at this; simpa using this
      have g2 : (bodyB d).getD (P + 2) 0 = (d.frag.off + b2i d.frag.more) / 256 := by have := g 2; rw [hfb] at this; simpa using this
      have g3 : (bodyB d).getD (P + 3) 0 = (d.frag.off + b2i d.frag.more) % 256 := by have := g 3; rw [hfb] at this; simpa using this
      have g4 : (bodyB d).getD (P + 4) 0 = d.frag.id / 16777216 := by have := g 4; rw [hfb] at this; simpa [four] using this
      have g5 : (bodyB d).getD (P + 5) 0 = d.frag.id / 65536 % 256 := by have := g 5; rw [hfb] at this; simpa [four] using this
      have g6 : (bodyB d).getD (P + 6) 0 = d.frag.id / 256 % 256 := by have := g 6; rw [hfb] at this; simpa [four] using this
      have g7 : (bodyB d).getD (P + 7) 0 = d.frag.id % 256 := by have := g 7; rw [hfb] at this; simpa [four] using this
      have hmore : b2i d.frag.more = (if d.frag.more = true then 1 else 0) := rfl
      have hF : fragAt (bodyB d) P = d.frag := by
        unfold fragAt
        rw [g2, g3, g4, g5, g6, g7, four_back (by omega) (by omega)]
        show _ = (⟨d.frag.has, d.frag.more, d.frag.id, d.frag.off⟩ : FragV)
        rw [hhas, hmore]
        congr 1
        · cases d.frag.more with
          | true => simp only [if_true]; exact decide_eq_true (by omega)
          | false => simp only [Bool.false_eq_true, if_false]; exact decide_eq_false (by omega)
        · split <;> omega
      rw [e44, if_pos rfl, if_neg (by decide), if_neg (by omega), hF, if_neg]
      · refine ⟨_, rfl, e2, rfl, g0, ?_⟩
        have := drop_more hd2
        rw [hfl] at this
        exact this
      · rw [show (bodyB d).length - (P + 8) = d.data.length by omega]
        intro hq
        exact hc (.inr (.inr (.inr (.inr (.inr hq)))))
    · have e44 : behindK d = d.next := by unfold behindK; rw [if_neg hhas]
      have hfb : fragB d = [] := by unfold fragB; rw [if_neg hhas]
      unfold fragE at hfr
      rw [if_neg hhas] at hfr
      split at hfr
      · exact absurd hfr (by decide)
      rename_i hc
      split at hfr
      · rename_i hu
        rw [if_neg (by rw [e44]; exact (upperS_isH hu).2)]
        refine ⟨_, rfl, e2, ?_, e44, ?_⟩
        · show (⟨false, false, 0, 0⟩ : FragV) = ⟨d.frag.has, d.frag.more, d.frag.id, d.frag.off⟩
          have h1 : d.frag.has = false := by simpa using hhas
          have h2 : d.frag.more = false := by
            cases hm : d.frag.more with
            | false => rfl
            | true => exact absurd (.inl hm) hc
          rw [h1, h2]
          congr 1 <;> omega
        · rw [hfb, List.nil_append] at hd2
          exact hd2
      · exact absurd hfr (by decide)
theorem serB {d : Ip6D} (h : (ser6S d).2 = 0) : (ser6S d).1 = head6 d (bodyB d).length ++ (d.src.bytes ++ (d.dst.bytes ++ bodyB d)) ∧ 40 + (bodyB d).length ≤ 65535 ∧ ¬ fieldBad d := by
  rcases ser6S_cases d with ⟨h1, _⟩ | ⟨_, hf, _, _, h4, e⟩
  · exact absurd h h1
  · exact ⟨e, h4, hf⟩
/-- What is written is read as it was. -/
theorem parseS_back {d : Ip6D} (h : (ser6S d).2 = 0) : ∃ t, parseS (ser6S d).1 = .ok t ∧ t.d (ser6S d).1 = d ∧ lenP (ser6S d).1 = (bodyB d).length ∧ (ser6S d).1.length = 40 + (bodyB d).length := by
  obtain ⟨e, hl, hf⟩ := serB h
  obtain ⟨t, w1, w2, w3, w4, w5⟩ := walkS_back h
  obtain ⟨b, hb⟩ : ∃ b, b = (ser6S d).1 := ⟨_, rfl⟩
  rw [← hb] at e ⊢
  have hs : d.src.bytes.length = 16 := rfl
  have ht : d.dst.bytes.length = 16 := rfl
  have h8 : (head6 d (bodyB d).length).length = 8 := rfl
  have hbl : b.length = 40 + (bodyB d).length := by rw [e]; simp only [List.length_append, h8, hs, ht]; omega
  have q : ∀ j, j < 8 → b.getD j 0 = (head6 d (bodyB d).length).getD j 0 := fun j hj => by
    rw [e, List.getD_eq_getElem?_getD, List.getElem?_append_left (by rw [h8]; exact hj), ← List.getD_eq_getElem?_getD]
  have q0 : b.getD 0 0 = 96 + d.cls / 16 := q 0 (by decide)
  have q1 : b.getD 1 0 = d.cls % 16 * 16 + d.flow / 65536 := q 1 (by decide)
  have q2 : b.getD 2 0 = d.flow / 256 % 256 := q 2 (by decide)
  have q3 : b.getD 3 0 = d.flow % 256 := q 3 (by decide)
  have q4 : b.getD 4 0 = ((bodyB d).length : Int) / 256 := q 4 (by decide)
  have q5 : b.getD 5 0 = ((bodyB d).length : Int) % 256 := q 5 (by decide)
  have q6 : b.getD 6 0 = firstK d := q 6 (by decide)
  have q7 : b.getD 7 0 = d.hop := q 7 (by decide)
  unfold fieldBad at hf
  have hL : lenP b = (bodyB d).length := by unfold lenP; rw [q4, q5]; omega
  have d8 : b.drop 8 = d.src.bytes ++ (d.dst.bytes ++ bodyB d) := by rw [e]; exact List.drop_left' h8
  have d24 : b.drop 24 = d.dst.bytes ++ bodyB d := drop_more d8
  have d40 : b.drop 40 = bodyB d := drop_more d24
  have hp : bpart b 40 (lenP b) = bodyB d := bpart_whole d40 hL.symm
  have p8 : bpart b 8 16 = d.src.bytes := bpart_of d8
  have p24 : bpart b 24 16 = d.dst.bytes := bpart_of d24
  refine ⟨t, ?_, ?_, hL, hbl⟩
  · unfold parseS
    rw [if_neg (by omega), if_neg (by omega), if_neg (by rw [q0]; omega), if_neg (by omega), hp, q6, w1]
  · unfold Tail6.d
    rw [hp, p8, p24, w2, w3, w4, w5, q0, q1, q2, q3, q7]
    have hsv : d.src.v = 6 := by omega
    have htv : d.dst.v = 6 := by omega
    have is := ipOf_bytes d.src
    have it := ipOf_bytes d.dst
    rw [hsv] at is
    rw [htv] at it
    rw [is, it]
    obtain ⟨cls, flow, hop, src, dst, exts, frag, next, data⟩ := d
    simp only at hf ⊢
    congr 1
    · omega
    · omega
theorem parsed_back {d : Ip6D} (h : (ser6S d).2 = 0) : parsed (ser6S d).1 = (d, 0) := by
  obtain ⟨t, h1, h2, _⟩ := parseS_back h
  unfold parsed; rw [h1]; simp only [h2]
theorem wrF_of {b : List Int} (hB : Bts b) : ∀ (k p run : Nat) (l : List OP), b.length - p ≤ k → p ≤ b.length → optsS b p run = some l → ∃ c, wrF false (l.map (OP.d b)) = some c ∧ c.length = run + (b.length - p) := by
  have fl : ∀ (run : Nat) (r : List OptD) (c : List Int), wrF false r = some c → (∀ o, r[0]? = some o → o.kind ≠ 0) → wrF false (flushD run ++ r) = some (padS run ++ c) := by
    intro run r c hw h0
    unfold flushD
    split
    · rename_i e; subst e; rw [padS_zero]; simpa using hw
    · rename_i e
      have hw' : wrF true r = some c := by
        cases r with
        | nil => exact hw
        | cons o r =>
          have := h0 o rfl
          unfold wrF optBytes at hw ⊢
          rw [if_neg this] at hw ⊢
          exact hw
      have e1 : optBytes false ⟨0, List.replicate run 0⟩ = some (padS run) := by
        unfold optBytes
        rw [if_pos rfl, if_neg]
        · rw [List.length_replicate]
        · rintro (h | h | h)
          · have := congrArg List.length h; rw [List.length_replicate] at this; exact e this
          · cases h
          · exact h fun x hx => (List.mem_replicate.1 hx).2
      show wrF false (⟨0, List.replicate run 0⟩ :: r) = _
      unfold wrF
      rw [e1]
      simp only [decide_true, hw']
  intro k
  induction k with
  | zero =>
    intro p run l hk hp h
    rw [optsS_end (by omega)] at h
    injection h with h; subst h
    refine ⟨padS run, ?_, by rw [padS_len]; omega⟩
    have := fl run [] [] rfl (fun o h => by cases h)
    rw [flushS_d]
    simpa [flushD] using this
  | succ k ih =>
    intro p run l hk hp h
    rcases Nat.lt_or_ge p b.length with hlt | hge
    · have b0 := getD_byte hB p
      have b1 := getD_byte hB (p + 1)
      by_cases h0 : b.getD p 0 = 0
      · rw [optsS_zero hlt h0] at h
        obtain ⟨c, e1, e2⟩ := ih _ _ _ (by omega) (by omega) h
        exact ⟨c, e1, by omega⟩
      · rcases Nat.lt_or_ge b.length (p + 2 + (b.getD (p + 1) 0).toNat) with h2 | h2
        · rw [optsS_none hlt h0 h2] at h; cases h
        · by_cases h1 : b.getD p 0 = 1
          · rw [optsS_pad h1 h2] at h
            obtain ⟨c, e1, e2⟩ := ih _ _ _ (by omega) (by omega) h
            exact ⟨c, e1, by omega⟩
          · rw [optsS_opt h0 h1 h2] at h
            cases hr2 : optsS b (p + 2 + (b.getD (p + 1) 0).toNat) 0 with
            | none => rw [hr2] at h; cases h
            | some m =>
              rw [hr2] at h
              injection h with h; subst h
              obtain ⟨c, e1, e2⟩ := ih _ _ _ (by omega) (by omega) hr2
              have hpl : (bpart b (p + 2) (b.getD (p + 1) 0).toNat).length = (b.getD (p + 1) 0).toNat := bpart_len (by omega)
              have hod : OP.d b ⟨b.getD p 0, p + 2, (b.getD (p + 1) 0).toNat⟩ = ⟨b.getD p 0, bpart b (p + 2) (b.getD (p + 1) 0).toNat⟩ := by unfold OP.d; rw [if_neg h0]
              have hw : wrF false (OP.d b ⟨b.getD p 0, p + 2, (b.getD (p + 1) 0).toNat⟩ :: m.map (OP.d b)) = some ((b.getD p 0 :: ((bpart b (p + 2) (b.getD (p + 1) 0).toNat).length : Int) :: bpart b (p + 2) (b.getD (p + 1) 0).toNat) ++ c) := by
                rw [hod]
                unfold wrF optBytes
                simp only
                rw [if_neg h0, if_neg (by rw [hpl]; omega), decide_eq_false h0, e1]
              refine ⟨padS run ++ ((b.getD p 0 :: ((bpart b (p + 2) (b.getD (p + 1) 0).toNat).length : Int) :: bpart b (p + 2) (b.getD (p + 1) 0).toNat) ++ c), ?_, ?_⟩
              · rw [List.map_append, List.map_cons, flushS_d]
                exact fl run _ _ hw (fun o ho => by
                  rw [hod] at ho
                  simp only [List.getElem?_cons_zero, Option.some.injEq] at ho
                  subst ho
                  exact h0)
              · simp only [List.length_append, List.length_cons, padS_len, hpl]
                omega
    · rw [optsS_end hge] at h
      injection h with h; subst h
      refine ⟨padS run, ?_, by rw [padS_len]; omega⟩
      have := fl run [] [] rfl (fun o h => by cases h)
      rw [flushS_d]
      simpa [flushD] using this
theorem EP.body {b : List Int} (hB : Bts b) {x : EP} (h : x.inside b) : (bodyS (x.d b)).2 = 0 ∧ (bodyS (x.d b)).1.length = x.n := by
  obtain ⟨hk, hp, hn, h8, hin⟩ := h
  have hpl : (bpart b x.p x.n).length = x.n := bpart_len hp
  unfold bodyS EP.d
  simp only
  unfold inS at hin
  split
  · rename_i h43
    rw [if_pos h43] at hin
    injection hin with hin
    rw [← hin, if_neg]
    · exact ⟨rfl, hpl⟩
    · rintro (h | h)
      · exact absurd rfl h
      · rw [hpl] at h; omega
  · rename_i h43
    rw [if_neg h43] at hin
    rw [if_pos (by unfold isH at hk; omega), if_neg (by simp)]
    obtain ⟨c, e1, e2⟩ := wrF_of ((hB.drop x.p).take x.n) _ 0 0 _ (Nat.le_refl _) (Nat.zero_le _) hin
    have e2 : c.length = x.n := by rw [e2]; show 0 + ((bpart b x.p x.n).length - 0) = x.n; rw [hpl]; omega
    rw [putOptsS_wr]
    have e1 : wrF false (x.opts.map (OP.d (bpart b x.p x.n))) = some c := e1
    rw [e1]
    simp only
    rw [if_neg (by omega)]
    exact ⟨rfl, e2⟩
end Go.Eng
