/- Chapter 7 by value: what options, headers and a datagram of version 6 are written as. -/
import Derived.Test.YteppichfkeknbaaGreatDoorBe
import Derived.Test.YteppichfkeknbaaGreatDoorBd
import Derived.Test.YteppichfkeknbaaGreatDoorBf
namespace Go.Eng
open Go Go.RowKit
def AllZ (l : List Int) : Prop := ∀ x ∈ l, x = 0
instance (l : List Int) : Decidable (AllZ l) := by unfold AllZ; infer_instance
/-- n bytes of padding. -/
def padF : Nat → Nat → List Int
  | 0, _ => []
  | f + 1, n => if n = 0 then [] else if n = 1 then [0] else 1 :: ((min n 257 - 2 : Nat) : Int) :: (List.replicate (min n 257 - 2) 0 ++ padF f (n - min n 257))
def padS (n : Nat) : List Int := padF n n
theorem padF_len : ∀ f n, n ≤ f → (padF f n).length = n
  | 0, n, h => by have : n = 0 := by omega
                  subst this; rfl
  | f + 1, n, h => by
    unfold padF
    split
    · simp; omega
    · split
      · simp; omega
      · simp only [List.length_cons, List.length_append, List.length_replicate]
        rw [padF_len f _ (by omega)]; omega
theorem padF_fuel : ∀ f g n, n ≤ f → n ≤ g → padF f n = padF g n
  | 0, 0, _, _, _ => rfl
  | 0, g + 1, n, h, _ => by have : n = 0 := by omega
                            subst this; simp [padF]
  | f + 1, 0, n, _, h => by have : n = 0 := by omega
                            subst this; simp [padF]
  | f + 1, g + 1, n, h, k => by
    unfold padF
    split
    · rfl
    · split
      · rfl
      · rw [padF_fuel f g _ (by omega) (by omega)]
theorem padS_len (n : Nat) : (padS n).length = n := padF_len n n (Nat.le_refl _)
theorem padS_zero : padS 0 = [] := rfl
theorem padS_one : padS 1 = [0] := rfl
theorem padS_step {n : Nat} (h : 1 < n) : padS n = 1 :: ((min n 257 - 2 : Nat) : Int) :: (List.replicate (min n 257 - 2) 0 ++ padS (n - min n 257)) := by
  obtain ⟨m, rfl⟩ : ∃ m, n = m + 1 := ⟨n - 1, by omega⟩
  show padF (m + 1) (m + 1) = _
  unfold padF
  rw [if_neg (by omega), if_neg (by omega), padF_fuel m (m + 1 - min (m + 1) 257) _ (by omega) (Nat.le_refl _)]
  rfl
theorem bts_nil : Bts [] := fun _ h => by cases h
theorem bts_cons {x : Int} {l : List Int} (h0 : 0 ≤ x) (h1 : x < 256) (h : Bts l) : Bts (x :: l) := fun y hy => by
  rcases List.mem_cons.1 hy with rfl | hy
  · exact ⟨h0, h1⟩
  · exact h y hy
theorem bts_zeros (n : Nat) : Bts (List.replicate n 0) := fun x hx => by rw [(List.mem_replicate.1 hx).2]; omega
theorem padF_bts : ∀ f n, Bts (padF f n)
  | 0, _ => bts_nil
  | f + 1, n => by
    unfold padF
    split
    · exact bts_nil
    · split
      · exact bts_cons (by decide) (by decide) bts_nil
      · exact bts_cons (by decide) (by decide) (bts_cons (by omega) (by omega) ((bts_zeros _).append (padF_bts f _)))
theorem padS_bts (n : Nat) : Bts (padS n) := padF_bts n n
/-! ### Options -/
def optBytes (prev0 : Bool) (o : OptD) : Option (List Int) :=
  if o.kind = 0 then (if o.data = [] ∨ prev0 = true ∨ ¬ AllZ o.data then none else some (padS o.data.length))
  else if o.kind < 2 ∨ 255 < o.kind ∨ 255 < o.data.length then none else some (o.kind :: (o.data.length : Int) :: o.data)
def prevZ (l : List OptD) (i : Nat) : Bool := match i with
  | 0 => false
  | j + 1 => match l[j]? with
    | some o => decide (o.kind = 0)
    | none => false
def optF (l : List OptD) : Nat → Option (List Int)
  | 0 => some []
  | i + 1 => match optF l i, l[i]? with
    | some out, some o => match optBytes (prevZ l i) o with
      | some b => some (out ++ b)
      | none => none
    | _, _ => none
def putOptsS (l : List OptD) : List Int × Int := match optF l l.length with
  | some out => if out.length % 8 ≠ 6 ∨ 2046 < out.length then ([], 75) else (out, 0)
  | none => ([], 75)
theorem optF_none {l : List OptD} {i : Nat} (h : optF l i = none) : ∀ j, i ≤ j → optF l j = none := by
  intro j hij
  obtain ⟨d, rfl⟩ : ∃ d, j = i + d := ⟨j - i, by omega⟩
  clear hij
  induction d with
  | zero => exact h
  | succ d ih =>
    show optF l ((i + d) + 1) = none
    unfold optF; rw [ih]
theorem optF_long {l : List OptD} {i : Nat} {out : List Int} (h : optF l i = some out) : ∀ d, optF l (i + d) = none ∨ ∃ r, optF l (i + d) = some (out ++ r) := by
  intro d
  induction d with
  | zero => exact .inr ⟨[], by simpa using h⟩
  | succ d ih =>
    show optF l ((i + d) + 1) = none ∨ ∃ r, optF l ((i + d) + 1) = some (out ++ r)
    rcases ih with e | ⟨r, e⟩
    · exact .inl (optF_none e _ (by omega))
    · unfold optF
      rw [e]
      cases l[i + d]? with
      | none => exact .inl rfl
      | some o =>
        simp only
        cases optBytes (prevZ l (i + d)) o with
        | none => exact .inl rfl
        | some b => exact .inr ⟨r ++ b, by simp⟩
theorem putOptsS_none {l : List OptD} {i : Nat} (h : optF l i = none) (hi : i ≤ l.length) : putOptsS l = ([], 75) := by
  unfold putOptsS; rw [optF_none h _ hi]
theorem putOptsS_long {l : List OptD} {i : Nat} {out : List Int} (h : optF l i = some out) (hi : i ≤ l.length) (hl : 2046 < out.length) : putOptsS l = ([], 75) := by
  obtain ⟨d, hd⟩ : ∃ d, l.length = i + d := ⟨l.length - i, by omega⟩
  unfold putOptsS
  rw [hd]
  rcases optF_long h d with e | ⟨r, e⟩
  · rw [e]
  · rw [e]; simp only; rw [if_pos (.inr (by rw [List.length_append]; omega))]
theorem optF_step {l : List OptD} {i : Nat} {out : List Int} {o : OptD} (h : optF l i = some out) (ho : l[i]? = some o) : optF l (i + 1) = match optBytes (prevZ l i) o with
      | some b => some (out ++ b)
      | none => none := by
  show (match optF l i, l[i]? with
    | some out, some o => match optBytes (prevZ l i) o with
      | some b => some (out ++ b)
      | none => none
    | _, _ => none) = _
  rw [h, ho]
theorem optBytes_bts {p : Bool} {o : OptD} {b : List Int} (h : optBytes p o = some b) (ho : Bts o.data) : Bts b := by
  unfold optBytes at h
  split at h
  · split at h
    · cases h
    · injection h with h; subst h; exact padS_bts _
  · split at h
    · cases h
    · injection h with h; subst h; exact bts_cons (by omega) (by omega) (bts_cons (by omega) (by omega) ho)
theorem optF_bts {l : List OptD} (hl : ∀ o ∈ l, Bts o.data) : ∀ {i : Nat} {out : List Int}, optF l i = some out → Bts out
  | 0, out, h => by unfold optF at h; injection h with h; subst h; exact bts_nil
  | i + 1, out, h => by
    unfold optF at h
    split at h
    · rename_i a b o h1 h2
      split at h
      · rename_i c h3
        injection h with h; subst h
        exact (optF_bts hl h1).append (optBytes_bts h3 (hl _ (List.mem_of_getElem? h2)))
      · cases h
    · cases h
theorem putOptsS_bts {l : List OptD} (hl : ∀ o ∈ l, Bts o.data) : Bts (putOptsS l).1 := by
  unfold putOptsS
  split
  · rename_i out h
    split
    · exact bts_nil
    · exact optF_bts hl h
  · exact bts_nil
theorem putOptsS_len (l : List OptD) : (putOptsS l).1.length ≤ 2046 := by
  unfold putOptsS
  split
  · split
    · simp
    · simp only; omega
  · simp
def bodyS (x : ExtD) : List Int × Int :=
  if x.kind = 43 then (if x.opts ≠ [] ∨ x.data.length % 8 ≠ 6 ∨ 2046 < x.data.length then ([], 72) else (x.data, 0))
  else if x.kind = 0 ∨ x.kind = 60 then (if x.data ≠ [] then ([], 72) else putOptsS x.opts) else ([], 72)
def thenK (l : List ExtD) (next : Int) (i : Nat) : Int := match l[i + 1]? with
  | some y => y.kind
  | none => next
def hdrF (l : List ExtD) (next : Int) (top : Bool) : Nat → List Int × Int
  | 0 => ([], 0)
  | i + 1 => if (hdrF l next top i).2 ≠ 0 then hdrF l next top i else match l[i]? with
    | none => hdrF l next top i
    | some x => if x.kind = 0 ∧ ¬ (top = true ∧ i = 0) then ([], 73) else if (bodyS x).2 ≠ 0 then ([], (bodyS x).2)
      else ((hdrF l next top i).1 ++ (thenK l next i % 256 :: (((bodyS x).1.length / 8 : Nat) : Int) :: (bodyS x).1), 0)
def headersS (l : List ExtD) (next : Int) (top : Bool) : List Int × Int := if 8 < l.length then ([], 74) else hdrF l next top l.length
theorem bodyS_len (x : ExtD) : (bodyS x).1.length ≤ 2046 := by
  unfold bodyS
  split
  · split
    · simp
    · simp only; omega
  · split
    · split
      · simp
      · exact putOptsS_len _
    · simp
def ExtD.ok (x : ExtD) : Prop := Bts x.data ∧ ∀ o ∈ x.opts, Bts o.data
theorem bodyS_bts {x : ExtD} (hx : x.ok) : Bts (bodyS x).1 := by
  unfold bodyS
  split
  · split
    · exact bts_nil
    · exact hx.1
  · split
    · split
      · exact bts_nil
      · exact putOptsS_bts hx.2
    · exact bts_nil
theorem hdrF_stop {l : List ExtD} {next : Int} {top : Bool} {i : Nat} (h : (hdrF l next top i).2 ≠ 0) : ∀ j, i ≤ j → hdrF l next top j = hdrF l next top i := by
  intro j hij
  obtain ⟨d, rfl⟩ : ∃ d, j = i + d := ⟨j - i, by omega⟩
  clear hij
  induction d with
  | zero => rfl
  | succ d ih =>
    have e : hdrF l next top ((i + d) + 1) = hdrF l next top (i + d) := by
      conv => lhs; unfold hdrF
      rw [if_pos (by rw [ih]; exact h)]
    exact e.trans ih
theorem hdrF_step {l : List ExtD} {next : Int} {top : Bool} {i : Nat} {x : ExtD} (h : (hdrF l next top i).2 = 0) (hx : l[i]? = some x) : hdrF l next top (i + 1) = if x.kind = 0 ∧ ¬ (top = true ∧ i = 0) then ([], 73) else if (bodyS x).2 ≠ 0 then ([], (bodyS x).2)
      else ((hdrF l next top i).1 ++ (thenK l next i % 256 :: (((bodyS x).1.length / 8 : Nat) : Int) :: (bodyS x).1), 0) := by
  show (if (hdrF l next top i).2 ≠ 0 then hdrF l next top i else match l[i]? with
    | none => hdrF l next top i
    | some x => if x.kind = 0 ∧ ¬ (top = true ∧ i = 0) then ([], 73) else if (bodyS x).2 ≠ 0 then ([], (bodyS x).2)
      else ((hdrF l next top i).1 ++ (thenK l next i % 256 :: (((bodyS x).1.length / 8 : Nat) : Int) :: (bodyS x).1), 0)) = _
  rw [if_neg (by omega), hx]
theorem hdrF_stopped {l : List ExtD} {next : Int} {top : Bool} {i : Nat} {r : List Int × Int} (h8 : l.length ≤ 8) (h : hdrF l next top i = r) (hr : r.2 ≠ 0) (hi : i ≤ l.length) : headersS l next top = r := by
  unfold headersS
  rw [if_neg (by omega), hdrF_stop (by rw [h]; exact hr) _ hi, h]
theorem hdrF_bts {l : List ExtD} {next : Int} {top : Bool} (hl : ∀ x ∈ l, x.ok) : ∀ i, Bts (hdrF l next top i).1
  | 0 => bts_nil
  | i + 1 => by
    unfold hdrF
    split
    · exact hdrF_bts hl i
    · split
      · exact hdrF_bts hl i
      · rename_i x hx
        split
        · exact bts_nil
        · split
          · exact bts_nil
          · exact (hdrF_bts hl i).append (bts_cons (by omega) (by omega) (bts_cons (by omega) (by have := bodyS_len x; omega) (bodyS_bts (hl x (List.mem_of_getElem? hx)))))
theorem hdrF_len {l : List ExtD} {next : Int} {top : Bool} : ∀ i, (hdrF l next top i).1.length ≤ 2048 * i
  | 0 => Nat.le_refl _
  | i + 1 => by
    have ih := hdrF_len (l := l) (next := next) (top := top) i
    unfold hdrF
    split
    · omega
    · split
      · omega
      · rename_i x hx
        have := bodyS_len x
        split
        · simp
        · split
          · simp
          · simp only [List.length_append, List.length_cons]; omega
theorem headersS_bts {l : List ExtD} {next : Int} {top : Bool} (hl : ∀ x ∈ l, x.ok) : Bts (headersS l next top).1 := by
  unfold headersS
  split
  · exact bts_nil
  · exact hdrF_bts hl _
theorem headersS_len (l : List ExtD) (next : Int) (top : Bool) : (headersS l next top).1.length ≤ 16384 := by
  unfold headersS
  split
  · simp
  · have := hdrF_len (l := l) (next := next) (top := top) l.length; omega
def fitsS (f : FragV) (n : Nat) : Bool := decide (¬ ((f.more = true ∧ (n = 0 ∨ n % 8 ≠ 0)) ∨ (0 < f.off ∧ n = 0)) ∧ f.off + n ≤ 65535)
def upperS (k : Int) : Bool := decide (k ≠ 0 ∧ k ≠ 43 ∧ k ≠ 44 ∧ k ≠ 60)
def fragE (h : Ip6D) : Int :=
  if h.frag.has = true then (if h.frag.id < 0 ∨ 4294967295 < h.frag.id ∨ h.frag.off < 0 ∨ h.frag.off % 8 ≠ 0 ∨ 65528 < h.frag.off ∨ fitsS h.frag h.data.length = false then 76 else 0)
  else if h.frag.more = true ∨ h.frag.id ≠ 0 ∨ h.frag.off ≠ 0 then 76 else if upperS h.next = true then 0 else 72
def b2i (b : Bool) : Int := if b = true then 1 else 0
def four (n : Int) : List Int := [n / 16777216, n / 65536 % 256, n / 256 % 256, n % 256]
def fragB (h : Ip6D) : List Int :=
  if h.frag.has = true then [h.next, 0, (h.frag.off + b2i h.frag.more) / 256, (h.frag.off + b2i h.frag.more) % 256] ++ four h.frag.id else []
def behindK (h : Ip6D) : Int := if h.frag.has = true then 44 else h.next
def firstK (h : Ip6D) : Int := match h.exts with
  | x :: _ => x.kind
  | [] => behindK h
def fieldBad (h : Ip6D) : Prop := h.cls < 0 ∨ 255 < h.cls ∨ h.flow < 0 ∨ 1048575 < h.flow ∨ h.hop < 0 ∨ 255 < h.hop ∨ h.src.v ≠ 6 ∨ h.dst.v ≠ 6 ∨ h.next < 0 ∨ 255 < h.next
instance (h : Ip6D) : Decidable (fieldBad h) := by unfold fieldBad; infer_instance
def head6 (h : Ip6D) (n : Nat) : List Int := [96 + h.cls / 16, h.cls % 16 * 16 + h.flow / 65536, h.flow / 256 % 256, h.flow % 256, (n : Int) / 256, (n : Int) % 256, firstK h, h.hop]
def bodyB (h : Ip6D) : List Int := (headersS h.exts (behindK h) true).1 ++ (fragB h ++ h.data)
def ser6S (h : Ip6D) : List Int × Int :=
  if fieldBad h then ([], 78) else if (headersS h.exts (behindK h) true).2 ≠ 0 then ([], (headersS h.exts (behindK h) true).2)
  else if fragE h ≠ 0 then ([], fragE h) else if 65535 < 40 + (bodyB h).length then ([], 2)
  else (head6 h (bodyB h).length ++ (h.src.bytes ++ (h.dst.bytes ++ bodyB h)), 0)
theorem ser6S_cases (h : Ip6D) : (ser6S h).2 ≠ 0 ∧ (ser6S h).1 = [] ∨ (ser6S h).2 = 0 ∧ ¬ fieldBad h ∧ (headersS h.exts (behindK h) true).2 = 0 ∧ fragE h = 0 ∧ 40 + (bodyB h).length ≤ 65535 ∧ (ser6S h).1 = head6 h (bodyB h).length ++ (h.src.bytes ++ (h.dst.bytes ++ bodyB h)) := by
  unfold ser6S
  split
  · exact .inl ⟨by decide, rfl⟩
  · rename_i h1
    split
    · rename_i h2; exact .inl ⟨h2, rfl⟩
    · rename_i h2
      split
      · rename_i h3; exact .inl ⟨h3, rfl⟩
      · rename_i h3
        split
        · exact .inl ⟨by decide, rfl⟩
        · rename_i h4; exact .inr ⟨rfl, h1, by omega, by omega, by omega, rfl⟩
theorem ser6S_len (h : Ip6D) : (ser6S h).1.length ≤ 65535 := by
  rcases ser6S_cases h with ⟨_, e⟩ | ⟨_, _, _, _, h4, e⟩
  · rw [e]; simp
  · rw [e]
    simp only [List.length_append]
    have : (head6 h (bodyB h).length).length = 8 := rfl
    have : h.src.bytes.length = 16 := rfl
    have : h.dst.bytes.length = 16 := rfl
    omega
end Go.Eng
/- Bit fields as numbers out of bytes: the headers of versions 4 and 6. It speaks of any program. -/
namespace Go.Eng
theorem fieldV_sum (f : Nat → Int) (p a : Nat) : ∀ b, fieldV f p (a + b) = fieldV f p a * 2 ^ b + fieldV f (p + a) b
  | 0 => by simp [fieldV]
  | b + 1 => by
    rw [← Nat.add_assoc]
    simp only [fieldV]
    have e : fieldV f p a * 2 ^ (b + 1) = 2 * (fieldV f p a * 2 ^ b) := by
      rw [Int.pow_succ, ← Int.mul_assoc, Int.mul_comm _ 2]
    rw [fieldV_sum f p a b, e, Nat.add_assoc p a b]
    omega
/-- A field within a byte. -/
theorem fieldV_in {bs : List Int} (hB : Bts bs) (q s : Nat) : ∀ k, s + k ≤ 8 → fieldV (bitAt bs) (8 * q + s) k = bs.getD q 0 / 2 ^ (8 - s - k) % 2 ^ k
  | 0, _ => by simp [fieldV, Int.emod_one]
  | k + 1, h => by
    simp only [fieldV]
    rw [fieldV_in hB q s k (by omega)]
    have hx : ∃ X : Nat, bs.getD q 0 = (X : Int) := by
      by_cases hq : q < bs.length
      · have := hB.at hq
        have e : bs.getD q 0 = bs[q] := by simp [hq]
        exact ⟨bs[q].toNat, by rw [e]; omega⟩
      · exact ⟨0, by simp [List.getD_eq_getElem?_getD, List.getElem?_eq_none (by omega : bs.length ≤ q)]⟩
    obtain ⟨X, hX⟩ := hx
    have hb : bitAt bs (8 * q + s + k) = bs.getD q 0 / 2 ^ (7 - (s + k)) % 2 := by
      unfold bitAt
      rw [show (8 * q + s + k) / 8 = q by omega, show (8 * q + s + k) % 8 = s + k by omega]
    rw [hb, hX]
    obtain ⟨m, hm⟩ : ∃ m, 7 - (s + k) = m := ⟨_, rfl⟩
    rw [show 8 - s - k = m + 1 by omega, show 8 - s - (k + 1) = m by omega, hm]
    have e1 : ((X : Int) / 2 ^ (m + 1)) = ((X / 2 ^ m / 2 : Nat) : Int) := by
      rw [Nat.div_div_eq_div_mul, ← Nat.pow_succ]; simp
    have e2 : ((X : Int) / 2 ^ m) = ((X / 2 ^ m : Nat) : Int) := by simp
    rw [e1, e2]
    generalize X / 2 ^ m = Y
    have := Nat.mod_mul (x := Y) (a := 2) (b := 2 ^ k)
    have e3 : (2 : Int) ^ k = ((2 ^ k : Nat) : Int) := by simp
    have e4 : (2 : Int) ^ (k + 1) = ((2 * 2 ^ k : Nat) : Int) := by rw [Int.pow_succ]; simp [Int.mul_comm]
    rw [e3, e4, ← Int.natCast_emod, ← Int.natCast_emod, this]
    simp
    omega
theorem getD_bts {bs : List Int} (hB : Bts bs) (q : Nat) : 0 ≤ bs.getD q 0 ∧ bs.getD q 0 < 256 := by
  by_cases hq : q < bs.length
  · have e : bs.getD q 0 = bs[q] := by simp [hq]
    rw [e]; exact hB.at hq
  · rw [List.getD_eq_getElem?_getD, List.getElem?_eq_none (by omega : bs.length ≤ q)]; decide
theorem fieldV_whole {bs : List Int} (hB : Bts bs) (q : Nat) : fieldV (bitAt bs) (8 * q) 8 = bs.getD q 0 := by
  have := fieldV_in hB q 0 8 (by decide)
  have hb := getD_bts hB q
  rw [Nat.add_zero] at this
  rw [this]
  simp only [Nat.sub_zero, Nat.sub_self, Int.pow_zero, Int.ediv_one, Int.reducePow]
  omega
theorem fieldV_two {bs : List Int} (hB : Bts bs) (q : Nat) : fieldV (bitAt bs) (8 * q) 16 = bs.getD q 0 * 256 + bs.getD (q + 1) 0 := by
  rw [show 16 = 8 + 8 from rfl, fieldV_sum, fieldV_whole hB, show 8 * q + 8 = 8 * (q + 1) by omega, fieldV_whole hB]; rfl
theorem fieldV_four {bs : List Int} (hB : Bts bs) (q : Nat) : fieldV (bitAt bs) (8 * q) 32 = ((bs.getD q 0 * 256 + bs.getD (q + 1) 0) * 256 + bs.getD (q + 2) 0) * 256 + bs.getD (q + 3) 0 := by
  rw [show 32 = 16 + 16 from rfl, fieldV_sum, fieldV_two hB, show 8 * q + 16 = 8 * (q + 2) by omega, fieldV_two hB, show q + 2 + 1 = q + 3 from rfl]
  simp only [Int.reducePow]
  omega
/-! ### Version 6 -/
def ws6 : List Int := [4, 8, 20, 16, 8, 8]
def wsf : List Int := [8, 8, 13, 2, 1, 32]
theorem ws6_ok : widthsOk ws6 := ⟨by decide, by intro x hx; simp [ws6] at hx; omega, by decide⟩
theorem wsf_ok : widthsOk wsf := ⟨by decide, by intro x hx; simp [wsf] at hx; omega, by decide⟩
theorem ws6_fields {bs : List Int} (hB : Bts bs) : fieldsV (bitAt bs) 0 ws6 = [bs.getD 0 0 / 16, bs.getD 0 0 % 16 * 16 + bs.getD 1 0 / 16, (bs.getD 1 0 % 16 * 256 + bs.getD 2 0) * 256 + bs.getD 3 0, bs.getD 4 0 * 256 + bs.getD 5 0, bs.getD 6 0, bs.getD 7 0] := by
  have b0 := getD_bts hB 0
  have b1 := getD_bts hB 1
  have h0 := fieldV_in hB 0 0 4 (by decide)
  have h1 := fieldV_in hB 0 4 4 (by decide)
  have h2 := fieldV_in hB 1 0 4 (by decide)
  have h3 := fieldV_in hB 1 4 4 (by decide)
  have h4 := fieldV_two hB 2
  have h5 := fieldV_two hB 4
  have h6 := fieldV_whole hB 6
  have h7 := fieldV_whole hB 7
  have s1 := fieldV_sum (bitAt bs) 4 4 4
  have s2 := fieldV_sum (bitAt bs) 12 4 16
  simp only [Int.reducePow, Nat.reduceMul, Nat.reduceAdd, Nat.reduceSub, Nat.zero_add, Nat.mul_zero] at h0 h1 h2 h3 h4 h5 h6 h7 s1 s2
  simp only [ws6, fieldsV, show (4 : Int).toNat = 4 from rfl, show (8 : Int).toNat = 8 from rfl, show (20 : Int).toNat = 20 from rfl, show (16 : Int).toNat = 16 from rfl, Nat.zero_add, Nat.reduceAdd, List.cons.injEq, and_true]
  rw [h0, s1, h1, h2, s2, h3, h4, h5, h6, h7]
  omega
theorem wsf_fields {bs : List Int} (hB : Bts bs) : fieldsV (bitAt bs) 0 wsf = [bs.getD 0 0, bs.getD 1 0, bs.getD 2 0 * 32 + bs.getD 3 0 / 8, bs.getD 3 0 / 2 % 4, bs.getD 3 0 % 2, ((bs.getD 4 0 * 256 + bs.getD 5 0) * 256 + bs.getD 6 0) * 256 + bs.getD 7 0] := by
  have b3 := getD_bts hB 3
  have h0 := fieldV_whole hB 0
  have h1 := fieldV_whole hB 1
  have h2 := fieldV_whole hB 2
  have h3 := fieldV_in hB 3 0 5 (by decide)
  have h4 := fieldV_in hB 3 5 2 (by decide)
  have h5 := fieldV_in hB 3 7 1 (by decide)
  have h6 := fieldV_four hB 4
  have s1 := fieldV_sum (bitAt bs) 16 8 5
  simp only [Int.reducePow, Nat.reduceMul, Nat.reduceAdd, Nat.reduceSub, Nat.mul_zero] at h0 h1 h2 h3 h4 h5 h6 s1
  simp only [wsf, fieldsV, show (13 : Int).toNat = 13 from rfl, show (8 : Int).toNat = 8 from rfl, show (2 : Int).toNat = 2 from rfl, show (1 : Int).toNat = 1 from rfl, show (32 : Int).toNat = 32 from rfl, Nat.zero_add, Nat.reduceAdd, List.cons.injEq, and_true]
  rw [h0, h1, s1, h2, h3, h4, h5, h6]
  omega
theorem list8 {ds : List Int} (h : ds.length = 8) : ∃ a b c d e f g i, ds = [a, b, c, d, e, f, g, i] := by
  match ds, h with
  | [a, b, c, d, e, f, g, i], _ => exact ⟨a, b, c, d, e, f, g, i, rfl⟩
theorem packed6 {cls flow n first hop : Int} {ds : List Int} (h : Packed ws6 [6, cls, flow, n, first, hop] ds) :
    ds = [96 + cls / 16, cls % 16 * 16 + flow / 65536, flow / 256 % 256, flow % 256, n / 256, n % 256, first, hop] := by
  have hl : ds.length = 8 := by have := h.len; have e : psum ws6 = 64 := by decide
                                omega
  have hB := h.bts
  have hv := h.vals
  rw [ws6_fields hB] at hv
  obtain ⟨b0, b1, b2, b3, b4, b5, b6, b7, rfl⟩ := list8 hl
  have q0 := hB b0 (by simp)
  have q1 := hB b1 (by simp)
  have q2 := hB b2 (by simp)
  have q3 := hB b3 (by simp)
  have q4 := hB b4 (by simp)
  have q5 := hB b5 (by simp)
  simp only [List.getD_cons_zero, List.getD_cons_succ, List.cons.injEq, and_true] at hv
  simp only [List.cons.injEq, and_true]
  omega
theorem packedF {next off more id : Int} {ds : List Int} (hm : 0 ≤ more ∧ more ≤ 1) (ho : off % 8 = 0) (h : Packed wsf [next, 0, off / 8, 0, more, id] ds) :
    ds = [next, 0, (off + more) / 256, (off + more) % 256] ++ four id := by
  have hl : ds.length = 8 := by have := h.len; have e : psum wsf = 64 := by decide
                                omega
  have hB := h.bts
  have hv := h.vals
  rw [wsf_fields hB] at hv
  obtain ⟨b0, b1, b2, b3, b4, b5, b6, b7, rfl⟩ := list8 hl
  have q0 := hB b0 (by simp)
  have q1 := hB b1 (by simp)
  have q2 := hB b2 (by simp)
  have q3 := hB b3 (by simp)
  have q4 := hB b4 (by simp)
  have q5 := hB b5 (by simp)
  have q6 := hB b6 (by simp)
  have q7 := hB b7 (by simp)
  simp only [List.getD_cons_zero, List.getD_cons_succ, List.cons.injEq, and_true] at hv
  simp only [four, List.cons_append, List.nil_append, List.cons.injEq, and_true]
  omega
end Go.Eng
/- Chapter 6 by value: what options and a datagram of version 4 are written as. -/
namespace Go.Eng
open Go Go.RowKit
def opt4B (o : OptD) : Option (List Int) := if o.kind < 2 ∨ 255 < o.kind ∨ 38 < o.data.length then none else some (o.kind :: ((o.data.length + 2 : Nat) : Int) :: o.data)
def opt4F (l : List OptD) : Nat → Option (List Int)
  | 0 => some []
  | i + 1 => match opt4F l i, l[i]? with
    | some out, some o => match opt4B o with
      | some b => some (out ++ b)
      | none => none
    | _, _ => none
def pad4 (n : Nat) : Nat := (4 - n % 4) % 4
def putOpts4 (l : List OptD) : List Int × Int := match opt4F l l.length with
  | some out => if 40 < out.length then ([], 65) else (out ++ List.replicate (pad4 out.length) 0, 0)
  | none => ([], 65)
theorem opt4F_step {l : List OptD} {i : Nat} {out : List Int} {o : OptD} (h : opt4F l i = some out) (ho : l[i]? = some o) : opt4F l (i + 1) = match opt4B o with
      | some b => some (out ++ b)
      | none => none := by
  show (match opt4F l i, l[i]? with
    | some out, some o => match opt4B o with
      | some b => some (out ++ b)
      | none => none
    | _, _ => none) = _
  rw [h, ho]
theorem opt4F_none {l : List OptD} {i : Nat} (h : opt4F l i = none) : ∀ j, i ≤ j → opt4F l j = none := by
  intro j hij
  obtain ⟨d, rfl⟩ : ∃ d, j = i + d := ⟨j - i, by omega⟩
  clear hij
  induction d with
  | zero => exact h
  | succ d ih =>
    show opt4F l ((i + d) + 1) = none
    unfold opt4F; rw [ih]
theorem opt4F_long {l : List OptD} {i : Nat} {out : List Int} (h : opt4F l i = some out) : ∀ d, opt4F l (i + d) = none ∨ ∃ r, opt4F l (i + d) = some (out ++ r) := by
  intro d
  induction d with
  | zero => exact .inr ⟨[], by simpa using h⟩
  | succ d ih =>
    show opt4F l ((i + d) + 1) = none ∨ ∃ r, opt4F l ((i + d) + 1) = some (out ++ r)
    rcases ih with e | ⟨r, e⟩
    · exact .inl (opt4F_none e _ (by omega))
    · unfold opt4F
      rw [e]
      cases l[i + d]? with
      | none => exact .inl rfl
      | some o =>
        simp only
        cases opt4B o with
        | none => exact .inl rfl
        | some b => exact .inr ⟨r ++ b, by simp⟩
theorem putOpts4_none {l : List OptD} {i : Nat} {o : OptD} {out : List Int} (h : opt4F l i = some out) (ho : l[i]? = some o) (hb : opt4B o = none) : putOpts4 l = ([], 65) := by
  have hi := (List.getElem?_eq_some_iff.1 ho).1
  unfold putOpts4
  rw [opt4F_none (i := i + 1) (by rw [opt4F_step h ho, hb]) _ (by omega)]
theorem putOpts4_long {l : List OptD} {i : Nat} {out : List Int} (h : opt4F l i = some out) (hi : i ≤ l.length) (hl : 40 < out.length) : putOpts4 l = ([], 65) := by
  obtain ⟨d, hd⟩ : ∃ d, l.length = i + d := ⟨l.length - i, by omega⟩
  unfold putOpts4
  rw [hd]
  rcases opt4F_long h d with e | ⟨r, e⟩
  · rw [e]
  · rw [e]; simp only; rw [if_pos (by rw [List.length_append]; omega)]
theorem opt4B_bts {o : OptD} {b : List Int} (h : opt4B o = some b) (ho : Bts o.data) : Bts b := by
  unfold opt4B at h
  split at h
  · cases h
  · injection h with h; subst h; exact bts_cons (by omega) (by omega) (bts_cons (by omega) (by omega) ho)
theorem opt4F_bts {l : List OptD} (hl : ∀ o ∈ l, Bts o.data) : ∀ {i : Nat} {out : List Int}, opt4F l i = some out → Bts out
  | 0, out, h => by unfold opt4F at h; injection h with h; subst h; exact bts_nil
  | i + 1, out, h => by
    unfold opt4F at h
    split at h
    · rename_i a b o h1 h2
      split at h
      · rename_i c h3
        injection h with h; subst h
        exact (opt4F_bts hl h1).append (opt4B_bts h3 (hl _ (List.mem_of_getElem? h2)))
      · cases h
    · cases h
theorem putOpts4_bts {l : List OptD} (hl : ∀ o ∈ l, Bts o.data) : Bts (putOpts4 l).1 := by
  unfold putOpts4
  split
  · rename_i out h
    split
    · exact bts_nil
    · exact (opt4F_bts hl h).append (bts_zeros _)
  · exact bts_nil
theorem pad4_lt (n : Nat) : pad4 n ≤ 3 ∧ (n + pad4 n) % 4 = 0 := by unfold pad4; omega
theorem putOpts4_len (l : List OptD) : (putOpts4 l).1.length ≤ 40 ∧ (putOpts4 l).1.length % 4 = 0 := by
  unfold putOpts4
  split
  · rename_i out h
    split
    · exact ⟨by simp, rfl⟩
    · have := pad4_lt out.length
      simp only [List.length_append, List.length_replicate]
      omega
  · exact ⟨by simp, rfl⟩
def four4 (p : IPV) : Prop := p.v = 4 ∧ p.a4 = 0 ∧ p.a5 = 0 ∧ p.a6 = 0 ∧ p.a7 = 0 ∧ p.a8 = 0 ∧ p.a9 = 0 ∧ p.a10 = 0 ∧ p.a11 = 0 ∧ p.a12 = 0 ∧ p.a13 = 0 ∧ p.a14 = 0 ∧ p.a15 = 0
instance (p : IPV) : Decidable (four4 p) := by unfold four4; infer_instance
def bad4 (d : Ip4D) : Prop := d.tos < 0 ∨ 255 < d.tos ∨ d.id < 0 ∨ 65535 < d.id ∨ d.off < 0 ∨ 65528 < d.off ∨ d.off % 8 ≠ 0 ∨ d.ttl < 0 ∨ 255 < d.ttl ∨ d.proto < 0 ∨ 255 < d.proto ∨ ¬ four4 d.src ∨ ¬ four4 d.dst
instance (d : Ip4D) : Decidable (bad4 d) := by unfold bad4; infer_instance
def frag4 (mf : Bool) (off : Int) (n : Nat) : Prop := (mf = true ∧ (n = 0 ∨ n % 8 ≠ 0)) ∨ 65515 < off + n
instance (mf : Bool) (off : Int) (n : Nat) : Decidable (frag4 mf off n) := by unfold frag4; infer_instance
def check4S (d : Ip4D) : Int :=
  if bad4 d then 68 else if (putOpts4 d.opts).2 ≠ 0 then (putOpts4 d.opts).2 else if 65535 < 20 + (putOpts4 d.opts).1.length + d.data.length then 63
  else if frag4 d.mf d.off d.data.length then 66 else 0
def word4 (d : Ip4D) : Int := d.off / 8 + (if d.df = true then 16384 else 0) + (if d.mf = true then 8192 else 0)
def tot4 (d : Ip4D) : Nat := 20 + (putOpts4 d.opts).1.length + d.data.length
def front4 (d : Ip4D) : List Int :=
  [64 + (((20 + (putOpts4 d.opts).1.length) / 4 : Nat) : Int), d.tos, (tot4 d : Int) / 256, (tot4 d : Int) % 256, d.id / 256, d.id % 256, word4 d / 256, word4 d % 256, d.ttl, d.proto]
def ip4B (p : IPV) : List Int := [p.a0, p.a1, p.a2, p.a3]
def back4 (d : Ip4D) : List Int := ip4B d.src ++ (ip4B d.dst ++ (putOpts4 d.opts).1)
def sum4 (d : Ip4D) : Int := 65535 - sumS (front4 d ++ ([0, 0] ++ back4 d))
def ser4S (d : Ip4D) : List Int × Int :=
  if check4S d ≠ 0 then ([], check4S d) else (front4 d ++ ([sum4 d / 256, sum4 d % 256] ++ (back4 d ++ d.data)), 0)
theorem check4S_ok {d : Ip4D} (h : check4S d = 0) : ¬ bad4 d ∧ (putOpts4 d.opts).2 = 0 ∧ tot4 d ≤ 65535 ∧ ¬ frag4 d.mf d.off d.data.length := by
  unfold check4S at h
  split at h
  · cases h
  · rename_i h1
    split at h
    · rename_i h2; exact absurd h h2
    · rename_i h2
      split at h
      · cases h
      · rename_i h3
        split at h
        · cases h
        · rename_i h4; exact ⟨h1, by omega, by unfold tot4; omega, h4⟩
theorem sum_gap {a b : List Int} (h : a.length % 2 = 0) : sumS (a ++ ([0, 0] ++ b)) = sumS (a ++ b) := by
  unfold sumS
  have hf : flipS true a.length = true := by unfold flipS; rw [if_pos h]
  rw [rawS_append, rawS_append, rawS_append, hf]
  have : rawS true [0, 0] = 0 := rfl
  have : flipS true ([0, 0] : List Int).length = true := rfl
  simp_all
/-! ### Its twelve fields -/
end Go.Eng
/- Chapter 13 by value: where the parts stand, and what the pieces are. -/
namespace Go.Eng
open Go Go.RowKit
def room (a b mtu p : Nat) : Nat := mtu - (if p = 0 then a else b)
/-- Where the parts of n bytes stand, and how long they are: behind a head of a bytes the first, of b bytes the others. -/
def pieces (a b mtu n : Nat) : Nat → Nat → List (Nat × Nat)
  | 0, _ => []
  | f + 1, p => if n - p ≤ room a b mtu p then [(p, n - p)] else (p, room a b mtu p / 8 * 8) :: pieces a b mtu n f (p + room a b mtu p / 8 * 8)
section
variable {a b mtu n : Nat}
theorem room_ge (ha : a + 8 ≤ mtu) (hb : b + 8 ≤ mtu) (p : Nat) : 8 ≤ room a b mtu p ∧ room a b mtu p ≤ mtu := by unfold room; split <;> omega
theorem pieces_fuel (ha : a + 8 ≤ mtu) (hb : b + 8 ≤ mtu) : ∀ f g p, n - p < f → n - p < g → pieces a b mtu n f p = pieces a b mtu n g p
  | 0, _, _, h, _ => by omega
  | _ + 1, 0, _, _, h => by omega
  | f + 1, g + 1, p, h, k => by
    have := room_ge ha hb p
    unfold pieces
    split
    · rfl
    · rw [pieces_fuel ha hb f g _ (by omega) (by omega)]
def parts (a b mtu n p : Nat) : List (Nat × Nat) := pieces a b mtu n (n - p + 1) p
theorem parts_last {p : Nat} (h : n - p ≤ room a b mtu p) : parts a b mtu n p = [(p, n - p)] := by unfold parts pieces; rw [if_pos h]
theorem parts_more (ha : a + 8 ≤ mtu) (hb : b + 8 ≤ mtu) {p : Nat} (h : ¬ n - p ≤ room a b mtu p) : parts a b mtu n p = (p, room a b mtu p / 8 * 8) :: parts a b mtu n (p + room a b mtu p / 8 * 8) := by
  have := room_ge ha hb p
  unfold parts
  conv => lhs; unfold pieces
  rw [if_neg h, pieces_fuel ha hb (n - p) _ _ (by omega) (Nat.lt_succ_self _)]
end
theorem parts_le {a b mtu n : Nat} (ha : a + 8 ≤ mtu) (hb : b + 8 ≤ mtu) : ∀ f p, p ≤ n → ∀ x ∈ pieces a b mtu n f p, x.1 + x.2 ≤ n
  | 0, _, _, x, hx => by cases hx
  | f + 1, p, hp, x, hx => by
    unfold pieces at hx
    split at hx
    · simp at hx; subst hx; show p + (n - p) ≤ n; omega
    · have := room_ge ha hb p
      rcases List.mem_cons.1 hx with rfl | hx
      · show p + _ ≤ n; omega
      · exact parts_le ha hb f _ (by omega) x hx
def hi (o : OptD) : Bool := decide (128 ≤ o.kind)
def piece4 (d : Ip4D) (x : Nat × Nat) : Ip4D :=
  { d with off := d.off + x.1, data := (d.data.drop x.1).take x.2, mf := decide (x.1 + x.2 < d.data.length) || d.mf, opts := if x.1 = 0 then d.opts else d.opts.filter hi }
def hd4 (d : Ip4D) : Nat := 20 + (putOpts4 d.opts).1.length
def hd4k (d : Ip4D) : Nat := 20 + (putOpts4 (d.opts.filter hi)).1.length
def split4S (d : Ip4D) (mtu : Int) : List Ip4D × Int :=
  if check4S d ≠ 0 then ([], check4S d) else if mtu < 68 ∨ 65535 < mtu then ([], 132)
  else if (hd4 d + d.data.length : Nat) ≤ mtu then ([d], 0) else if d.df = true then ([], 130)
  else ((parts (hd4 d) (hd4k d) mtu.toNat d.data.length 0).map (piece4 d), 0)
theorem putOpts4_of (l : List OptD) : ∀ i, i ≤ l.length → opt4F l i = if (l.take i).all (fun o => (opt4B o).isSome) = true then some ((l.take i).flatMap fun o => (opt4B o).getD []) else none
  | 0, _ => by simp [opt4F]
  | i + 1, h => by
    have ih := putOpts4_of l i (by omega)
    have hx : l[i]? = some l[i] := List.getElem?_eq_getElem (by omega)
    rw [List.take_succ_eq_append_getElem (by omega), List.all_append, List.flatMap_append]
    by_cases h1 : (l.take i).all (fun o => (opt4B o).isSome) = true
    · rw [if_pos h1] at ih
      rw [opt4F_step ih hx, h1]
      cases hb : opt4B l[i] with
      | none => simp [hb]
      | some b => simp [hb]
    · rw [if_neg h1] at ih
      rw [opt4F_none ih _ (Nat.le_succ i)]
      rw [Bool.not_eq_true] at h1
      rw [h1]; simp
theorem putOpts4_eq (l : List OptD) : putOpts4 l = if l.all (fun o => (opt4B o).isSome) = true ∧ (l.flatMap fun o => (opt4B o).getD []).length ≤ 40 then ((l.flatMap fun o => (opt4B o).getD []) ++ List.replicate (pad4 (l.flatMap fun o => (opt4B o).getD []).length) 0, 0) else ([], 65) := by
  have := putOpts4_of l l.length (Nat.le_refl _)
  rw [List.take_length] at this
  unfold putOpts4
  rw [this]
  by_cases h1 : l.all (fun o => (opt4B o).isSome) = true
  · rw [if_pos h1]
    simp only
    by_cases h2 : 40 < (l.flatMap fun o => (opt4B o).getD []).length
    · rw [if_pos h2, if_neg (fun h => by omega)]
    · rw [if_neg h2, if_pos ⟨h1, by omega⟩]
  · rw [if_neg h1, if_neg (fun h => h1 h.1)]
theorem flatMap_filter_len {α β : Type} (p : α → Bool) (f : α → List β) : ∀ l : List α, ((l.filter p).flatMap f).length ≤ (l.flatMap f).length
  | [] => Nat.le_refl _
  | x :: l => by
    have ih := flatMap_filter_len p f l
    rw [List.filter_cons]
    split
    · simp only [List.flatMap_cons, List.length_append]; omega
    · simp only [List.flatMap_cons, List.length_append]; omega
theorem putOpts4_filter {l : List OptD} (p : OptD → Bool) (h : (putOpts4 l).2 = 0) : (putOpts4 (l.filter p)).2 = 0 := by
  rw [putOpts4_eq] at h
  split at h
  · rename_i h1
    have h2 : (l.filter p).all (fun o => (opt4B o).isSome) = true := by
      rw [List.all_eq_true]
      intro o ho
      exact List.all_eq_true.1 h1.1 o (List.mem_filter.1 ho).1
    rw [putOpts4_eq, if_pos ⟨h2, Nat.le_trans (flatMap_filter_len p _ l) h1.2⟩]
  · cases h
theorem putOpts4_kinds {l : List OptD} (h : (putOpts4 l).2 = 0) : ∀ o ∈ l, 2 ≤ o.kind ∧ o.kind ≤ 255 ∧ o.data.length ≤ 38 := by
  rw [putOpts4_eq] at h
  split at h
  · rename_i h1
    rw [List.all_eq_true] at h1
    intro o ho
    have := h1.1 o ho
    unfold opt4B at this
    split at this
    · cases this
    · omega
  · cases h
/-! ### Version 6 -/
def last43 : List ExtD → Nat
  | [] => 0
  | x :: r => if 0 < last43 r then last43 r + 1 else if x.kind = 43 then 1 else 0
/-- How many of the extension headers go with every piece. -/
def keptS (l : List ExtD) : Nat := if 0 < last43 l then last43 l else match l with
  | [] => 0
  | x :: _ => if x.kind = 0 then 1 else 0
theorem last43_le : ∀ l : List ExtD, last43 l ≤ l.length
  | [] => Nat.le_refl _
  | x :: r => by
    have := last43_le r
    unfold last43
    split
    · simp only [List.length_cons]; omega
    · split <;> simp
theorem keptS_le (l : List ExtD) : keptS l ≤ l.length := by
  have := last43_le l
  unfold keptS
  split
  · exact this
  · split
    · exact Nat.zero_le _
    · split <;> simp
def hl (l : List ExtD) : Nat := (l.map fun x => 2 + (bodyS x).1.length).sum
theorem hl_append (a b : List ExtD) : hl (a ++ b) = hl a + hl b := by unfold hl; simp
def hdrOk (l : List ExtD) (top : Bool) (i : Nat) : Prop := ∀ j x, j < i → l[j]? = some x → ¬ (x.kind = 0 ∧ ¬ (top = true ∧ j = 0)) ∧ (bodyS x).2 = 0
theorem hdrF_ok {l : List ExtD} {next : Int} {top : Bool} : ∀ {i : Nat}, i ≤ l.length → (hdrF l next top i).2 = 0 → hdrOk l top i ∧ (hdrF l next top i).1.length = hl (l.take i)
  | 0, _, _ => ⟨fun j x h => by omega, by simp [hdrF, hl]⟩
  | i + 1, h, he => by
    have hx : l[i]? = some l[i] := List.getElem?_eq_getElem (by omega)
    have h0 : (hdrF l next top i).2 = 0 := Classical.byContradiction fun hne => by rw [hdrF_stop hne _ (Nat.le_succ i)] at he; exact hne he
    obtain ⟨ih1, ih2⟩ := hdrF_ok (Nat.le_of_succ_le h) h0
    rw [hdrF_step h0 hx] at he ⊢
    split at he
    · cases he
    · rename_i h1
      split at he
      · rename_i h2; exact absurd he h2
      · rename_i h2
        rw [if_neg h1, if_neg h2]
        refine ⟨fun j x hj hjx => ?_, ?_⟩
        · by_cases e : j = i
          · subst e; rw [hx] at hjx; cases hjx; exact ⟨h1, by omega⟩
          · exact ih1 j x (by omega) hjx
        · rw [List.take_succ_eq_append_getElem (by omega), hl_append]
          simp only [List.length_append, List.length_cons, ih2, hl, List.map_cons, List.map_nil, List.sum_cons, List.sum_nil]
          omega
theorem hdrF_of {l : List ExtD} {next : Int} {top : Bool} : ∀ {i : Nat}, i ≤ l.length → hdrOk l top i → (hdrF l next top i).2 = 0
  | 0, _, _ => rfl
  | i + 1, h, ho => by
    have hx : l[i]? = some l[i] := List.getElem?_eq_getElem (by omega)
    have h0 := hdrF_of (next := next) (Nat.le_of_succ_le h) fun j x hj => ho j x (by omega)
    have := ho i _ (Nat.lt_succ_self i) hx
    rw [hdrF_step h0 hx, if_neg this.1, if_neg (by omega)]
theorem headersS_ok {l : List ExtD} {next : Int} {top : Bool} (h : (headersS l next top).2 = 0) : l.length ≤ 8 ∧ hdrOk l top l.length ∧ (headersS l next top).1.length = hl l := by
  unfold headersS at h ⊢
  split at h
  · cases h
  · rename_i h1
    rw [if_neg h1]
    obtain ⟨h2, h3⟩ := hdrF_ok (Nat.le_refl _) h
    rw [List.take_length] at h3
    exact ⟨by omega, h2, h3⟩
theorem headersS_of {l : List ExtD} {next : Int} {top : Bool} (h8 : l.length ≤ 8) (h : hdrOk l top l.length) : (headersS l next top).2 = 0 := by
  unfold headersS
  rw [if_neg (by omega)]
  exact hdrF_of (Nat.le_refl _) h
/-- Headers that may be, parted where the kept ones end. -/
theorem headersS_kept {l : List ExtD} {next nx n2 : Int} (h : (headersS l next true).2 = 0) : (headersS (l.take (keptS l)) nx true).2 = 0 ∧ (headersS (l.drop (keptS l)) n2 false).2 = 0 ∧
    (headersS l next true).1.length = (headersS (l.take (keptS l)) nx true).1.length + (headersS (l.drop (keptS l)) n2 false).1.length := by
  obtain ⟨h8, ho, hlen⟩ := headersS_ok h
  have hk := keptS_le l
  have h1 : (headersS (l.take (keptS l)) nx true).2 = 0 := headersS_of (by rw [List.length_take]; omega) fun j x hj hx => by
    rw [List.length_take] at hj
    refine ho j x (by omega) ?_
    rw [List.getElem?_take] at hx
    split at hx
    · exact hx
    · cases hx
  have h2 : (headersS (l.drop (keptS l)) n2 false).2 = 0 := headersS_of (by rw [List.length_drop]; omega) fun j x hj hx => by
    rw [List.length_drop] at hj
    rw [List.getElem?_drop] at hx
    have hq := ho (keptS l + j) x (by omega) hx
    refine ⟨fun hz => hq.1 ⟨hz.1, fun ht => ?_⟩, hq.2⟩
    have hk0 : keptS l = 0 := by omega
    have hj0 : j = 0 := by omega
    subst hj0
    rw [hk0] at hx
    unfold keptS at hk0
    split at hk0
    · omega
    · cases l with
      | nil => simp at hx
      | cons y r =>
        simp at hx
        subst hx
        simp only at hk0
        rw [if_pos hz.1] at hk0
        cases hk0
  refine ⟨h1, h2, ?_⟩
  rw [hlen, (headersS_ok h1).2.2, (headersS_ok h2).2.2, ← hl_append, List.take_append_drop]
def rest6 (d : Ip6D) : List Int := (headersS (d.exts.drop (keptS d.exts)) d.next false).1 ++ d.data
def hd6 (d : Ip6D) : Nat := (ser6S d).1.length - (rest6 d).length + 8
def firstR (d : Ip6D) : Int := match d.exts.drop (keptS d.exts) with
  | x :: _ => x.kind
  | [] => d.next
theorem split6_len {d : Ip6D} (h : (ser6S d).2 = 0) (hf : d.frag.has = false) (nx : Int) : (headersS (d.exts.take (keptS d.exts)) nx true).2 = 0 ∧ (headersS (d.exts.drop (keptS d.exts)) d.next false).2 = 0 ∧
    (ser6S d).1.length = 40 + (headersS (d.exts.take (keptS d.exts)) nx true).1.length + (rest6 d).length ∧ ¬ fieldBad d ∧ upperS d.next = true := by
  rcases ser6S_cases d with ⟨h0, _⟩ | ⟨_, h1, h2, h3, h4, h5⟩
  · exact absurd h h0
  · obtain ⟨k1, k2, k3⟩ := headersS_kept (l := d.exts) (next := behindK d) (nx := nx) (n2 := d.next) h2
    refine ⟨k1, k2, ?_, h1, ?_⟩
    · rw [h5]
      have e1 : fragB d = [] := by unfold fragB; rw [if_neg (by rw [hf]; decide)]
      unfold rest6 bodyB
      rw [e1]
      simp only [List.length_append, List.nil_append]
      have : ∀ n, (head6 d n).length = 8 := fun _ => rfl
      have : d.src.bytes.length = 16 := rfl
      have : d.dst.bytes.length = 16 := rfl
      have e2 : (headersS d.exts (behindK d) true).1.length = (headersS (d.exts.take (keptS d.exts)) nx true).1.length + (headersS (d.exts.drop (keptS d.exts)) d.next false).1.length := k3
      rw [e2]
      simp only [*]
      omega
    · unfold fragE at h3
      rw [if_neg (by rw [hf]; decide)] at h3
      split at h3
      · cases h3
      · split at h3
        · assumption
        · cases h3
def piece6 (d : Ip6D) (id : Int) (x : Nat × Nat) : Ip6D :=
  { d with exts := d.exts.take (keptS d.exts), next := firstR d, frag := ⟨true, decide (x.1 + x.2 < (rest6 d).length), id, x.1⟩, data := ((rest6 d).drop x.1).take x.2 }
def split6S (d : Ip6D) (mtu id : Int) : List Ip6D × Int :=
  if (ser6S d).2 ≠ 0 then ([], (ser6S d).2) else if mtu < 1280 ∨ 65535 < mtu then ([], 132) else if id < 0 ∨ 4294967295 < id then ([], 1)
  else if ((ser6S d).1.length : Int) ≤ mtu then ([d], 0) else if d.frag.has = true then ([], 131) else if mtu < (hd6 d + 8 : Nat) then ([], 133)
  else ((parts (hd6 d) (hd6 d) mtu.toNat (rest6 d).length 0).map (piece6 d id), 0)
end Go.Eng
/- Chapter 13 by value: how the pieces lie one behind the other. -/
namespace Go.Eng
open Go Go.RowKit
section
variable {a b mtu n : Nat}
end
end Go.Eng
/- Chapter 13 by value: what each piece of version 4 is worth. -/
namespace Go.Eng
open Go Go.RowKit
/-- Parts behind heads of a bytes (the first) and b bytes (the others), as long as can be. -/
def Fit (a b mtu n : Nat) : Nat → List (Nat × Nat) → Prop
  | p, [] => p = n
  | p, x :: l => x.1 = p ∧ p % 8 = 0 ∧ (0 < p → p < n) ∧ p + x.2 ≤ n ∧ x.2 ≤ room a b mtu p ∧ (l = [] → p + x.2 = n) ∧ (l ≠ [] → 0 < x.2 ∧ x.2 % 8 = 0 ∧ p + x.2 < n ∧ room a b mtu p < x.2 + 8) ∧ Fit a b mtu n (p + x.2) l
section
variable {a b mtu n : Nat}
theorem pieces_ne (_ha : a + 8 ≤ mtu) (_hb : b + 8 ≤ mtu) (f p : Nat) (h : n - p < f) : pieces a b mtu n f p ≠ [] := by
  cases f with
  | zero => omega
  | succ f => unfold pieces; split <;> simp
theorem parts_fit (ha : a + 8 ≤ mtu) (hb : b + 8 ≤ mtu) : ∀ f p, n - p < f → p ≤ n → p % 8 = 0 → (0 < p → p < n) → Fit a b mtu n p (pieces a b mtu n f p)
  | 0, _, h, _, _, _ => by omega
  | f + 1, p, h, hp, h8, h0 => by
    have := room_ge ha hb p
    unfold pieces
    split
    · exact ⟨rfl, h8, h0, by show p + (n - p) ≤ n; omega, by assumption, fun _ => by show p + (n - p) = n; omega, fun h => absurd rfl h, by show p + (n - p) = n; omega⟩
    · refine ⟨rfl, h8, h0, by show p + _ ≤ n; omega, by show room a b mtu p / 8 * 8 ≤ _; omega, fun h => ?_, fun _ => ⟨by show 0 < room a b mtu p / 8 * 8; omega, by show room a b mtu p / 8 * 8 % 8 = 0; omega, by show p + _ < n; omega, by show room a b mtu p < room a b mtu p / 8 * 8 + 8; omega⟩, parts_fit ha hb f _ (by omega) (by omega) (by omega) (by omega)⟩
      exact absurd h (pieces_ne ha hb f _ (by omega))
theorem Fit.mem : ∀ {l : List (Nat × Nat)} {p i : Nat} {x : Nat × Nat}, Fit a b mtu n p l → l[i]? = some x →
    x.1 % 8 = 0 ∧ (0 < x.1 → x.1 < n) ∧ x.1 + x.2 ≤ n ∧ x.2 ≤ room a b mtu x.1 ∧ (i + 1 = l.length → x.1 + x.2 = n) ∧ (i + 1 < l.length → 0 < x.2 ∧ x.2 % 8 = 0 ∧ x.1 + x.2 < n ∧ room a b mtu x.1 < x.2 + 8) ∧ p ≤ x.1 ∧ (0 < i → p < x.1)
  | [], _, _, _, _, h => by simp at h
  | y :: l, p, 0, x, hf, h => by
    simp at h; subst h
    obtain ⟨h1, h2, h3, h4, h5, h6, h7, _⟩ := hf
    subst h1
    exact ⟨h2, h3, h4, h5, fun hl => h6 (List.eq_nil_of_length_eq_zero (by rw [List.length_cons] at hl; omega)), fun hl => h7 (fun e => by subst e; simp at hl), Nat.le_refl _, fun h => by omega⟩
  | y :: l, p, i + 1, x, hf, h => by
    obtain ⟨h1, h2, h3, h4, h5, h6, h7, h8⟩ := hf
    have h : l[i]? = some x := by simpa using h
    obtain ⟨k1, k2, k3, k4, k5, k6, k7, k8⟩ := Fit.mem h8 h
    have hne : l ≠ [] := fun e => by subst e; simp at h
    have := h7 hne
    exact ⟨k1, k2, k3, k4, fun hl => k5 (by simpa using hl), fun hl => k6 (by simpa using hl), by omega, fun _ => by omega⟩
end
theorem hd4_two (d : Ip4D) : hd4 d ≤ 60 ∧ hd4k d ≤ 60 ∧ 20 ≤ hd4 d ∧ 20 ≤ hd4k d := by
  have := putOpts4_len d.opts
  have := putOpts4_len (d.opts.filter hi)
  unfold hd4 hd4k; omega
theorem ser4S_len {d : Ip4D} (hc : check4S d = 0) : (ser4S d).2 = 0 ∧ (ser4S d).1.length = hd4 d + d.data.length := by
  unfold ser4S
  rw [if_neg (by omega)]
  refine ⟨rfl, ?_⟩
  have : (front4 d).length = 10 := rfl
  unfold back4 hd4
  simp only [List.length_append, this, List.length_cons, List.length_nil]
  have : (ip4B d.src).length = 4 := rfl
  have : (ip4B d.dst).length = 4 := rfl
  omega
end Go.Eng
/- Chapter 13 by value: what each piece of version 6 is worth. -/
namespace Go.Eng
open Go Go.RowKit
theorem bodyS_kind {x : ExtD} (h : (bodyS x).2 = 0) : x.kind = 43 ∨ x.kind = 0 ∨ x.kind = 60 := by
  unfold bodyS at h
  split at h
  · exact .inl (by assumption)
  · split at h
    · rename_i h1; exact .inr h1
    · cases h
theorem firstR_range {d : Ip6D} (h : (ser6S d).2 = 0) : 0 ≤ firstR d ∧ firstR d ≤ 255 := by
  rcases ser6S_cases d with ⟨h0, _⟩ | ⟨_, h1, h2, _, _, _⟩
  · exact absurd h h0
  · unfold firstR
    split
    · rename_i x l hx
      obtain ⟨_, ho, _⟩ := headersS_ok h2
      have hmem : x ∈ d.exts := List.mem_of_mem_drop (by rw [hx]; simp)
      obtain ⟨j, hj⟩ := List.mem_iff_getElem?.1 hmem
      have := (ho j x (List.getElem?_eq_some_iff.1 hj).1 hj).2
      have := bodyS_kind this
      omega
    · unfold fieldBad at h1; omega
theorem piece6_ok {d : Ip6D} {mtu : Nat} {id : Int} (h : (ser6S d).2 = 0) (hf : d.frag.has = false) (hid : 0 ≤ id ∧ id ≤ 4294967295) (hm : mtu ≤ 65535) (hh : hd6 d + 8 ≤ mtu) {xs : List (Nat × Nat)} (hfit : Fit (hd6 d) (hd6 d) mtu (rest6 d).length 0 xs) {i : Nat} {x : Nat × Nat} (hx : xs[i]? = some x) :
    (ser6S (piece6 d id x)).2 = 0 ∧ (piece6 d id x).data.length = x.2 ∧ (ser6S (piece6 d id x)).1.length = hd6 d + x.2 ∧ hd6 d + x.2 ≤ mtu := by
  obtain ⟨k1, k2, k3, k4, k5, k6, _, _⟩ := hfit.mem hx
  obtain ⟨e1, e2, e3, e4, e5⟩ := split6_len h hf 44
  have hsl := ser6S_len d
  have hfr := firstR_range h
  have hd : hd6 d = 48 + (headersS (d.exts.take (keptS d.exts)) 44 true).1.length := by unfold hd6; omega
  have hlen : (piece6 d id x).data.length = x.2 := by unfold piece6; simp only [List.length_take, List.length_drop]; omega
  have hle : hd6 d + x.2 ≤ mtu := by
    unfold room at k4
    split at k4 <;> omega
  have hb : behindK (piece6 d id x) = 44 := rfl
  have hex : (piece6 d id x).exts = d.exts.take (keptS d.exts) := rfl
  have hfb : (fragB (piece6 d id x)).length = 8 := rfl
  have hbl : (bodyB (piece6 d id x)).length = (headersS (d.exts.take (keptS d.exts)) 44 true).1.length + 8 + x.2 := by
    unfold bodyB
    rw [List.length_append, List.length_append, hb, hex, hfb, hlen]; omega
  have hbad : ¬ fieldBad (piece6 d id x) := by
    unfold fieldBad at e4 ⊢
    have : (piece6 d id x).next = firstR d := rfl
    rw [this]
    intro hq
    apply e4
    rcases hq with hq | hq | hq | hq | hq | hq | hq | hq | hq | hq
    · exact .inl hq
    · exact .inr (.inl hq)
    · exact .inr (.inr (.inl hq))
    · exact .inr (.inr (.inr (.inl hq)))
    · exact .inr (.inr (.inr (.inr (.inl hq))))
    · exact .inr (.inr (.inr (.inr (.inr (.inl hq)))))
    · exact .inr (.inr (.inr (.inr (.inr (.inr (.inl hq))))))
    · exact .inr (.inr (.inr (.inr (.inr (.inr (.inr (.inl hq)))))))
    · omega
    · omega
  have hfe : fragE (piece6 d id x) = 0 := by
    unfold fragE
    have hfg : (piece6 d id x).frag = ⟨true, decide (x.1 + x.2 < (rest6 d).length), id, x.1⟩ := rfl
    rw [hfg, hlen]
    simp only
    rw [if_pos True.intro, if_neg]
    have hft : fitsS ⟨true, decide (x.1 + x.2 < (rest6 d).length), id, x.1⟩ x.2 = true := by
      unfold fitsS
      simp only
      refine decide_eq_true ⟨?_, by omega⟩
      have hi := (List.getElem?_eq_some_iff.1 hx).1
      rintro (⟨h1, h2⟩ | ⟨h1, h2⟩)
      · have h1 := of_decide_eq_true h1
        have := k6 (by
          rcases Nat.lt_or_ge (i + 1) xs.length with hl | hl
          · exact hl
          · have := k5 (by omega); omega)
        omega
      · have := k2 (by omega)
        rcases Nat.lt_or_ge (i + 1) xs.length with hl | hl
        · have := k6 hl; omega
        · have := k5 (by omega); omega
    rw [hft]
    intro hq
    rcases hq with hq | hq | hq | hq | hq | hq
    · omega
    · omega
    · omega
    · omega
    · omega
    · cases hq
  have key : ser6S (piece6 d id x) = (head6 (piece6 d id x) (bodyB (piece6 d id x)).length ++ ((piece6 d id x).src.bytes ++ ((piece6 d id x).dst.bytes ++ bodyB (piece6 d id x))), 0) := by
    unfold ser6S
    rw [if_neg hbad, hb, hex, if_neg (by omega), if_neg (by omega), if_neg (by omega)]
  refine ⟨by rw [key], hlen, ?_, hle⟩
  rw [key]
  have h8 : ∀ n, (head6 (piece6 d id x) n).length = 8 := fun _ => rfl
  have hs : (piece6 d id x).src.bytes.length = 16 := rfl
  have ht : (piece6 d id x).dst.bytes.length = 16 := rfl
  simp only [List.length_append, h8, hs, ht, hbl]
  omega
theorem split6_again {d : Ip6D} {mtu id : Int} (h : (ser6S d).2 = 0) (hm : 1280 ≤ mtu ∧ mtu ≤ 65535) (hid : 0 ≤ id ∧ id ≤ 4294967295) (hl : ((ser6S d).1.length : Int) ≤ mtu) : split6S d mtu id = ([d], 0) := by
  unfold split6S
  rw [if_neg (by omega), if_neg (by omega), if_neg (by omega), if_pos hl]
/-- The pieces: one, the whole, or parts that fit. -/
theorem split6_fit {d : Ip6D} {mtu id : Int} (h : (split6S d mtu id).2 = 0) : (ser6S d).2 = 0 ∧ 1280 ≤ mtu ∧ mtu ≤ 65535 ∧ 0 ≤ id ∧ id ≤ 4294967295 ∧
    ((((ser6S d).1.length : Int) ≤ mtu ∧ split6S d mtu id = ([d], 0)) ∨
     (d.frag.has = false ∧ ¬ ((ser6S d).1.length : Int) ≤ mtu ∧ hd6 d + 8 ≤ mtu.toNat ∧ split6S d mtu id = ((parts (hd6 d) (hd6 d) mtu.toNat (rest6 d).length 0).map (piece6 d id), 0) ∧
      Fit (hd6 d) (hd6 d) mtu.toNat (rest6 d).length 0 (parts (hd6 d) (hd6 d) mtu.toNat (rest6 d).length 0) ∧ parts (hd6 d) (hd6 d) mtu.toNat (rest6 d).length 0 ≠ [])) := by
  unfold split6S at h ⊢
  split at h
  · rename_i h1; exact absurd h h1
  · rename_i h1
    rw [if_neg h1]
    split at h
    · cases h
    · rename_i h2
      rw [if_neg h2]
      split at h
      · cases h
      · rename_i h3
        rw [if_neg h3]
        refine ⟨by omega, by omega, by omega, by omega, by omega, ?_⟩
        split at h
        · rename_i h4
          rw [if_pos h4]
          exact .inl ⟨h4, rfl⟩
        · rename_i h4
          rw [if_neg h4]
          split at h
          · cases h
          · rename_i h5
            rw [if_neg h5]
            split at h
            · cases h
            · rename_i h6
              rw [if_neg h6]
              exact .inr ⟨by simpa using h5, h4, by omega, rfl, parts_fit (by omega) (by omega) _ _ (by omega) (Nat.zero_le _) rfl (fun h => by omega), pieces_ne (by omega) (by omega) _ _ (by omega)⟩
/-- What each piece is worth. -/
theorem may6 {d : Ip6D} {mtu id : Int} (h : (split6S d mtu id).2 = 0) : (split6S d mtu id).1 ≠ [] ∧ ∀ i q, (split6S d mtu id).1[i]? = some q →
    (ser6S q).2 = 0 ∧ ((ser6S q).1.length : Int) ≤ mtu ∧ split6S q mtu id = ([q], 0) ∧ (i + 1 < (split6S d mtu id).1.length → mtu < ((ser6S q).1.length : Int) + 8 ∧ q.data.length % 8 = 0 ∧ q.data.length ≠ 0) := by
  obtain ⟨h1, m1, m2, i1, i2, hcase⟩ := split6_fit h
  rcases hcase with ⟨hl, he⟩ | ⟨hf, hl, hh, he, hfit, hne⟩
  · rw [he]
    refine ⟨by simp, fun i q hq => ?_⟩
    match i, hq with
    | 0, hq =>
      simp at hq; subst hq
      exact ⟨h1, hl, he, fun hlt => by simp at hlt⟩
    | i + 1, hq => simp at hq
  · rw [he]
    refine ⟨by simpa using hne, fun i q hq => ?_⟩
    simp only [List.getElem?_map] at hq
    cases hx : (parts (hd6 d) (hd6 d) mtu.toNat (rest6 d).length 0)[i]? with
    | none => rw [hx] at hq; cases hq
    | some x =>
      rw [hx] at hq
      simp at hq; subst hq
      obtain ⟨p1, p2, p3, p4⟩ := piece6_ok (mtu := mtu.toNat) h1 hf ⟨i1, i2⟩ (by omega) hh hfit hx
      obtain ⟨_, _, _, _, _, k6, _, _⟩ := hfit.mem hx
      refine ⟨p1, by omega, split6_again p1 ⟨m1, m2⟩ ⟨i1, i2⟩ (by omega), fun hlt => ?_⟩
      have := k6 (by simpa using hlt)
      rw [p2, p3]
      unfold room at this
      split at this <;> omega
end Go.Eng
